/- What is proved: see the last text of this claim. -/
import Derived.Test.YtmlgfablnbbceaaGreatKb
import Derived.Test.YtmlgfablnbbceaaGreatProg
import Derived.KernelRfl
set_option linter.all false
namespace Go.Proofs.YtmlgfablnbbceaaGreat
namespace Am
open Go Go.RowKit
def z2 : AV := .int .i64 0
def z3 : AV := .int .i64 0
def z4 : AV := .bool false
def z5 : AV := .int .u8 0
def z12 : AV := .int .u64 0
def z21 : AV := .int .i32 0
def X7x : AV := .int .i8 0
def z23 : AV := .st [z5, z5, X7x, X7x, X7x, X7x, X7x, X7x]
def X63 : AV := .st [z5, z5, X7x, X7x, X7x, X7x, X7x, X7x]
def z25 : AV := .st [X63, X63, z5]
def z26 : AV := .st [X63, X63, z5]
def X7y : AV := .int .i16 0
def z28 : AV := .st [X7y, X7y, z5]
def X7n : AV := .st [X7y, X7y, z5]
def X7p : AV := .sl 1 []
def z32 : AV := .st [z4, X7p]
def X6z : AV := .st [z4, X7p]
def z34 : AV := .st [X6z, X6z]
def X62 : AV := .st [X6z, X6z]
def z36 : AV := .st [X62, X62, X62]
def X7c : AV := .st [X62, X62, X62]
def z38 : AV := .st [X62, X62, X62]
def X64 : AV := .st [X62, X62, X62]
def z40 : AV := .st [X62, X62, X62, X62, X62]
def X67 : AV := .st [X62, X62, X62, X62, X62]
def z42 : AV := .st [z4, X7c, X64, z4, X67, X67]
def z43 : AV := .st [z4, X7c, X64, z4, X67, X67]
def z46 : AV := .st [X62, X62]
def z47 : AV := .st [X62, X62]
def z49 : AV := .st [X62, X62, X62]
def z61 : AV := .sl 20 []
def z62 : AV := .sl 66 []
def z66 : AV := .int .i64 0
def z72 : AV := .st [X7n, X7n]
def z77 : AV := .sl 8 []
def z80 : AV := .sl 1 []
def X7j : AV := .int .u16 0
def z87 : AV := .st [X7y, X7y, X7y, X7y, X7j, z5]
def z88 : AV := .st [X7y, X7y, X7y, X7y, X7j, z5]
def z94 : AV := .st [X7x, X7x, X7x]
def X6i : AV := .sl 4 []
def X59 : AV := .int .u32 0
def X6a : AV := .int .u64 0
def X6n : AV := .st [X62, X62]
def X6k : AV := .st [X62, X62]
def X6c : AV := .st [X62, X62, X62, X62, X62, X62]
def X6g : AV := .st [X62, X62, X62, X62, X62, X62]
def X6f : AV := .st [z2, z2]
def X6j : AV := .st [z2, z2]
def X56 : AV := .st [z4]
def X6b : AV := .st [z4]
def X6h : AV := .sl 1 []
def X57 : AV := .int .u64 0
def TL : List (Nat × Ty) := [
  (2, { size := 1, zero := z2, kind := 4, ik := .i64 }),
  (3, { size := 1, zero := z3, kind := 4, ik := .i64 }),
  (4, { size := 1, zero := z4, kind := 5 }),
  (5, { size := 1, zero := z5, kind := 4, ik := .u8 }),
  (12, { size := 1, zero := z12, kind := 4, ik := .u64 }),
  (21, { size := 1, zero := z21, kind := 4, ik := .i32 }),
  (22, { size := 1, zero := X7x, kind := 4, ik := .i8 }),
  (23, { size := 8, zero := z23, agg := true, kind := 1, flds := [(0, 1, 5), (1, 1, 5), (2, 1, 22), (3, 1, 22), (4, 1, 22), (5, 1, 22), (6, 1, 22), (7, 1, 22)] }),
  (24, { size := 8, zero := X63, agg := true, kind := 1, flds := [(0, 1, 5), (1, 1, 5), (2, 1, 22), (3, 1, 22), (4, 1, 22), (5, 1, 22), (6, 1, 22), (7, 1, 22)] }),
  (25, { size := 17, zero := z25, agg := true, kind := 1, flds := [(0, 8, 24), (8, 8, 24), (16, 1, 5)] }),
  (26, { size := 17, zero := z26, agg := true, kind := 1, flds := [(0, 8, 24), (8, 8, 24), (16, 1, 5)] }),
  (27, { size := 1, zero := X7y, kind := 4, ik := .i16 }),
  (28, { size := 3, zero := z28, agg := true, kind := 1, flds := [(0, 1, 27), (1, 1, 27), (2, 1, 5)] }),
  (29, { size := 3, zero := X7n, agg := true, kind := 1, flds := [(0, 1, 27), (1, 1, 27), (2, 1, 5)] }),
  (31, { size := 1, zero := X7p, elem := 183, esz := 1, eby := 4, kind := 2 }),
  (32, { size := 2, zero := z32, agg := true, kind := 1, flds := [(0, 1, 4), (1, 1, 31)] }),
  (33, { size := 2, zero := X6z, agg := true, kind := 1, flds := [(0, 1, 4), (1, 1, 31)] }),
  (34, { size := 4, zero := z34, agg := true, kind := 1, flds := [(0, 2, 33), (2, 2, 33)] }),
  (35, { size := 4, zero := X62, agg := true, kind := 1, flds := [(0, 2, 33), (2, 2, 33)] }),
  (36, { size := 12, zero := z36, agg := true, kind := 1, flds := [(0, 4, 35), (4, 4, 35), (8, 4, 35)] }),
  (37, { size := 12, zero := X7c, agg := true, kind := 1, flds := [(0, 4, 35), (4, 4, 35), (8, 4, 35)] }),
  (38, { size := 12, zero := z38, agg := true, kind := 1, flds := [(0, 4, 35), (4, 4, 35), (8, 4, 35)] }),
  (39, { size := 12, zero := X64, agg := true, kind := 1, flds := [(0, 4, 35), (4, 4, 35), (8, 4, 35)] }),
  (40, { size := 20, zero := z40, agg := true, kind := 1, flds := [(0, 4, 35), (4, 4, 35), (8, 4, 35), (12, 4, 35), (16, 4, 35)] }),
  (41, { size := 20, zero := X67, agg := true, kind := 1, flds := [(0, 4, 35), (4, 4, 35), (8, 4, 35), (12, 4, 35), (16, 4, 35)] }),
  (42, { size := 66, zero := z42, agg := true, kind := 1, flds := [(0, 1, 4), (1, 12, 37), (13, 12, 39), (25, 1, 4), (26, 20, 41), (46, 20, 41)] }),
  (43, { size := 66, zero := z43, agg := true, kind := 1, flds := [(0, 1, 4), (1, 12, 37), (13, 12, 39), (25, 1, 4), (26, 20, 41), (46, 20, 41)] }),
  (46, { size := 8, zero := z46, agg := true, kind := 1, flds := [(0, 4, 35), (4, 4, 35)] }),
  (47, { size := 8, zero := z47, agg := true, kind := 1, flds := [(0, 4, 35), (4, 4, 35)] }),
  (49, { size := 12, zero := z49, agg := true, kind := 1, flds := [(0, 4, 35), (4, 4, 35), (8, 4, 35)] }),
  (61, { size := 1, zero := z61, elem := 41, esz := 20, eby := 320, kind := 2 }),
  (62, { size := 1, zero := z62, elem := 43, esz := 66, eby := 1040, kind := 2 }),
  (66, { size := 1, zero := z66, kind := 4, ik := .i64 }),
  (72, { size := 6, zero := z72, elem := 29, esz := 3, eby := 6, agg := true, kind := 3, alen := 2 }),
  (77, { size := 1, zero := z77, elem := 24, esz := 8, eby := 8, kind := 2 }),
  (80, { size := 1, zero := z80, elem := 3, esz := 1, eby := 8, kind := 2 }),
  (86, { size := 1, zero := X7j, kind := 4, ik := .u16 }),
  (87, { size := 6, zero := z87, agg := true, kind := 1, flds := [(0, 1, 27), (1, 1, 27), (2, 1, 27), (3, 1, 27), (4, 1, 86), (5, 1, 5)] }),
  (88, { size := 6, zero := z88, agg := true, kind := 1, flds := [(0, 1, 27), (1, 1, 27), (2, 1, 27), (3, 1, 27), (4, 1, 86), (5, 1, 5)] }),
  (94, { size := 3, zero := z94, elem := 22, esz := 1, eby := 1, agg := true, kind := 3, alen := 3 }),
  (136, { size := 1, zero := X6i, elem := 35, esz := 4, eby := 64, kind := 2 }),
  (183, { size := 1, zero := X59, kind := 4, ik := .u32 }),
  (189, { size := 1, zero := X6a, kind := 4, ik := .u64 }),
  (193, { size := 8, zero := X6n, agg := true, kind := 1, flds := [(0, 4, 35), (4, 4, 35)] }),
  (194, { size := 8, zero := X6k, agg := true, kind := 1, flds := [(0, 4, 35), (4, 4, 35)] }),
  (197, { size := 24, zero := X6c, agg := true, kind := 1, flds := [(0, 4, 35), (4, 4, 35), (8, 4, 35), (12, 4, 35), (16, 4, 35), (20, 4, 35)] }),
  (198, { size := 24, zero := X6g, agg := true, kind := 1, flds := [(0, 4, 35), (4, 4, 35), (8, 4, 35), (12, 4, 35), (16, 4, 35), (20, 4, 35)] }),
  (231, { size := 2, zero := X6f, agg := true, kind := 1, flds := [(0, 1, 2), (1, 1, 2)] }),
  (232, { size := 2, zero := X6j, agg := true, kind := 1, flds := [(0, 1, 2), (1, 1, 2)] }),
  (241, { size := 1, zero := X56, agg := true, kind := 1, flds := [(0, 1, 4)] }),
  (242, { size := 1, zero := X6b, agg := true, kind := 1, flds := [(0, 1, 4)] }),
  (258, { size := 1, zero := X6h, elem := 2, esz := 1, eby := 8, kind := 2 }),
  (267, { size := 1, zero := X57, kind := 4, ik := .u64 })]
theorem X6y : Xe4 Tryz.prog TL := by unfold Xe4; kernel_rfl
theorem X6s : Tryz.prog.follows .mixedOrders = true := by kernel_rfl
end Am
end Go.Proofs.YtmlgfablnbbceaaGreat

namespace Go.Proofs.YtmlgfablnbbceaaGreat
namespace Lm
abbrev B : Int := 1000000000
def V : List Int → Int
  | [] => 0
  | x :: xs => x + 1000000000 * V xs
def G (l : List Int) : Prop := ∀ x ∈ l, 0 ≤ x ∧ x < 1000000000
def P (n : Nat) : Int := 1000000000 ^ n
theorem P_zero : P 0 = 1 := rfl
theorem P_succ (n : Nat) : P (n+1) = 1000000000 * P n := by unfold P; rw [Int.pow_succ]; grind
theorem P_pos (n : Nat) : 0 < P n := by
  induction n with
  | zero => decide
  | succ n ih => rw [P_succ]; omega
theorem P_add (m n : Nat) : P (m + n) = P m * P n := by
  induction n with
  | zero => simp [P_zero]
  | succ n ih => rw [← Nat.add_assoc, P_succ, P_succ, ih]; grind
theorem P_mono {m n : Nat} (h : m ≤ n) : P m ≤ P n := by
  induction h with
  | refl => exact Int.le_refl _
  | @step n h ih => rw [P_succ]; have := P_pos n; omega
@[simp] theorem V_nil : V [] = 0 := rfl
theorem V_cons (x : Int) (xs : List Int) : V (x :: xs) = x + 1000000000 * V xs := rfl
theorem V_append (a b : List Int) : V (a ++ b) = V a + P a.length * V b := by
  induction a with
  | nil => simp [P_zero]
  | cons x xs ih => rw [List.cons_append, V_cons, V_cons, ih, List.length_cons, P_succ]; grind
theorem G_nil : G [] := fun _ h => by simp at h
theorem G_cons {x : Int} {xs : List Int} : G (x :: xs) ↔ (0 ≤ x ∧ x < 1000000000) ∧ G xs := by
  unfold G; simp
theorem G_append {a b : List Int} : G (a ++ b) ↔ G a ∧ G b := by
  unfold G; simp only [List.mem_append]; constructor
  · intro h; exact ⟨fun x hx => h x (.inl hx), fun x hx => h x (.inr hx)⟩
  · rintro ⟨h, k⟩ x (hx | hx)
    · exact h x hx
    · exact k x hx
theorem G_take {l : List Int} (h : G l) (n : Nat) : G (l.take n) := fun x hx => h x (List.mem_of_mem_take hx)
theorem G_drop {l : List Int} (h : G l) (n : Nat) : G (l.drop n) := fun x hx => h x (List.mem_of_mem_drop hx)
theorem V_bound {l : List Int} (h : G l) : 0 ≤ V l ∧ V l < P l.length := by
  induction l with
  | nil => simp [P_zero]
  | cons x xs ih =>
    have := G_cons.1 h; have := ih this.2
    rw [V_cons, List.length_cons, P_succ]; omega
theorem V_zeros (n : Nat) : V (List.replicate n 0) = 0 := by
  induction n with
  | zero => rfl
  | succ n ih => rw [List.replicate_succ, V_cons, ih]; rfl
theorem G_zeros (n : Nat) : G (List.replicate n 0) := fun x hx => by
  have := (List.mem_replicate.1 hx).2; omega
theorem V_split (l : List Int) (n : Nat) (h : n ≤ l.length) : V l = V (l.take n) + P n * V (l.drop n) := by
  have := V_append (l.take n) (l.drop n)
  rw [List.take_append_drop, List.length_take, Nat.min_eq_left h] at this; exact this
theorem getD_drop (l : List Int) (i : Nat) (h : i < l.length) : l.drop i = l.getD i 0 :: l.drop (i+1) := by
  rw [List.drop_eq_getElem_cons h]; simp [List.getD, h]
theorem Xp3 (l : List Int) (i : Nat) (h : i < l.length) : l.take (i+1) = l.take i ++ [l.getD i 0] := by
  rw [List.take_succ_eq_append_getElem h]; simp [List.getD, h]
theorem Xph (l : List Int) (i : Nat) (h : i < l.length) : V (l.take (i+1)) = V (l.take i) + P i * l.getD i 0 := by
  rw [Xp3 l i h, V_append, List.length_take, Nat.min_eq_left (by omega), V_cons, V_nil]; grind
theorem G_get {l : List Int} (h : G l) (i : Nat) : 0 ≤ l.getD i 0 ∧ l.getD i 0 < 1000000000 := by
  by_cases hi : i < l.length
  · have : l.getD i 0 = l[i] := by simp [List.getD, hi]
    rw [this]; exact h _ (List.getElem_mem _)
  · have : l.getD i 0 = 0 := by simp [List.getD, List.getElem?_eq_none (Nat.le_of_not_lt hi)]
    omega
theorem V_set (l : List Int) (i : Nat) (x : Int) (h : i < l.length) : V (l.set i x) = V l + P i * (x - l.getD i 0) := by
  induction l generalizing i with
  | nil => simp at h
  | cons y ys ih =>
    cases i with
    | zero => simp [V_cons, P_zero]; omega
    | succ i =>
      rw [List.set_cons_succ, V_cons, V_cons, ih i (by simpa using h), P_succ]
      simp only [List.getD_cons_succ]; grind
theorem G_set {l : List Int} (h : G l) (i : Nat) {x : Int} (h0 : 0 ≤ x) (h1 : x < 1000000000) : G (l.set i x) := fun y hy => by
  rcases List.mem_or_eq_of_mem_set hy with hy | rfl
  · exact h y hy
  · exact ⟨h0, h1⟩

def Nz (l : List Int) : Prop := ∀ h : l ≠ [], l.getLast h ≠ 0
def trim : List Int → List Int
  | [] => []
  | x :: xs => match trim xs with
    | [] => if x = 0 then [] else [x]
    | y :: ys => x :: y :: ys
theorem V_trim (l : List Int) : V (trim l) = V l := by
  induction l with
  | nil => rfl
  | cons x xs ih =>
    unfold trim; split
    · rename_i h; rw [h] at ih; split
      · simp only [V_cons, V_nil] at *; omega
      · simp only [V_cons, V_nil] at *; omega
    · rename_i h; rw [h] at ih; simp only [V_cons] at *; omega

def digs (n : Nat) : List Int := if h : n = 0 then [] else ((n % 1000000000 : Nat) : Int) :: digs (n / 1000000000)
decreasing_by omega
theorem digs_zero : digs 0 = [] := by unfold digs; simp
theorem digs_pos {n : Nat} (h : n ≠ 0) : digs n = ((n % 1000000000 : Nat) : Int) :: digs (n / 1000000000) := by
  rw [digs]; simp [h]
theorem digs_spec (n : Nat) : V (digs n) = n ∧ G (digs n) ∧ Nz (digs n) := by
  induction n using Nat.strongRecOn with
  | _ n ih =>
    by_cases h : n = 0
    · subst h; rw [digs_zero]; exact ⟨rfl, G_nil, fun h => absurd rfl h⟩
    · obtain ⟨h1, h2, h3⟩ := ih (n / 1000000000) (by omega)
      rw [digs_pos h]
      refine ⟨by rw [V_cons, h1]; omega, G_cons.2 ⟨by omega, h2⟩, fun hne => ?_⟩
      by_cases h0 : n / 1000000000 = 0
      · have : digs (n / 1000000000) = [] := by rw [h0, digs_zero]
        simp only [this, List.getLast_singleton]; omega
      · have h4 := digs_pos h0
        have h5 : digs (n / 1000000000) ≠ [] := by rw [h4]; simp
        rw [List.getLast_cons h5]; exact h3 h5
theorem Nz_pos {l : List Int} (hg : G l) (hn : Nz l) (hl : l ≠ []) : P (l.length - 1) ≤ V l := by
  have h1 := V_split l (l.length - 1) (by omega)
  have hlen : 0 < l.length := List.length_pos_iff.2 hl
  rw [getD_drop l (l.length - 1) (by omega), show l.length - 1 + 1 = l.length by omega, List.drop_length, V_cons, V_nil] at h1
  have h2 : l.getD (l.length - 1) 0 = l.getLast hl := by
    rw [List.getLast_eq_getElem, List.getD_eq_getElem?_getD, List.getElem?_eq_getElem (by omega)]; rfl
  have h3 := hn hl
  have h4 := G_get hg (l.length - 1)
  have h5 := (V_bound (G_take hg (l.length - 1))).1
  rw [h2] at h1 h4
  have h6 := P_pos (l.length - 1)
  have : P (l.length - 1) * 1 ≤ P (l.length - 1) * (l.getLast hl + 1000000000 * 0) := Int.mul_le_mul_of_nonneg_left (by omega) (by omega)
  omega
theorem X6e {a b : List Int} (ha : G a) (hb : G b) (na : Nz a) (nb : Nz b) (h : V a = V b) : a = b := by
  induction a generalizing b with
  | nil =>
    cases b with
    | nil => rfl
    | cons y ys =>
      have := Nz_pos hb nb (by simp); have := P_pos ((y :: ys).length - 1); simp only [V_nil] at h; omega
  | cons x xs ih =>
    cases b with
    | nil =>
      have := Nz_pos ha na (by simp); have := P_pos ((x :: xs).length - 1); simp only [V_nil] at h; omega
    | cons y ys =>
      have hx := G_cons.1 ha; have hy := G_cons.1 hb
      rw [V_cons, V_cons] at h
      have hxy : x = y := by omega
      have hv : V xs = V ys := by omega
      have nx : Nz xs := fun hne => by have := na (by simp); rwa [List.getLast_cons hne] at this
      have ny : Nz ys := fun hne => by have := nb (by simp); rwa [List.getLast_cons hne] at this
      rw [hxy, ih hx.2 hy.2 nx ny hv]
theorem digs_len {n m : Nat} (h : (n : Int) < P m) : (digs n).length ≤ m := by
  obtain ⟨h1, h2, h3⟩ := digs_spec n
  refine Nat.le_of_not_lt fun hc => ?_
  have hne : digs n ≠ [] := by intro e; rw [e] at hc; simp at hc
  have := Nz_pos h2 h3 hne
  have := P_mono (show m ≤ (digs n).length - 1 by omega)
  omega
theorem digs_lt (n : Nat) : (n : Int) < P (digs n).length := by
  obtain ⟨h1, h2, h3⟩ := digs_spec n
  have := (V_bound h2).2; rwa [h1] at this
end Lm
end Go.Proofs.YtmlgfablnbbceaaGreat

namespace Go.Proofs.YtmlgfablnbbceaaGreat
namespace Am
open Go Go.RowKit

def uw (a : List Int) : List AV := a.map fun x => .int .u32 x
def Xf (z : Int) : AV := .st [.bool (decide (z < 0)), .sl 1 (uw (Lm.digs z.natAbs))]
def Xc (q : Rat) : AV := .st [Xf q.num, Xf (q.den : Int)]
def Xbz {α : Type} (sz : Nat) (f : α → AV) (l : List α) : AV := .sl sz (l.map f)
def Xdr {α : Type} (f : α → AV) (z ok err : AV) : Option α → AV
  | some x => .tup [f x, ok]
  | none => .tup [z, err]
def Xfb {α β : Type} (o : Option α) (f : α → β) (d : β) : β := match o with
  | some x => f x
  | none => d
theorem Xib {α β : Type} (x : α) (f : α → β) (d : β) : Xfb (some x) f d = f x := rfl
theorem Xxh {α β : Type} (f : α → β) (d : β) : Xfb none f d = d := rfl
theorem X7 (b : Bool) : b = true ∨ b = false := by cases b <;> simp
theorem Xbs {α : Type} (o : Option α) : o = none ∨ ∃ x, o = some x := by cases o <;> simp
theorem Jl {P : Program} {f : Nat} {xs : List AV} {r r' : AV} (h : CS P f xs r) (hr : r = r') : CS P f xs r' := hr ▸ h
theorem X5j {b : Bool} (h : b = true) : (!b) = false := by rw [h]; rfl
theorem X5q {b : Bool} (h : b = false) : (!b) = true := by rw [h]; rfl
theorem Xdt {b : Bool} (h : (!b) = true) : b = false := by cases b <;> simp at h ⊢
theorem Xas {b : Bool} (h : (!b) = false) : b = true := by cases b <;> simp at h ⊢
def X5c (g : Bool) : List Bool → Prop
  | [] => True
  | b :: r => (g = true → b = false) ∧ X5c g r
def X65 (g : Bool) (fl : List Bool) (p : Prop) : Prop := X5c g fl ∧ X6w g (p ∧ false = false)
theorem Xyy : ∀ fl : List Bool, X5c false fl
  | [] => trivial
  | _ :: r => And.intro (fun h => by cases h) (Xyy r)
theorem Xwa : ∀ n : Nat, X5c true (List.replicate n false)
  | 0 => trivial
  | n + 1 => And.intro (fun _ => rfl) (Xwa n)
theorem X1u (fl : List Bool) (p : Prop) : X65 false fl p := And.intro (Xyy fl) trivial
theorem gn (fl : List Bool) : X65 false fl True := X1u fl True
theorem Xh (n : Nat) {p : Prop} (h : p) : X65 true (List.replicate n false) p := And.intro (Xwa n) (And.intro h rfl)
theorem Xyt {L : List (Nat × Ty)} {e : X7l} {rv : List ResultVar} {r r' : AV} (h : Xca L e rv = some r) (hr : r = r') : Xca L e rv = some r' := hr ▸ h

def X66 (z : Int) : Nat := (Lm.digs z.natAbs).length
def X6p (q : Rat) : Nat := max (X66 q.num) (X66 (q.den : Int))
theorem Xdq (z : Int) (h : z.natAbs < 1000000000) : X66 z ≤ 1 := by
  unfold X66
  by_cases h0 : z.natAbs = 0
  · rw [h0, Lm.digs_zero]; simp
  · rw [Lm.digs_pos h0]
    have : z.natAbs / 1000000000 = 0 := Nat.div_eq_of_lt h
    rw [this, Lm.digs_zero]; simp
abbrev zI : AV := .st [.bool false, .sl 1 []]
abbrev zQ : AV := .st [zI, zI]
abbrev X61 : AV := .st [zQ, zQ, zQ]
abbrev X7q : AV := .st [zQ, zQ, zQ, zQ, zQ]
theorem aI {p q : Prop} (h : p) (k : q) : p ∧ q := ⟨h, k⟩
theorem oB {α : Type} (x : α) : True ∧ x = x := ⟨trivial, rfl⟩
def OA (_ : List AV) (p : Prop) : Prop := p
theorem oN : OA [] True := trivial
theorem oA (l : List AV) {rs : List AV} {p : Prop} (h : OA rs p) : OA (l ++ rs) p := h
theorem oT (n : Nat) {rs : List AV} {p : Prop} (h : OA rs p) : OA rs (tr n p) := Xzl h
theorem oC {P : Program} {f : Nat} {a : List AV} {r : AV} {rs : List AV} {q : Prop} (h : CS P f a r) (k : OA rs q) : OA (r :: rs) (CS P f a r ∧ q) := ⟨h, k⟩
theorem oO {p q : Prop} {rs : List AV} (h : p) (k : OA rs q) : OA rs (p ∧ q) := ⟨h, k⟩
theorem oS {p q : Prop} {r1 r2 : List AV} (h : OA r1 p) (k : OA r2 q) : OA (r1 ++ r2) (p ∧ q) := ⟨h, k⟩
theorem rh {N : Nat} {id : Nat} {ops : Array Oper} {draw : Bool} {Q : Exit → X7l → Prop} {e : X7l} (live : List (Loc × LV)) {rs : List AV} {ob : Prop} (hob : OA rs ob) (k : Q .normal (Xez live)) (h : X36 Tryz.prog TL ops N draw e rs (live.map (·.1) ++ [.o N]) = some (ob, live.map (·.2) ++ [Xez live (.o N)]) := by kernel_rfl) (hl : Xhb live = true := by kernel_rfl) : X6t Tryz.prog N (.region id ops draw) Q e := Xmw X6y X6s rs live ob h hob hl k
theorem sh {N : Nat} {Q : Exit → X7l → Prop} {e : X7l} (n : Nat) {c : Code} (live : List (Loc × LV)) {rs : List AV} {ob : Prop} (hob : OA rs ob) (k : X6t Tryz.prog N (X4x n c) Q (Xez live)) (h : X5z Tryz.prog TL N n c e rs (live.map (·.1) ++ [.o N]) = some (ob, live.map (·.2) ++ [Xez live (.o N)]) := by kernel_rfl) (hl : Xhb live = true := by kernel_rfl) : X6t Tryz.prog N c Q e := Xvk X6y X6s n rs live ob h hob hl k
theorem rt {N : Nat} {id : Nat} {ops : Array Oper} {draw : Bool} {y : Code} {Q : Exit → X7l → Prop} {e : X7l} (live : List (Loc × LV)) {rs : List AV} {ob : Prop} (hob : OA rs ob) (k : X2k Tryz.prog N y Q .normal (Xez live)) (h : X36 Tryz.prog TL ops N draw e rs (live.map (·.1) ++ [.o N]) = some (ob, live.map (·.2) ++ [Xez live (.o N)]) := by kernel_rfl) (hl : Xhb live = true := by kernel_rfl) : X6t Tryz.prog N (.seq (.region id ops draw) y) Q e := Xe (Xmw X6y X6s rs live ob h hob hl k)
theorem rs {N : Nat} {id : Nat} {ops : Array Oper} {draw : Bool} {y : Code} {Q : Exit → X7l → Prop} {e : X7l} (rs : List AV) (live : List (Loc × LV)) {ob : Prop} (hob : ob) (k : X2k Tryz.prog N y Q .normal (Xez live)) (h : X36 Tryz.prog TL ops N draw e rs (live.map (·.1) ++ [.o N]) = some (ob, live.map (·.2) ++ [Xez live (.o N)]) := by kernel_rfl) (hl : Xhb live = true := by kernel_rfl) : X6t Tryz.prog N (.seq (.region id ops draw) y) Q e := Xe (Xmw X6y X6s rs live ob h hob hl k)
theorem X7i {L : List (Nat × Ty)} {e : X7l} {rv : List ResultVar} (r : AV) {r2 : AV} (hr : r = r2) (h : Xca L e rv = some r := by kernel_rfl) : Xca L e rv = some r2 := hr ▸ h
theorem lv {α : Type} {L : List (Nat × Ty)} {e : X7l} {rv : List ResultVar} (f : α → AV) {a : α} (b : α) (h : a = b) (k : Xca L e rv = some (f b) := by kernel_rfl) : Xca L e rv = some (f a) := h ▸ k
theorem cO (N : Nat) {f : Nat} {fn : Func} {c : Code} {args : List AV} {r : AV} (hf : Tryz.prog.funcs[f]? = some fn) (h : X6t Tryz.prog N c (X52 TL fn.results.toList r) (X4v args)) (hb : fn.body = some c := by rfl) (hname : (fn.name == "runtime.NumGoroutine") = false := by rfl) (hn : fn.ntmps = N := by rfl) (hlen : Nat.ble args.length N = true := by rfl) (ha : args.all X60 = true := by rfl) (hr : X7b r = true := by rfl) : CS Tryz.prog f args r := Xge X6y hf hb hname hn hlen ha hr h
theorem cB {P : Program} {N : Nat} {Q : Exit → X7l → Prop} {e : X7l} {c : Operand} {x y : Code} (b : Bool) (hx : b = true → X6t P N x Q e) (hy : b = false → X6t P N y Q e) (hc : X73 e c = .bool b := by kernel_rfl) : X6t P N (.cond c x y) Q e := X06 hc hx hy
end Am
end Go.Proofs.YtmlgfablnbbceaaGreat

namespace Go.Proofs.YtmlgfablnbbceaaGreat
namespace Lm
theorem Xod (l : List Int) : trim (l ++ [0]) = trim l := by
  induction l with
  | nil => simp [trim]
  | cons x xs ih => rw [List.cons_append]; simp only [trim, ih]
theorem trim_cut {l : List Int} (hl : 0 < l.length) (h : l.getD (l.length - 1) 0 = 0) : trim (l.take (l.length - 1)) = trim l := by
  have h1 := Xp3 l (l.length - 1) (by omega)
  rw [show l.length - 1 + 1 = l.length by omega, List.take_length, h] at h1
  conv => rhs; rw [h1]
  rw [Xod]
theorem trim_last {x : Int} (hx : x ≠ 0) (l : List Int) : trim (l ++ [x]) = l ++ [x] := by
  induction l with
  | nil => simp [trim, hx]
  | cons y ys ih =>
    rw [List.cons_append]; simp only [trim, ih]
    cases ys <;> rfl
theorem trim_stop {l : List Int} (h : ¬ (0 < l.length) ∨ ¬ (l.getD (l.length - 1) 0 = 0)) : trim l = l := by
  by_cases hl : 0 < l.length
  · have h1 := Xp3 l (l.length - 1) (by omega)
    rw [show l.length - 1 + 1 = l.length by omega, List.take_length] at h1
    rw [h1]; exact trim_last (h.resolve_left (fun hc => hc hl)) _
  · have : l = [] := List.length_eq_zero_iff.1 (by omega)
    subst this; rfl
theorem trim_Nz (l : List Int) : Nz (trim l) := by
  induction l with
  | nil => exact fun h => absurd rfl h
  | cons x xs ih =>
    simp only [trim]
    split
    · split
      · exact fun h => absurd rfl h
      · rename_i hx; intro h; simpa using hx
    · rename_i y ys he
      intro h
      rw [he] at ih
      have := ih (by simp)
      rwa [List.getLast_cons (by simp)]
theorem G_trim {l : List Int} (h : G l) : G (trim l) := by
  induction l with
  | nil => exact h
  | cons x xs ih =>
    have hx := G_cons.1 h
    simp only [trim]
    split
    · split
      · exact G_nil
      · exact G_cons.2 ⟨hx.1, G_nil⟩
    · rename_i y ys he
      have := ih hx.2; rw [he] at this
      exact G_cons.2 ⟨hx.1, this⟩
theorem trim_len (l : List Int) : (trim l).length ≤ l.length := by
  induction l with
  | nil => exact Nat.le_refl _
  | cons x xs ih =>
    simp only [trim]
    split
    · split <;> simp
    · rename_i y ys he; rw [he] at ih; simpa using ih
theorem trim_digs {l : List Int} (h : G l) : trim l = digs (V l).natAbs := by
  obtain ⟨h1, h2, h3⟩ := digs_spec (V l).natAbs
  refine X6e (G_trim h) h2 (trim_Nz l) h3 ?_
  rw [V_trim, h1]; have := (V_bound h).1; omega
theorem G_digs (n : Nat) : G (digs n) := (digs_spec n).2.1
theorem V_digs (n : Nat) : V (digs n) = n := (digs_spec n).1

def dg : Nat → Int → List Int
  | 0, _ => []
  | n + 1, v => (v % 1000000000) :: dg n (v / 1000000000)
@[simp] theorem dg_len (n : Nat) (v : Int) : (dg n v).length = n := by
  induction n generalizing v with
  | zero => rfl
  | succ n ih => simp [dg, ih]
theorem G_dg (n : Nat) (v : Int) : G (dg n v) := by
  induction n generalizing v with
  | zero => exact G_nil
  | succ n ih => exact G_cons.2 ⟨by omega, ih _⟩
theorem V_dg {n : Nat} {v : Int} (h0 : 0 ≤ v) (h1 : v < P n) : V (dg n v) = v := by
  induction n generalizing v with
  | zero => rw [P_zero] at h1; simp only [dg, V_nil]; omega
  | succ n ih =>
    rw [P_succ] at h1
    simp only [dg, V_cons]
    rw [ih (by omega) (by omega)]; omega
theorem X50 {a b : List Int} (ha : G a) (hb : G b) (hl : a.length = b.length) (h : V a = V b) : a = b := by
  induction a generalizing b with
  | nil => exact (List.length_eq_zero_iff.1 hl.symm).symm
  | cons x xs ih =>
    cases b with
    | nil => simp at hl
    | cons y ys =>
      have hx := G_cons.1 ha; have hy := G_cons.1 hb
      rw [V_cons, V_cons] at h
      have hxy : x = y := by omega
      rw [hxy, ih hx.2 hy.2 (by simpa using hl) (by omega)]
theorem eq_dg {a : List Int} {n : Nat} {v : Int} (ha : G a) (hl : a.length = n) (h : V a = v) : a = dg n v := by
  subst hl h
  exact X50 ha (G_dg _ _) (by simp) (V_dg (V_bound ha).1 (V_bound ha).2).symm

theorem V_lt_len {a b : List Int} (ha : G a) (hb : G b) (nb : Nz b) (h : a.length < b.length) : V a < V b := by
  have h1 := (V_bound ha).2
  have h2 := Nz_pos hb nb (by intro hc; rw [hc] at h; simp at h)
  have h3 := P_mono (m := a.length) (n := b.length - 1) (by omega)
  omega
theorem V_lt_at {a b : List Int} (ha : G a) (hb : G b) {i : Nat} (hia : i < a.length) (hib : i < b.length) (hd : a.drop (i + 1) = b.drop (i + 1)) (h : a.getD i 0 < b.getD i 0) : V a < V b := by
  rw [V_split a i (by omega), V_split b i (by omega), getD_drop a i hia, getD_drop b i hib, V_cons, V_cons, hd]
  have h1 := V_bound (G_take ha i)
  have h2 := V_bound (G_take hb i)
  rw [List.length_take, Nat.min_eq_left (by omega)] at h1 h2
  have h3 := P_pos i
  have h4 : P i * (a.getD i 0 + 1) ≤ P i * b.getD i 0 := Int.mul_le_mul_of_nonneg_left (by omega) (by omega)
  rw [Int.mul_add, Int.mul_add, Int.mul_one] at *
  omega
theorem sign_neg {x : Int} (h : x < 0) : (-1 : Int) = Int.sign x := (Int.sign_eq_neg_one_of_neg h).symm
theorem sign_pos {x : Int} (h : 0 < x) : (1 : Int) = Int.sign x := (Int.sign_eq_one_of_pos h).symm
theorem getD_out (l : List Int) {i : Nat} (h : l.length ≤ i) : l.getD i 0 = 0 := by simp [List.getD, List.getElem?_eq_none h]
theorem V_take_next (l : List Int) (i : Nat) : V (l.take (i + 1)) = V (l.take i) + P i * l.getD i 0 := by
  by_cases h : i < l.length
  · exact Xph l i h
  · rw [getD_out l (by omega), List.take_of_length_le (by omega), List.take_of_length_le (by omega)]; simp
theorem V_take_all (l : List Int) {i : Nat} (h : l.length ≤ i) : V (l.take i) = V l := by rw [List.take_of_length_le h]
theorem V_set_take {out : List Int} {i : Nat} (d : Int) (h : i < out.length) : V ((out.set i d).take (i + 1)) = V (out.take i) + P i * d := by
  rw [V_take_next, List.take_set_of_le (Nat.le_refl _)]
  congr 2
  simp [List.getD, h]
theorem V_snoc {out : List Int} {i : Nat} (d : Int) (h : out.length = i) : V (out ++ [d]) = V out + P i * d := by
  rw [V_append, h, V_cons, V_nil]; simp
theorem G_snoc {out : List Int} {d : Int} (h : G out) (h0 : 0 ≤ d) (h1 : d < 1000000000) : G (out ++ [d]) := G_append.2 ⟨h, G_cons.2 ⟨⟨h0, h1⟩, G_nil⟩⟩
theorem getD_take (l : List Int) {n i : Nat} (h : i < n) : (l.take n).getD i 0 = l.getD i 0 := by
  rw [List.getD_eq_getElem?_getD, List.getD_eq_getElem?_getD, List.getElem?_take_of_lt h]
theorem V_one {l : List Int} (h : l.length = 1) : V l = l.getD 0 0 := by
  match l, h with
  | [x], _ => simp [V_cons]
theorem V_two {l : List Int} (h : l.length = 2) : V l = l.getD 0 0 + 1000000000 * l.getD 1 0 := by
  match l, h with
  | [x, y], _ => simp [V_cons]
theorem V_zero {l : List Int} (h : l.length = 0) : V l = 0 := by
  match l, h with
  | [], _ => rfl
theorem drop_set (l : List Int) {i : Nat} (x : Int) (h : i < l.length) : (l.set i x).drop i = x :: l.drop (i + 1) := by
  rw [List.drop_eq_getElem_cons (by simpa using h), List.drop_set_of_lt (by omega)]
  simp
theorem divmod_uniq {a b q r : Int} (h : a = q * b + r) (h0 : 0 ≤ r) (h1 : r < b) : q = a / b ∧ r = a % b := by
  have hb : 0 < b := by omega
  subst h
  refine ⟨?_, ?_⟩
  · rw [Int.add_comm, Int.add_mul_ediv_right _ _ (by omega), Int.ediv_eq_zero_of_lt h0 h1]; simp
  · rw [Int.add_comm, Int.add_mul_emod_self_right, Int.emod_eq_of_lt h0 h1]
theorem bw_step {a b v o x t rest : Int} (h : a = o * b + rest) (ht : t = rest * 1000000000 + x) (hv : v = x + 1000000000 * a) : v = (t / b + 1000000000 * o) * b + t % b := by
  have e : t % b + b * (t / b) = t := Int.emod_add_mul_ediv t b
  grind
theorem div_small {t b rest x : Int} (h0 : 0 ≤ rest) (h1 : rest < b) (hx : 0 ≤ x) (hx' : x < 1000000000) (ht : t = rest * 1000000000 + x) : 0 ≤ t / b ∧ t / b < 1000000000 ∧ 0 ≤ t % b ∧ t % b < b := by
  have hb : 0 < b := by omega
  have h2 : rest * 1000000000 + x < b * 1000000000 := by
    have : (rest + 1) * 1000000000 ≤ b * 1000000000 := Int.mul_le_mul_of_nonneg_right (by omega) (by omega)
    omega
  refine ⟨Int.ediv_nonneg (by omega) (by omega), ?_, Int.emod_nonneg _ (by omega), Int.emod_lt_of_pos _ hb⟩
  rw [ht]
  exact Int.ediv_lt_of_lt_mul hb (by rw [Int.mul_comm]; omega)
theorem mul_lt {x y m n : Int} (hx : 0 ≤ x) (hm : x < m) (hy : 0 ≤ y) (hn : y < n) : x * y < m * n := by
  have h1 : x * y ≤ (m - 1) * (n - 1) := Int.mul_le_mul (by omega) (by omega) hy (by omega)
  have h2 : (m - 1) * (n - 1) = m * n - m - n + 1 := by grind
  omega
theorem add_step {o n p x y d c c' a b : Int} (h : o + p * c = a + b) (e : d + 1000000000 * c' = x + y + c) (hn : n = o + p * d) : n + 1000000000 * p * c' = (a + p * x) + (b + p * y) := by
  have : p * (d + 1000000000 * c') = p * (x + y + c) := by rw [e]
  rw [hn]; grind
theorem sub_step {o n p x y d c c' a b : Int} (h : o - p * c = a - b) (e : d - 1000000000 * c' = x - y - c) (hn : n = o + p * d) : n - 1000000000 * p * c' = (a + p * x) - (b + p * y) := by
  have : p * (d - 1000000000 * c') = p * (x - y - c) := by rw [e]
  rw [hn]; grind
theorem high_zero {l : List Int} (hg : G l) {m : Nat} (h : V l < P m) : l.getD m 0 = 0 := by
  by_cases hm : m < l.length
  · have h1 := V_split l m (by omega)
    rw [getD_drop l m hm, V_cons] at h1
    have h2 := (V_bound (G_take hg m)).1
    have h3 := (V_bound (G_drop hg (m + 1))).1
    have h4 := G_get hg m
    have h5 := P_pos m
    by_cases h0 : l.getD m 0 = 0
    · exact h0
    · have : P m * 1 ≤ P m * (l.getD m 0 + 1000000000 * V (l.drop (m + 1))) := Int.mul_le_mul_of_nonneg_left (by omega) (by omega)
      omega
  · exact getD_out l (by omega)
theorem mul_fits {o x y c : Int} (ho : 0 ≤ o ∧ o < 1000000000) (hx : 0 ≤ x ∧ x < 1000000000) (hy : 0 ≤ y ∧ y < 1000000000) (hc : 0 ≤ c ∧ c < 1000000000) : 0 ≤ x * y ∧ x * y ≤ 999999998000000001 := by
  have h1 : 0 ≤ x * y := Int.mul_nonneg hx.1 hy.1
  have h2 : x * y ≤ 999999999 * 999999999 := Int.mul_le_mul (by omega) (by omega) hy.1 (by omega)
  omega
theorem mul_step {o n p x y t c q v0 w w' b : Int} (h : o + p * c = v0 + q * x * w) (ht : t = b + x * y + c) (hn : n = o + p * (t % 1000000000 - b)) (hp : p * (x * y) = q * x * (w' - w)) : n + 1000000000 * p * (t / 1000000000) = v0 + q * x * w' := by
  have e : t % 1000000000 + 1000000000 * (t / 1000000000) = t := Int.emod_add_mul_ediv t 1000000000
  have : p * (t % 1000000000 + 1000000000 * (t / 1000000000)) = p * (b + x * y + c) := by rw [e, ht]
  rw [hn]; grind
end Lm
end Go.Proofs.YtmlgfablnbbceaaGreat

namespace Go.Proofs.YtmlgfablnbbceaaGreat
namespace Lm
theorem msub_step {n o p x c bw b' c' d X z : Int} (h : o - p * (c + bw) = X) (e : d - 1000000000 * (c' + b') = x - z - (c + bw)) (hn : n = o + p * (d - x)) : n - 1000000000 * p * (c' + b') = X - p * z := by
  have : p * (d - 1000000000 * (c' + b')) = p * (x - z - (c + bw)) := by rw [e]
  subst hn; rw [← h]; grind
theorem madd_step {n o p x c c' d X z : Int} (h : o + p * c = X) (e : d + 1000000000 * c' = x + z + c) (hn : n = o + p * (d - x)) : n + 1000000000 * p * c' = X + p * z := by
  have : p * (d + 1000000000 * c') = p * (x + z + c) := by rw [e]
  subst hn; rw [← h]; grind
theorem Xzn {l : List Int} (hg : G l) {n : Nat} (h : V l < P n) : V (l.drop n) = 0 := by
  by_cases hn : n ≤ l.length
  · have h1 := V_split l n hn
    have h2 := (V_bound (G_take hg n)).1
    have h3 := (V_bound (G_drop hg n)).1
    have h4 := P_pos n
    by_cases h0 : V (l.drop n) = 0
    · exact h0
    · have : P n * 1 ≤ P n * V (l.drop n) := Int.mul_le_mul_of_nonneg_left (by omega) (by omega)
      omega
  · rw [List.drop_of_length_le (by omega)]; rfl
theorem V_lt_drop {a b : List Int} (ga : G a) (gb : G b) {n : Nat} (hl : b.length = a.length) (hd : b.drop n = a.drop n) (h : V a < P n) : V b < P n := by
  by_cases hn : n ≤ b.length
  · rw [V_split b n hn, hd, Xzn ga h, Int.mul_zero, Int.add_zero]
    have := (V_bound (G_take gb n)).2
    rwa [List.length_take, Nat.min_eq_left hn] at this
  · have h1 := (V_bound gb).2
    have h2 := P_mono (m := b.length) (n := n) (by omega)
    omega
theorem mod_of {e r m c : Int} (h : r - m * c = e) (h0 : 0 ≤ r) (h1 : r < m) : r = e % m := by
  have : e = r + m * (-c) := by rw [← h]; grind
  rw [this, Int.add_mul_emod_self_left, Int.emod_eq_of_lt h0 h1]
theorem neg_of {e r m c : Int} (h : r - m * c = e) (h0 : 0 ≤ r) (h1 : r < m) (hc : 0 ≤ c) : (0 < c) ↔ e < 0 := by
  constructor
  · intro hp
    have : m * 1 ≤ m * c := Int.mul_le_mul_of_nonneg_left (by omega) (by omega)
    omega
  · intro he
    by_cases h2 : c = 0
    · subst h2; omega
    · omega
theorem V_top3 {l : List Int} {j : Nat} (hg : G l) (h : j + 3 ≤ l.length) (hv : V l < P (j + 3)) : V l = V (l.take j) + P j * (l.getD j 0 + 1000000000 * l.getD (j + 1) 0 + 1000000000 * 1000000000 * l.getD (j + 2) 0) := by
  have h0 := Xzn hg hv
  rw [V_split l j (by omega), getD_drop l j (by omega), V_cons, getD_drop l (j + 1) (by omega), V_cons, getD_drop l (j + 1 + 1) (by omega), V_cons, show j + 1 + 1 + 1 = j + 3 by omega, h0]
  grind
theorem V_top2 {l : List Int} {j : Nat} (h : l.length = j + 2) : V l = V (l.take j) + P j * (l.getD j 0 + 1000000000 * l.getD (j + 1) 0) := by
  rw [V_split l j (by omega), getD_drop l j (by omega), V_cons, getD_drop l (j + 1) (by omega), V_cons, List.drop_of_length_le (by omega)]
  simp

section
variable {M X D ul dl u0 u1 u2 v1 v2 g r T : Int}
theorem K0 (hM : 0 < M) (hX : X = ul + M * (u2 + 1000000000 * u1 + 1000000000 * 1000000000 * u0)) (hul : 0 ≤ ul) (hu1 : 0 ≤ u1) (hu2 : 0 ≤ u2)
    (hD : D = dl + M * (v2 + 1000000000 * v1)) (hdl : dl < M) (hv2 : v2 < 1000000000) (h : X < 1000000000 * D) : u0 ≤ v1 := by
  by_cases hc : u0 ≤ v1
  · exact hc
  · exfalso
    have a1 : M * (1000000000 * 1000000000 * (v1 + 1)) ≤ M * (u2 + 1000000000 * u1 + 1000000000 * 1000000000 * u0) := Int.mul_le_mul_of_nonneg_left (by omega) (by omega)
    have a2 : M * (v2 + 1000000000 * v1 + 1) ≤ M * (1000000000 + 1000000000 * v1) := Int.mul_le_mul_of_nonneg_left (by omega) (by omega)
    grind
theorem K1 (hM : 0 < M) (hX : X = ul + M * (u2 + 1000000000 * u1 + 1000000000 * 1000000000 * u0)) (hul : ul < M) (hu2 : u2 < 1000000000)
    (hD : D = dl + M * (v2 + 1000000000 * v1)) (hdl : 0 ≤ dl) (hv2 : 0 ≤ v2) (hT : T = 1000000000 * u0 + u1) (hT0 : 0 ≤ T) (hv1 : 0 < v1) : X < (T / v1 + 1) * D := by
  have b0 : 0 ≤ T / v1 := Int.ediv_nonneg hT0 (by omega)
  have b1 : T < (T / v1 + 1) * v1 := by
    have := Int.emod_lt_of_pos T hv1
    have h2 := Int.emod_add_mul_ediv T v1
    grind
  generalize T / v1 = g at *
  have a1 : M * (u2 + 1000000000 * u1 + 1000000000 * 1000000000 * u0 + 1) ≤ M * (1000000000 * ((g + 1) * v1)) := Int.mul_le_mul_of_nonneg_left (by omega) (by omega)
  have a2 : 0 ≤ (g + 1) * dl := Int.mul_nonneg (by omega) hdl
  have a3 : 0 ≤ (g + 1) * (M * v2) := Int.mul_nonneg (by omega) (Int.mul_nonneg (by omega) hv2)
  subst hD
  grind
theorem K2 (hD : 0 < D) (h : X < 1000000000 * D) (hg : 1000000000 ≤ g) : X < g * D := by
  have : 1000000000 * D ≤ g * D := Int.mul_le_mul_of_nonneg_right hg (by omega)
  omega
theorem K3 (hM : 0 < M) (hX : X = ul + M * (u2 + 1000000000 * u1 + 1000000000 * 1000000000 * u0)) (hul : ul < M)
    (hD : D = dl + M * (v2 + 1000000000 * v1)) (hdl : 0 ≤ dl) (hg : 0 ≤ g) (hT : T = 1000000000 * u0 + u1) (hr : r = T - g * v1) (h : r * 1000000000 + u2 < g * v2) : X < g * D := by
  have a1 : M * (u2 + 1000000000 * u1 + 1000000000 * 1000000000 * u0 + 1) ≤ M * (g * (v2 + 1000000000 * v1)) := Int.mul_le_mul_of_nonneg_left (by grind) (by omega)
  have a2 : 0 ≤ g * dl := Int.mul_nonneg hg hdl
  subst hD
  grind
theorem K4 (hM : 0 < M) (hX : X = ul + M * (u2 + 1000000000 * u1 + 1000000000 * 1000000000 * u0)) (hul : 0 ≤ ul)
    (hD : D = dl + M * (v2 + 1000000000 * v1)) (hdl : 0 ≤ dl) (hdl1 : dl < M) (hv2 : 0 ≤ v2) (hv1 : 0 < v1) (hg : 0 ≤ g) (hg1 : g < 1000000000) (hT : T = 1000000000 * u0 + u1) (hr : r = T - g * v1) (h : g * v2 ≤ r * 1000000000 + u2) : g * D ≤ X + D := by
  have a1 : M * (g * (v2 + 1000000000 * v1)) ≤ M * (u2 + 1000000000 * u1 + 1000000000 * 1000000000 * u0) := Int.mul_le_mul_of_nonneg_left (by grind) (by omega)
  have a2 : g * dl ≤ 1000000000 * M := Int.mul_le_mul (by omega) (by omega) hdl (by omega)
  have a3 : M * 1000000000 ≤ M * (v2 + 1000000000 * v1) := Int.mul_le_mul_of_nonneg_left (by omega) (by omega)
  subst hD
  grind
theorem K5 (hu1 : u1 < 1000000000) (hu2 : 0 ≤ u2) (hv1 : 0 < v1) (hv2 : 0 ≤ v2) (hv2' : v2 < 1000000000) (hu : u0 ≤ v1) (hg : 0 ≤ g) (hT : T = 1000000000 * u0 + u1) (hr : r = T - g * v1) (h : 1000000000 ≤ r) : g < 1000000000 ∧ g * v2 ≤ r * 1000000000 + u2 := by
  have h1 : g < 1000000000 := by
    by_cases hc : g < 1000000000
    · exact hc
    · exfalso
      have : 1000000000 * v1 ≤ g * v1 := Int.mul_le_mul_of_nonneg_right (by omega) (by omega)
      omega
  refine ⟨h1, ?_⟩
  have : g * v2 ≤ 1000000000 * 1000000000 := Int.mul_le_mul (by omega) (by omega) hv2 (by omega)
  omega
theorem scale_ok {x s : Int} (h0 : 0 < x) (h1 : x < 1000000000) (hs : s = 1000000000 / (x + 1)) : 0 < s ∧ s < 1000000000 ∧ (x + 1) * s ≤ 1000000000 := by
  have hx : 0 < x + 1 := by omega
  have h2 := Int.emod_add_mul_ediv 1000000000 (x + 1)
  have h3 := Int.emod_lt_of_pos 1000000000 hx
  have h4 := Int.emod_nonneg 1000000000 (show x + 1 ≠ 0 by omega)
  rw [← hs] at h2
  have hs0 : 0 < s := by
    by_cases hc : 0 < s
    · exact hc
    · exfalso
      have : (x + 1) * s ≤ 0 := Int.mul_nonpos_of_nonneg_of_nonpos (by omega) (by omega)
      omega
  have hs1 : 1 * s ≤ x * s := Int.mul_le_mul_of_nonneg_right (by omega) (by omega)
  have e : (x + 1) * s = x * s + s := by grind
  exact ⟨hs0, by omega, by omega⟩
end
theorem top_pos {l : List Int} (hg : G l) (hn : Nz l) (h : 0 < l.length) : 0 < l.getD (l.length - 1) 0 := by
  have h1 : l ≠ [] := fun hc => by rw [hc] at h; simp at h
  have h2 := hn h1
  have h3 := G_get hg (l.length - 1)
  rw [List.getLast_eq_getElem] at h2
  have h4 : l.getD (l.length - 1) 0 = l[l.length - 1] := by rw [List.getD_eq_getElem?_getD, List.getElem?_eq_getElem (by omega), Option.getD_some]
  omega
theorem prod_p {x p : List Int} {s : Int} (gx : G x) (gs : G [s]) (vs : V [s] = s) (hp : p = dg (x.length + [s].length) (V x * V [s])) : G p ∧ p.length = x.length + 1 ∧ V p = V x * s := by
  subst hp
  have hs := (G_cons.1 gs).1
  refine ⟨G_dg _ _, by simp, ?_⟩
  rw [vs]
  have h1 := V_bound gx
  refine V_dg (Int.mul_nonneg h1.1 hs.1) ?_
  rw [P_add]
  have := mul_lt h1.1 h1.2 hs.1 hs.2
  simpa [P] using this
theorem V_last {l : List Int} (h : 0 < l.length) : V l = V (l.take (l.length - 1)) + P (l.length - 1) * l.getD (l.length - 1) 0 := by
  have := Xph l (l.length - 1) (by omega)
  rwa [show l.length - 1 + 1 = l.length by omega, List.take_length] at this
theorem Xwt {l : List Int} (hg : G l) (h : 0 < l.length) : V l < P (l.length - 1) * (l.getD (l.length - 1) 0 + 1) := by
  rw [V_last h]
  have h1 := (V_bound (G_take hg (l.length - 1))).2
  rw [List.length_take, Nat.min_eq_left (by omega)] at h1
  grind
theorem prod_v {y v : List Int} {s : Int} (gy : G y) (ny : Nz y) (hy : 2 ≤ y.length) (gs : G [s]) (vs : V [s] = s) (hs0 : 0 < s) (hs2 : (y.getD (y.length - 1) 0 + 1) * s ≤ 1000000000) (hv : v = trim (dg (y.length + [s].length) (V y * V [s]))) : G v ∧ v.length = y.length ∧ V v = V y * s := by
  obtain ⟨g1, _, v1⟩ := prod_p (p := dg (y.length + [s].length) (V y * V [s])) gy gs vs rfl
  have nv : Nz v := by rw [hv]; exact trim_Nz _
  have gv : G v := by rw [hv]; exact G_trim g1
  have vv : V v = V y * s := by rw [hv, V_trim, v1]
  have h1 := Nz_pos gy ny (fun hc => by rw [hc] at hy; simp at hy)
  have h0 := (V_bound gy).1
  have h2 : V v < P y.length := by
    have h3 := Xwt gy (by omega)
    have h4 : V y * s < P (y.length - 1) * (y.getD (y.length - 1) 0 + 1) * s := Int.mul_lt_mul_of_pos_right h3 hs0
    have h5 : P (y.length - 1) * ((y.getD (y.length - 1) 0 + 1) * s) ≤ P (y.length - 1) * 1000000000 := Int.mul_le_mul_of_nonneg_left hs2 (Int.le_of_lt (P_pos _))
    have h6 := P_succ (y.length - 1)
    rw [show y.length - 1 + 1 = y.length by omega] at h6
    rw [Int.mul_assoc] at h4
    omega
  have h3 : P (y.length - 1) ≤ V v := by
    have : V y * 1 ≤ V y * s := Int.mul_le_mul_of_nonneg_left (by omega) h0
    omega
  refine ⟨gv, ?_, vv⟩
  have h4 := (V_bound gv).2
  by_cases hc : v.length < y.length
  · have := P_mono (m := v.length) (n := y.length - 1) (by omega); omega
  · by_cases hd : y.length < v.length
    · have h5 := Nz_pos gv nv (fun hc => by rw [hc] at hd; simp at hd)
      have := P_mono (m := y.length) (n := v.length - 1) (by omega); omega
    · omega
theorem len_le {x y : List Int} (gx : G x) (gy : G y) (ny : Nz y) (h : 0 < y.length) (hv : V y ≤ V x) : y.length ≤ x.length := by
  have h1 := Nz_pos gy ny (fun hc => by rw [hc] at h; simp at h)
  have h2 := (V_bound gx).2
  by_cases hc : y.length ≤ x.length
  · exact hc
  · have := P_mono (m := x.length) (n := y.length - 1) (by omega); omega
theorem div_init {x y : List Int} {s W : Int} {m : Nat} (gx : G x) (gy : G y) (ny : Nz y) (h : 0 < y.length) (hs0 : 0 < s) (hs1 : s < 1000000000) (hW : V y * s = W) (hm : m + y.length = x.length + 2) : V x * s < W * P m := by
  have h1 := Nz_pos gy ny (fun hc => by rw [hc] at h; simp at h)
  have h2 := V_bound gx
  have h3 := mul_lt h2.1 h2.2 (by omega) hs1
  have h4 : P x.length * 1000000000 = P (y.length - 1) * P m := by
    rw [← P_add, show y.length - 1 + m = x.length + 1 by omega, P_succ]; grind
  have h5 : V y * 1 ≤ V y * s := Int.mul_le_mul_of_nonneg_left (by omega) (V_bound gy).1
  have h6 : P (y.length - 1) * P m ≤ W * P m := Int.mul_le_mul_of_nonneg_right (by omega) (Int.le_of_lt (P_pos m))
  omega
theorem P_pred {i : Nat} (h : 1 ≤ i) : P i = 1000000000 * P (i - 1) := by
  have := P_succ (i - 1)
  rwa [show i - 1 + 1 = i by omega] at this
theorem lt_PP {v : List Int} {n i : Nat} {X : Int} (gv : G v) (lv : v.length = n) (h : X < V v * P i) : X < P (i + n) := by
  have h1 := (V_bound gv).2
  rw [lv] at h1
  have : V v * P i ≤ P n * P i := Int.mul_le_mul_of_nonneg_right (by omega) (Int.le_of_lt (P_pos i))
  rw [P_add]
  grind
theorem div_D {v : List Int} {n k : Nat} {v2 v1 : Int} (gv : G v) (lv : v.length = n) (hn : 2 ≤ n) (hv : V v = V (v.take (n - 2)) + P (n - 2) * (v2 + 1000000000 * v1)) :
    V v * P k = V (v.take (n - 2)) * P k + P (k + n - 2) * (v2 + 1000000000 * v1) ∧ 0 ≤ V (v.take (n - 2)) * P k ∧ V (v.take (n - 2)) * P k < P (k + n - 2) := by
  have h1 := V_bound (G_take gv (n - 2))
  rw [List.length_take, Nat.min_eq_left (by omega)] at h1
  have h2 := P_pos k
  have h3 : P (k + n - 2) = P k * P (n - 2) := by rw [← P_add]; congr 1; omega
  refine ⟨by rw [h3]; rw [hv]; grind, Int.mul_nonneg h1.1 (by omega), ?_⟩
  have := Int.mul_lt_mul_of_pos_right h1.2 h2
  rw [h3]; grind
section
variable {T v1 u0 u1 g v2 : Int}
theorem quo_le (hT : T = 1000000000 * u0 + u1) (hv : 0 < v1) (hk : u0 ≤ v1) (hu : u1 < 1000000000) (h0 : 0 ≤ T) : 0 ≤ T / v1 ∧ T / v1 ≤ 2000000000 := by
  refine ⟨Int.ediv_nonneg h0 (by omega), Int.ediv_le_of_le_mul hv ?_⟩
  omega
theorem quo_rem (hv : 0 < v1) : 0 ≤ T % v1 ∧ T % v1 < v1 ∧ T % v1 = T - T / v1 * v1 := by
  refine ⟨Int.emod_nonneg _ (by omega), Int.emod_lt_of_pos _ hv, ?_⟩
  have := Int.emod_add_mul_ediv T v1
  rw [Int.mul_comm] at this; omega
theorem guess_fits (h0 : 0 ≤ g) (h1 : g ≤ 2000000000) (h2 : 0 ≤ v2) (h3 : v2 < 1000000000) : 0 ≤ g * v2 ∧ g * v2 ≤ 2000000000 * 1000000000 :=
  ⟨Int.mul_nonneg h0 h2, Int.mul_le_mul h1 (by omega) h2 (by omega)⟩
end
theorem V_dg_mod {u : List Int} {n : Nat} {E : Int} (_ : G u) (hn : n ≤ u.length) : V (dg u.length (E % P n)) = E % P n := by
  have h1 := P_pos n
  have h2 := P_mono hn
  have h3 := Int.emod_lt_of_pos E h1
  exact V_dg (Int.emod_nonneg _ (by omega)) (by omega)
theorem div_pos {u u3 : List Int} {lo n : Nat} {W g : Int} (gu : G u) (hl : lo + (n + 1) ≤ u.length) (hu3 : u3 = dg u.length ((V u - P lo * (W * g)) % P (lo + (n + 1)))) (hbig : V u < P (lo + (n + 1))) (hgq : V u < (g + 1) * (W * P lo)) (hE : 0 ≤ V u - P lo * (W * g)) (hp : 0 ≤ P lo * (W * g)) :
    V u3 = V u - P lo * (W * g) ∧ V u3 < W * P lo ∧ V u = V u3 + P lo * (W * g) := by
  have h1 : V u3 = V u - P lo * (W * g) := by
    rw [hu3, V_dg_mod gu hl, Int.emod_eq_of_lt hE (by omega)]
  refine ⟨h1, by rw [h1]; grind, by omega⟩
theorem div_neg {u u3 u4 : List Int} {lo n : Nat} {W gg : Int} (gu : G u) (hl : lo + (n + 1) ≤ u.length) (hu3 : u3 = dg u.length ((V u - P lo * (W * gg)) % P (lo + (n + 1)))) (hu4 : u4 = dg u3.length ((V u3 + P lo * W) % P (lo + (n + 1)))) (hbig : V u < P (lo + (n + 1))) (hk : gg * (W * P lo) ≤ V u + W * P lo) (hE : V u - P lo * (W * gg) < 0) (hW : W * P lo ≤ P (lo + (n + 1))) :
    V u4 = V u - P lo * (W * gg) + P lo * W ∧ V u4 < W * P lo ∧ V u = V u4 + P lo * (W * (gg - 1)) := by
  have hlen : u3.length = u.length := by rw [hu3]; simp
  have h0 := (V_bound gu).1
  have h2 : 0 ≤ V u - P lo * (W * gg) + P lo * W := by
    have : P lo * (W * gg) = gg * (W * P lo) := by grind
    have : P lo * W = W * P lo := Int.mul_comm _ _
    omega
  have h3 : V u - P lo * (W * gg) + P lo * W < W * P lo := by rw [Int.mul_comm (P lo) W]; omega
  have h1 : V u4 = V u - P lo * (W * gg) + P lo * W := by
    rw [hu4, hlen, V_dg_mod gu hl, hu3, V_dg_mod gu hl, Int.emod_add_emod, Int.emod_eq_of_lt h2 (by omega)]
  exact ⟨h1, by omega, by rw [h1]; grind⟩
theorem div_gp {U U4 Pl W g : Int} (hz : U = U4 + Pl * (W * g)) (h4 : U4 < W * Pl) (hD : 0 < W * Pl) (h0 : 0 ≤ U) : 0 ≤ g := by
  by_cases hc : 0 ≤ g
  · exact hc
  · exfalso
    have h1 : (W * Pl) * (g + 1) ≤ 0 := Int.mul_nonpos_of_nonneg_of_nonpos (by omega) (by omega)
    have h2 : (W * Pl) * (g + 1) = Pl * (W * g) + W * Pl := by grind
    omega
theorem div_acc {U U3 p p1 W g q X : Int} (hP : p = 1000000000 * p1) (h : U + p * q * W = X) (hz : U = U3 + p1 * (W * g)) : U3 + p1 * (g + 1000000000 * q) * W = X := by
  subst hP hz; rw [← h]; grind
theorem div_end {x y u v q : List Int} {n : Nat} {s : Int} (gv : G v) (lv : v.length = n) (gu : G u) (h4 : V u < V v) (h7 : V u + V q * V v = V x * s) (vv : V v = V y * s) (hs : 0 < s) (hn : n ≤ u.length) (hx : 0 ≤ V x) :
    V q = V x / V y ∧ (trim (u.take n)).length = (digs (V x * s % (V y * s)).natAbs).length ∧ V (trim (u.take n)) / s = V x % V y := by
  have hu0 := (V_bound gu).1
  obtain ⟨h1, h2⟩ := divmod_uniq (a := V x * s) (b := V v) (q := V q) (r := V u) (by omega) hu0 h4
  have h5 : V (u.take n) = V u := by
    have hv := (V_bound gv).2
    rw [lv] at hv
    rw [V_split u n hn, Xzn gu (by omega)]; simp
  have h6 : V (trim (u.take n)) = V x * s % (V y * s) := by rw [V_trim, h5, h2, vv]
  refine ⟨by rw [h1, vv, Int.mul_ediv_mul_of_pos_left _ _ hs], ?_, ?_⟩
  · rw [trim_digs (G_take gu n), ← h6, V_trim]
  · rw [h6, Int.mul_comm (V x) s, Int.mul_comm (V y) s, Int.mul_emod_mul_of_pos _ _ hs, Int.mul_ediv_cancel_left _ (by omega)]
theorem W_le {v : List Int} {n lo : Nat} (gv : G v) (lv : v.length = n) : V v * P lo ≤ P (lo + (n + 1)) := by
  have h1 := (V_bound gv).2
  rw [lv] at h1
  have h2 : V v * P lo ≤ P n * P lo := Int.mul_le_mul_of_nonneg_right (by omega) (Int.le_of_lt (P_pos lo))
  have h3 := P_mono (m := lo + n) (n := lo + (n + 1)) (by omega)
  rw [P_add lo n] at h3
  grind
theorem pos_of_mul {p w g U : Int} (hU : 0 ≤ U) (hE : U - p * (w * g) < 0) (hp : 0 < p) (hw : 0 < w) : 0 < g := by
  by_cases hc : 0 < g
  · exact hc
  · exfalso
    have h1 : w * g ≤ 0 := Int.mul_nonpos_of_nonneg_of_nonpos (by omega) (by omega)
    have h2 : p * (w * g) ≤ 0 := Int.mul_nonpos_of_nonneg_of_nonpos (by omega) h1
    omega
theorem pos_of_lt {g D U : Int} (hU : 0 ≤ U) (h : U < g * D) (hD : 0 < D) : 0 < g := by
  by_cases hc : 0 < g
  · exact hc
  · exfalso
    have h2 : g * D ≤ 0 := Int.mul_nonpos_of_nonpos_of_nonneg (by omega) (by omega)
    omega
theorem V_drop_le {l : List Int} (hg : G l) (i : Nat) : V (l.drop i) ≤ V l := by
  by_cases hi : i ≤ l.length
  · rw [V_split l i hi]
    have h1 := (V_bound (G_take hg i)).1
    have h2 := (V_bound (G_drop hg i)).1
    have h3 := P_pos i
    have : 1 * V (l.drop i) ≤ P i * V (l.drop i) := Int.mul_le_mul_of_nonneg_right (by omega) h2
    omega
  · rw [List.drop_of_length_le (by omega)]; exact (V_bound hg).1
end Lm
end Go.Proofs.YtmlgfablnbbceaaGreat

namespace Go.Proofs.YtmlgfablnbbceaaGreat
namespace Lm
theorem digs_step {m : Int} (h0 : 0 ≤ m) (h : 0 < m) : digs m.natAbs = (m % 1000000000) :: digs (m / 1000000000).natAbs := by
  rw [digs_pos (show m.natAbs ≠ 0 by omega)]
  congr 1
  · omega
  · congr 1; omega
theorem div_le_self2 {a b : Int} (ha : 0 ≤ a) (hb : 0 < b) : 0 ≤ a / b ∧ a / b ≤ a ∧ 0 ≤ a % b ∧ a % b < b :=
  ⟨Int.ediv_nonneg ha (by omega), Int.ediv_le_self _ ha, Int.emod_nonneg _ (by omega), Int.emod_lt_of_pos _ hb⟩
theorem len_of_lt {l : List Int} {X : Int} {m : Nat} (hg : G l) (hn : Nz l) (h1 : V l < X) (h2 : X < P m) : l.length ≤ m := by
  by_cases hc : l.length ≤ m
  · exact hc
  · have := Nz_pos hg hn (fun h => by rw [h] at hc; simp at hc)
    have := P_mono (m := m) (n := l.length - 1) (by omega)
    omega
theorem len_le' {r p : List Int} (gr : G r) (gp : G p) (np : Nz p) (h : V p ≤ V r) : p.length ≤ r.length := by
  by_cases hc : p.length ≤ r.length
  · exact hc
  · have h1 := Nz_pos gp np (fun h => by rw [h] at hc; simp at hc)
    have h2 := P_mono (m := r.length) (n := p.length - 1) (by omega)
    have h3 := (V_bound gr).2
    omega
theorem scaled_digs {y v : List Int} {s : Int} (gy : G y) (ny : Nz y) (hy : 0 < y.length) (hs0 : 0 < s) (hs1 : s < 1000000000) (hs2 : (y.getD (y.length - 1) 0 + 1) * s ≤ 1000000000) (hv : v = digs (Int.natAbs (V y * s))) : G v ∧ Nz v ∧ v.length = y.length ∧ V v = V y * s := by
  obtain ⟨d1, d2, d3⟩ := digs_spec (Int.natAbs (V y * s))
  have h0 := (V_bound gy).1
  have hys : 0 ≤ V y * s := Int.mul_nonneg h0 (by omega)
  have gv : G v := by rw [hv]; exact d2
  have nv : Nz v := by rw [hv]; exact d3
  have vv : V v = V y * s := by rw [hv, d1]; omega
  have h1 := Nz_pos gy ny (fun hc => by rw [hc] at hy; simp at hy)
  have h2 : V v < P y.length := by
    have h3 := Xwt gy hy
    have h4 : V y * s < P (y.length - 1) * (y.getD (y.length - 1) 0 + 1) * s := Int.mul_lt_mul_of_pos_right h3 hs0
    have h5 : P (y.length - 1) * ((y.getD (y.length - 1) 0 + 1) * s) ≤ P (y.length - 1) * 1000000000 := Int.mul_le_mul_of_nonneg_left hs2 (Int.le_of_lt (P_pos _))
    have h6 := P_succ (y.length - 1)
    rw [show y.length - 1 + 1 = y.length by omega] at h6
    rw [Int.mul_assoc] at h4
    omega
  have h3 : P (y.length - 1) ≤ V v := by
    have : V y * 1 ≤ V y * s := Int.mul_le_mul_of_nonneg_left (by omega) h0
    omega
  refine ⟨gv, nv, ?_, vv⟩
  have h4 := (V_bound gv).2
  by_cases hc : v.length < y.length
  · have := P_mono (m := v.length) (n := y.length - 1) (by omega); omega
  · by_cases hd : y.length < v.length
    · have h5 := Nz_pos gv nv (fun hc => by rw [hc] at hd; simp at hd)
      have := P_mono (m := y.length) (n := v.length - 1) (by omega); omega
    · omega
theorem drop_val (u : List Int) {i : Nat} (h : 1 ≤ i) (hi : i ≤ u.length) : V (u.drop (i - 1)) = u.getD (i - 1) 0 + 1000000000 * V (u.drop i) := by
  rw [getD_drop u (i - 1) (by omega), V_cons, show i - 1 + 1 = i by omega]
theorem V_top_le {r : List Int} {n : Nat} (gr : G r) (hn : 0 < n) (hl : r.length ≤ n + 1) : V r < P (n - 1) * (1000000000 * r.getD n 0 + r.getD (n - 1) 0 + 1) := by
  have h1 := V_take_all r (i := n + 1) hl
  have h2 := V_take_next r n
  have h3 := V_take_next r (n - 1)
  rw [show n - 1 + 1 = n by omega] at h3
  have h4 := (V_bound (G_take gr (n - 1))).2
  have h5 := P_mono (m := (r.take (n - 1)).length) (n := n - 1) (by rw [List.length_take]; omega)
  have h6 := P_pred (i := n) hn
  rw [h6] at h2
  grind
theorem ref_digit {n : Nat} {R W t top H r0 r1 : Int} (ht : 0 < top) (hr : R < P (n - 1) * (1000000000 * r0 + r1 + 1)) (hw : W = t + P (n - 1) * top) (ht0 : 0 ≤ t) (hH : H = 1000000000 * r0 + r1) (hH0 : 0 ≤ H) : R < (H / top + 1) * W := by
  have b0 : 0 ≤ H / top := Int.ediv_nonneg hH0 (by omega)
  have b1 : H < (H / top + 1) * top := by
    have := Int.emod_lt_of_pos H ht
    have h2 := Int.emod_add_mul_ediv H top
    grind
  generalize H / top = g at *
  have a1 : P (n - 1) * (H + 1) ≤ P (n - 1) * ((g + 1) * top) := Int.mul_le_mul_of_nonneg_left (by omega) (Int.le_of_lt (P_pos _))
  have a2 : 0 ≤ (g + 1) * t := Int.mul_nonneg (by omega) ht0
  subst hw hH
  grind
theorem prod_digs {x d : Int} {p : List Int} (hx : 0 ≤ x) (hd : 0 ≤ d) (hp : p = digs (Int.natAbs (x * d))) : G p ∧ Nz p ∧ V p = x * d := by
  obtain ⟨d1, d2, d3⟩ := digs_spec (Int.natAbs (x * d))
  subst hp
  have := Int.mul_nonneg hx hd
  exact ⟨d2, d3, by rw [d1]; omega⟩
theorem prod_len {v p : List Int} {d : Int} (gv : G v) (hd : 0 ≤ d) (hd1 : d < 1000000000) (hp : p = digs (Int.natAbs (V v * d))) : p.length ≤ v.length + 1 := by
  subst hp
  have h0 := V_bound gv
  refine digs_len ?_
  have := mul_lt h0.1 h0.2 hd hd1
  have := Int.mul_nonneg h0.1 hd
  rw [P_succ]; omega
theorem pos_of_prod {R w d : Int} (h0 : 0 ≤ R) (h : R < w * d) (hw : 0 < w) : 0 < d := by
  by_cases hc : 0 < d
  · exact hc
  · have := Int.mul_nonpos_of_nonneg_of_nonpos (a := w) (b := d) (by omega) (by omega); omega
theorem digs_mono {p : List Int} (z : Int) (gp : G p) (_ : Nz p) (h0 : 0 ≤ z) (h1 : z ≤ V p) : (digs z.natAbs).length ≤ p.length := by
  refine digs_len ?_
  have := (V_bound gp).2
  omega
theorem ref_acc {o : List Int} {i : Nat} {d W ux U Un R RL : Int} (hud : U = ux + 1000000000 * Un) (h1 : 1 ≤ i) (h2 : i ≤ o.length) (h8 : Un = V (o.drop i) * W + RL) (rv : R = ux + 1000000000 * RL) : U = V ((o.set (i - 1) d).drop (i - 1)) * W + (R - W * d) := by
  rw [drop_set _ _ (by omega), V_cons, show i - 1 + 1 = i by omega]
  subst hud h8 rv; grind
theorem ref_fin {u o v rl la : List Int} {a b s c : Int} (g : G rl) (h4 : V rl < V v) (h : V u = V o * V v + V rl) (hu : V u = a * s) (hv : V v = b * s) (hs : 0 < s) (hk : V rl = V la * s + c) (hc0 : 0 ≤ c) (hc1 : c < s) : V o = a / b ∧ V la = a % b := by
  have h0 := (V_bound g).1
  obtain ⟨h1, h2⟩ := divmod_uniq (a := a * s) (b := V v) (q := V o) (r := V rl) (by omega) h0 h4
  obtain ⟨k1, k2⟩ := divmod_uniq (a := V rl) (b := s) (q := V la) (r := c) hk hc0 hc1
  refine ⟨by rw [h1, hv, Int.mul_ediv_mul_of_pos_left _ _ hs], ?_⟩
  rw [k1, h2, hv, Int.mul_comm a s, Int.mul_comm b s, Int.mul_emod_mul_of_pos _ _ hs, Int.mul_ediv_cancel_left _ (by omega)]
theorem trim_same {l : List Int} (h : Nz l) : trim l = l := by
  by_cases hl : 0 < l.length
  · refine trim_stop (.inr ?_)
    have h1 : l ≠ [] := fun hc => by rw [hc] at hl; simp at hl
    have h2 := h h1
    rw [List.getLast_eq_getElem] at h2
    rw [List.getD_eq_getElem?_getD, List.getElem?_eq_getElem (by omega), Option.getD_some]; exact h2
  · exact trim_stop (.inl hl)
end Lm
end Go.Proofs.YtmlgfablnbbceaaGreat

namespace Go.Proofs.YtmlgfablnbbceaaGreat
namespace Am
open Go Go.RowKit

def Xj (a : List Int) : AV := .sl 1 (uw a)
theorem J1 (a : List Int) : (uw a).length = a.length := List.length_map _
theorem Yx (a : List Int) : ((a.length : Nat) : Int) = (((uw a).length : Nat) : Int) := by rw [J1]
theorem Xlm {α : Type} {f : α → AV} (a : List α) : ((a.length : Nat) : Int) = (((a.map f).length : Nat) : Int) := by rw [List.length_map]
theorem Zj {a : List Int} {i : Nat} (h : i < a.length) : (uw a)[i]? = some (.int .u32 (a.getD i 0)) := by
  unfold uw; simp [List.getD, h]
theorem Xed {α : Type} {f : α → AV} {d : α} {a : List α} {i : Nat} (h : i < a.length) : (a.map f)[i]? = some (f (a.getD i d)) := by
  simp [List.getD, h]
theorem J0 {rows : List AV} {r : AV} {n : Int} (m : Nat) (h : n = (m : Int)) (hg : rows[m]? = some r) : 0 ≤ n ∧ rows[Int.toNat n]? = some r := by
  subst h; exact ⟨Int.natCast_nonneg _, by simpa using hg⟩
theorem Xns {rows : List AV} {r : AV} {n : Int} (m : Nat) (h : n = (m : Int)) (hg : rows[m]? = some r) : rows[Int.toNat n]? = some r := (J0 m h hg).2
theorem Xj6 {rows rows' : List AV} {r : AV} {n : Int} (m : Nat) (h : n = (m : Int)) (hg : rows' = rows.set m r) : rows' = rows.set (Int.toNat n) r := by subst h; simpa using hg
theorem Xb9 {n : Int} {k : Nat} (m : Nat) (h : n = (m : Int)) (hg : m < k) : 0 ≤ n ∧ Int.toNat n < k := by omega
theorem Xbt (a : List Int) (i : Nat) (x : Int) : uw (a.set i x) = (uw a).set i (.int .u32 x) := List.map_set
theorem map_set {α : Type} (f : α → AV) (a : List α) (i : Nat) (x : α) : (a.set i x).map f = (a.map f).set i (f x) := List.map_set
theorem Xcb (a b : List Int) : uw (a ++ b) = uw a ++ uw b := List.map_append
theorem X4k (a : List Int) (u l : Nat) : uw ((a.take u).drop l) = ((uw a).take u).drop l := by unfold uw; rw [List.map_drop, List.map_take]
theorem Xii (a : List Int) (u : Nat) : uw (a.take u) = ((uw a).take u).drop 0 := X4k a u 0
theorem X3p {α : Type} {f : α → AV} (a : List α) (u l : Nat) : ((a.take u).drop l).map f = ((a.map f).take u).drop l := by rw [List.map_drop, List.map_take]
theorem Xv8 {α : Type} {f : α → AV} (a : List α) (u : Nat) : (a.take u).map f = ((a.map f).take u).drop 0 := X3p a u 0
theorem Xv3 {α : Type} {f : α → AV} (a : List α) (l : Nat) : (a.drop l).map f = ((a.map f).take a.length).drop l := by
  rw [show a.length = (a.map f).length from (List.length_map _).symm, List.take_length, List.map_drop]
theorem Xic {n : Int} (m : Nat) (h : n = (m : Int)) : uw (List.replicate m 0) = List.replicate (Int.toNat n) (.int .u32 0) := by
  subst h; unfold uw; simp

theorem K6 {n : Int} (h0 : 0 ≤ n) (h1 : n < 4294967296) : IntKind.u32.wrap n = n := by
  simp [IntKind.wrap, IntKind.signed, IntKind.bits]; omega
theorem Jj {n : Int} (h0 : 0 ≤ n) (h1 : n < 18446744073709551616) : IntKind.u64.wrap n = n := by
  simp [IntKind.wrap, IntKind.signed, IntKind.bits]; omega
theorem Xf0 {n : Int} (h0 : -9223372036854775808 ≤ n) (h1 : n < 9223372036854775808) : IntKind.i64.wrap n = n := by
  simp [IntKind.wrap, IntKind.signed, IntKind.bits]; omega
section
variable {x y : Int}
theorem Xa4 (h0 : 0 ≤ x + y) (h1 : x + y < 4294967296) : Jx .add .u32 x y = some (x + y) ∧ ((BinOp.add = .quo ∨ BinOp.add = .rem) → y ≠ 0) := ⟨congrArg some (K6 h0 h1), fun h => by rcases h with h | h <;> cases h⟩
theorem Xa6 (h0 : 0 ≤ x - y) (h1 : x - y < 4294967296) : Jx .sub .u32 x y = some (x - y) ∧ ((BinOp.sub = .quo ∨ BinOp.sub = .rem) → y ≠ 0) := ⟨congrArg some (K6 h0 h1), fun h => by rcases h with h | h <;> cases h⟩
theorem Jp (h0 : 0 ≤ x + y) (h1 : x + y < 18446744073709551616) : Jx .add .u64 x y = some (x + y) ∧ ((BinOp.add = .quo ∨ BinOp.add = .rem) → y ≠ 0) := ⟨congrArg some (Jj h0 h1), fun h => by rcases h with h | h <;> cases h⟩
theorem Xcw (h0 : 0 ≤ x - y) (h1 : x - y < 18446744073709551616) : Jx .sub .u64 x y = some (x - y) ∧ ((BinOp.sub = .quo ∨ BinOp.sub = .rem) → y ≠ 0) := ⟨congrArg some (Jj h0 h1), fun h => by rcases h with h | h <;> cases h⟩
theorem Xaf (h0 : 0 ≤ x * y) (h1 : x * y < 18446744073709551616) : Jx .mul .u64 x y = some (x * y) ∧ ((BinOp.mul = .quo ∨ BinOp.mul = .rem) → y ≠ 0) := ⟨congrArg some (Jj h0 h1), fun h => by rcases h with h | h <;> cases h⟩
theorem X3 (h0 : -9223372036854775808 ≤ x + y) (h1 : x + y < 9223372036854775808) : Jx .add .i64 x y = some (x + y) ∧ ((BinOp.add = .quo ∨ BinOp.add = .rem) → y ≠ 0) := ⟨congrArg some (Xf0 h0 h1), fun h => by rcases h with h | h <;> cases h⟩
theorem Yw (h0 : -9223372036854775808 ≤ x - y) (h1 : x - y < 9223372036854775808) : Jx .sub .i64 x y = some (x - y) ∧ ((BinOp.sub = .quo ∨ BinOp.sub = .rem) → y ≠ 0) := ⟨congrArg some (Xf0 h0 h1), fun h => by rcases h with h | h <;> cases h⟩
theorem Xvh (h0 : -9223372036854775808 ≤ x * y) (h1 : x * y < 9223372036854775808) : Jx .mul .i64 x y = some (x * y) ∧ ((BinOp.mul = .quo ∨ BinOp.mul = .rem) → y ≠ 0) := ⟨congrArg some (Xf0 h0 h1), fun h => by rcases h with h | h <;> cases h⟩
theorem Xax {op : BinOp} {k : IntKind} {z r : Int} (h : Jx op k x y = some z ∧ ((op = .quo ∨ op = .rem) → y ≠ 0)) (e : z = r) : Jx op k x y = some r ∧ ((op = .quo ∨ op = .rem) → y ≠ 0) := e ▸ h
theorem Xzc {k : IntKind} (h0 : 0 ≤ x) (h1 : 0 < y) : Jx .rem k x y = some (x % y) ∧ ((BinOp.rem = .quo ∨ BinOp.rem = .rem) → y ≠ 0) := ⟨congrArg some (Int.tmod_eq_emod_of_nonneg h0), fun _ => by omega⟩
theorem Xa0 (h0 : 0 ≤ x) (h1 : 0 < y) (_ : True) : Jx .rem .u64 x y = some (x % y) ∧ ((BinOp.rem = .quo ∨ BinOp.rem = .rem) → y ≠ 0) := Xzc h0 h1
theorem Xis (h0 : 0 ≤ x) (h1 : 0 < y) (_ : True) : Jx .rem .u32 x y = some (x % y) ∧ ((BinOp.rem = .quo ∨ BinOp.rem = .rem) → y ≠ 0) := Xzc h0 h1
theorem Xjw (h0 : 0 ≤ x) (h1 : 0 < y) : 0 ≤ x / y ∧ x / y ≤ x := ⟨Int.ediv_nonneg h0 (by omega), Int.ediv_le_self _ h0⟩
theorem Xae (h0 : 0 ≤ x) (h1 : 0 < y) (h2 : x < 18446744073709551616) : Jx .quo .u64 x y = some (x / y) ∧ ((BinOp.quo = .quo ∨ BinOp.quo = .rem) → y ≠ 0) := by
  refine ⟨?_, fun _ => by omega⟩
  show some (IntKind.u64.wrap (x.tdiv y)) = _
  have := Xjw h0 h1
  rw [Int.tdiv_eq_ediv_of_nonneg h0, Jj this.1 (by omega)]
theorem Xin (h0 : 0 ≤ x) (h1 : 0 < y) (h2 : x < 4294967296) : Jx .quo .u32 x y = some (x / y) ∧ ((BinOp.quo = .quo ∨ BinOp.quo = .rem) → y ≠ 0) := by
  refine ⟨?_, fun _ => by omega⟩
  show some (IntKind.u32.wrap (x.tdiv y)) = _
  have := Xjw h0 h1
  rw [Int.tdiv_eq_ediv_of_nonneg h0, K6 this.1 (by omega)]
theorem Xp4 (h0 : 0 ≤ x) (h1 : 0 < y) (h2 : x < 9223372036854775808) : Jx .quo .i64 x y = some (x / y) ∧ ((BinOp.quo = .quo ∨ BinOp.quo = .rem) → y ≠ 0) := by
  refine ⟨?_, fun _ => by omega⟩
  show some (IntKind.i64.wrap (x.tdiv y)) = _
  have := Xjw h0 h1
  rw [Int.tdiv_eq_ediv_of_nonneg h0, Xf0 (by omega) (by omega)]
end
def Js (neg : Bool) (v : Int) : Int := bif neg then -v else v
theorem Xn5 (n : Nat) : 0 < (Lm.digs n).length ↔ 0 < n := by
  by_cases h : n = 0
  · subst h; rw [Lm.digs_zero]; simp
  · rw [Lm.digs_pos h]; simp; omega
theorem Xr8 {l t : List Int} {n : Int} (hg : Lm.G l) (ht : t = Lm.trim l) (hn : n = (t.length : Int)) : AV.st [.bool (decide (0 < n)), Xj t] = Xf (-(Lm.V l)) := by
  rw [Lm.trim_digs hg] at ht
  subst hn; subst ht
  have := (Lm.V_bound hg).1
  unfold Xf Xj
  rw [Int.natAbs_neg]
  congr 3
  have h1 := Xn5 (Lm.V l).natAbs
  by_cases hv : 0 < Lm.V l
  · have : 0 < (Lm.digs (Lm.V l).natAbs).length := h1.2 (by omega)
    rw [decide_eq_true (by omega), decide_eq_true (by omega)]
  · have : ¬ 0 < (Lm.digs (Lm.V l).natAbs).length := fun h => by have := h1.1 h; omega
    rw [decide_eq_false (by omega), decide_eq_false (by omega)]
theorem Xoo {l t : List Int} (hg : Lm.G l) (ht : t = Lm.trim l) : AV.st [.bool false, Xj t] = Xf (Lm.V l) := by
  rw [Lm.trim_digs hg] at ht
  subst ht
  have := (Lm.V_bound hg).1
  unfold Xf Xj
  rw [decide_eq_false (by omega)]
theorem Xo6 (a : List Int) : Xsu (uw a) = true := by
  unfold Xsu uw; rw [List.all_map, List.all_eq_true]; intro x _; rfl
theorem Xxe {e : X7l} {g k : Nat} {v v' : AV} (h : e (.o g) = ⟨k, true, v⟩) (hv : v = v') : e (.o g) = ⟨k, true, v'⟩ := hv ▸ h
theorem X4w {rows : List AV} {r : AV} {n : Int} {lo : Nat} (m : Nat) (h : n = (m : Int)) (hg : rows[lo + m]? = some r) : rows[lo + Int.toNat n]? = some r := by subst h; simpa using hg
theorem X22 {rows rows' : List AV} {r : AV} {n : Int} {lo : Nat} (m : Nat) (h : n = (m : Int)) (hg : rows' = rows.set (lo + m) r) : rows' = rows.set (lo + Int.toNat n) r := by subst h; simpa using hg
theorem Xg0 {p q : Prop} [Decidable p] [Decidable q] (h : (decide p == decide q) = true) : p ↔ q := decide_eq_decide.1 (eq_of_beq h)
theorem Xgt {p q : Prop} [Decidable p] [Decidable q] (h : (decide p == decide q) = false) : p ↔ ¬ q := by
  by_cases hp : p <;> by_cases hq : q <;> simp [hp, hq] at h ⊢
theorem Xz5 {b : Bool} (h : (b == false) = true) : b = false := by cases b <;> simp at h ⊢
theorem Xys {b : Bool} (h : (b == false) = false) : b = true := by cases b <;> simp at h ⊢
theorem Xg1 {α : Type} (f : α → AV) (z ok err : AV) (o : Option α) : X7b (Xdr f z ok err o) = true := by cases o <;> rfl
theorem X7m {op : BinOp} {y : Int} (h : op ≠ .quo ∧ op ≠ .rem) : (op = .quo ∨ op = .rem) → y ≠ 0 := fun k => by rcases k with k | k; exact absurd k h.1; exact absurd k h.2
theorem X5i {x : Int} (h0 : 0 ≤ x) (h1 : x < 18446744073709551616) : (BitVec.ofInt 64 x).toNat = x.toNat := by
  rw [BitVec.toNat_ofInt]; congr 1; exact Int.emod_eq_of_lt h0 h1
theorem Xpk (n : Nat) {x m : Int} (h0 : 0 ≤ x) (h1 : x < 18446744073709551616) (hn : n < 64) (hm : m = 2 ^ n - 1) : Jx .and .u64 x m = some (x % 2 ^ n) ∧ ((BinOp.and = .quo ∨ BinOp.and = .rem) → m ≠ 0) := by
  refine ⟨?_, X7m ⟨by simp, by simp⟩⟩
  have hp : (2 : Int) ^ n = ((2 ^ n : Nat) : Int) := by simp
  have hlt : (2 : Nat) ^ n < 2 ^ 64 := Nat.pow_lt_pow_right (by omega) hn
  have hpos : 0 < (2 : Nat) ^ n := Nat.two_pow_pos n
  have hm1 : m.toNat = 2 ^ n - 1 := by rw [hm, hp]; omega
  show some (IntKind.u64.wrap ((BitVec.ofInt 64 x &&& BitVec.ofInt 64 m).toNat)) = _
  rw [BitVec.toNat_and, X5i h0 h1, X5i (by rw [hm, hp]; omega) (by rw [hm, hp]; omega), hm1, Nat.and_two_pow_sub_one_eq_mod]
  have h3 : ((x.toNat % 2 ^ n : Nat) : Int) = x % 2 ^ n := by rw [Int.natCast_emod, hp, Int.toNat_of_nonneg h0]
  rw [h3, Jj (Int.emod_nonneg _ (by rw [hp]; omega))]
  have := Int.emod_lt_of_pos x (show (0 : Int) < 2 ^ n by rw [hp]; omega)
  rw [hp] at this ⊢; omega
theorem Xps (n : Nat) {x y : Int} (h0 : 0 ≤ x) (hy : y = (n : Int)) (hn : n ≤ 64) : Jx .shr .u64 x y = some (x / 2 ^ n) ∧ ((BinOp.shr = .quo ∨ BinOp.shr = .rem) → y ≠ 0) := by
  refine ⟨?_, X7m ⟨by simp, by simp⟩⟩
  show (if y < 0 then Option.none else some (x.fdiv (2 ^ (min y.toNat 64)))) = _
  rw [if_neg (by omega), hy]
  have : min ((n : Int)).toNat 64 = n := by omega
  rw [this, Int.fdiv_eq_ediv_of_nonneg]
  exact Int.le_of_lt (Int.pow_pos (by decide))
theorem Xuz (n : Nat) {x y r : Int} (hy : y = (n : Int)) (hn : n ≤ 64) (hr : r = x * 2 ^ n) (h0 : 0 ≤ r) (h1 : r < 18446744073709551616) : Jx .shl .u64 x y = some r ∧ ((BinOp.shl = .quo ∨ BinOp.shl = .rem) → y ≠ 0) := by
  refine ⟨?_, X7m ⟨by simp, by simp⟩⟩
  show (if y < 0 then Option.none else some (IntKind.u64.wrap (x * 2 ^ (min y.toNat 64)))) = _
  rw [if_neg (by omega), hy]
  have : min ((n : Int)).toNat 64 = n := by omega
  rw [this, ← hr, Jj h0 h1]
theorem Xx6 (n : Nat) {x y a : Int} (ha : x = a * 2 ^ n) (ha0 : 0 ≤ a) (hx : x < 18446744073709551616) (h0 : 0 ≤ y) (h1 : y < 2 ^ n) (hn : n < 64) : Jx .or .u64 x y = some (x + y) ∧ ((BinOp.or = .quo ∨ BinOp.or = .rem) → y ≠ 0) := by
  refine ⟨?_, X7m ⟨by simp, by simp⟩⟩
  have hp : (2 : Int) ^ n = ((2 ^ n : Nat) : Int) := by simp
  have hlt : (2 : Nat) ^ n < 2 ^ 64 := Nat.pow_lt_pow_right (by omega) hn
  have hx0 : 0 ≤ x := by rw [ha]; exact Int.mul_nonneg ha0 (by rw [hp]; omega)
  have hxn : x.toNat = a.toNat <<< n := by
    rw [Nat.shiftLeft_eq]
    have : ((a.toNat * 2 ^ n : Nat) : Int) = x := by rw [Int.natCast_mul, Int.toNat_of_nonneg ha0, ha, hp]
    omega
  show some (IntKind.u64.wrap ((BitVec.ofInt 64 x ||| BitVec.ofInt 64 y).toNat)) = _
  have hy64 : y < 18446744073709551616 := by rw [hp] at h1; omega
  have hyn : y.toNat < 2 ^ n := by rw [hp] at h1; omega
  have hor : x.toNat ||| y.toNat = x.toNat + y.toNat := by rw [hxn, ← Nat.shiftLeft_add_eq_or_of_lt hyn]
  have hsum : x.toNat ||| y.toNat < 2 ^ 64 := Nat.or_lt_two_pow (by omega) (by omega)
  rw [BitVec.toNat_or, X5i hx0 hx, X5i h0 hy64]
  rw [hor] at hsum ⊢
  rw [show ((x.toNat + y.toNat : Nat) : Int) = x + y by omega, Jj (by omega) (by omega)]
theorem Xtb (x y : Int) : Jx .mul .u64 x y = some ((x * y) % 18446744073709551616) ∧ ((BinOp.mul = .quo ∨ BinOp.mul = .rem) → y ≠ 0) := ⟨congrArg some (by simp [IntKind.wrap, IntKind.signed, IntKind.bits]), fun h => by rcases h with h | h <;> cases h⟩
open Go Go.RowKit
theorem Kq (a : Int) : Lm.V (Lm.digs a.natAbs) = (a.natAbs : Int) := Lm.V_digs _
theorem Xa2 (a : Int) : Lm.G (Lm.digs a.natAbs) := Lm.G_digs _
theorem Xj9 (a : Int) : Lm.Nz (Lm.digs a.natAbs) := (Lm.digs_spec _).2.2
theorem Yj (a : Int) : (Lm.digs a.natAbs).length = X66 a := rfl
theorem Xej (a : Int) : (a.natAbs : Int) < Lm.P (X66 a) := Lm.digs_lt _
theorem Xqi {a : Int} {m : Nat} (h : (a.natAbs : Int) < Lm.P m) : X66 a ≤ m := Lm.digs_len h
theorem Xl8 : X66 0 = 0 := by unfold X66; rw [Int.natAbs_zero, Lm.digs_zero]; rfl
theorem Xbi {a : Int} : 0 < X66 a ↔ a ≠ 0 := by
  have := Xn5 a.natAbs
  unfold X66; omega
theorem Xdn {a b : Int} (h : a.natAbs ≤ b.natAbs) : X66 a ≤ X66 b := Xqi (by have := Xej b; omega)
theorem Xff (a : Int) : X66 (-a) = X66 a := by unfold X66; rw [Int.natAbs_neg]
theorem Xfc (a b : Int) : X66 (a + b) ≤ 1 * (X66 a + X66 b) + 1 := by
  refine Nat.le_trans (Xqi (m := max (X66 a) (X66 b) + 1) ?_) (by omega)
  have h1 := Xej a; have h2 := Xej b
  have h3 := Lm.P_mono (m := X66 a) (n := max (X66 a) (X66 b)) (by omega)
  have h4 := Lm.P_mono (m := X66 b) (n := max (X66 a) (X66 b)) (by omega)
  rw [Lm.P_succ]; omega
theorem Jm (a b : Int) : X66 (a * b) ≤ 1 * (X66 a + X66 b) + 0 := by
  rw [Nat.one_mul, Nat.add_zero]
  refine Xqi ?_
  rw [Int.natAbs_mul, Lm.P_add, Int.natCast_mul]
  exact Lm.mul_lt (by omega) (Xej a) (by omega) (Xej b)
theorem Xhl (a b : Int) : X66 (a / b) ≤ X66 a := Xdn (Int.natAbs_ediv_le_natAbs _ _)
theorem Xna {a b : Int} (h : 0 < b) : X66 (a % b) ≤ X66 b := Xdn (by
  have := Int.emod_nonneg a (show b ≠ 0 by omega); have := Int.emod_lt_of_pos a h; omega)
theorem Xpv (a b : Int) : X66 (Int.gcd a b : Int) ≤ 1 * (X66 a + X66 b) + 0 := by
  by_cases h : a = 0
  · subst h; rw [Int.gcd_zero_left]; have := Xdn (a := (b.natAbs : Int)) (b := b) (by simp); omega
  · have h1 : (Int.gcd a b : Int).natAbs ≤ a.natAbs := by
      rw [Int.natAbs_natCast]; exact Nat.le_of_dvd (by omega) (Int.gcd_dvd_natAbs_left a b)
    have := Xdn h1; omega
theorem Xsi : Lm.P 3 = 1000000000000000000000000000 := by decide
theorem X04 : Lm.P 2 = 1000000000000000000 := by decide
theorem Xfi {n : Int} (h0 : -9223372036854775808 ≤ n) (h1 : n ≤ 18446744073709551615) : X66 n ≤ 3 := Xqi (by rw [Xsi]; omega)
theorem Xh3 {a : Int} {m : Nat} (h : X66 a ≤ m) : (a.natAbs : Int) < Lm.P m := by
  have := Xej a; have := Lm.P_mono h; omega
theorem X45 (a b : Int) : Lm.V (Lm.dg (max (Lm.digs a.natAbs).length (Lm.digs b.natAbs).length + 1) (Lm.V (Lm.digs a.natAbs) + Lm.V (Lm.digs b.natAbs))) = (a.natAbs : Int) + b.natAbs := by
  rw [Kq, Kq, Yj, Yj]
  have h1 := Xej a; have h2 := Xej b
  have h3 := Lm.P_mono (m := X66 a) (n := max (X66 a) (X66 b)) (by omega)
  have h4 := Lm.P_mono (m := X66 b) (n := max (X66 a) (X66 b)) (by omega)
  exact Lm.V_dg (by omega) (by rw [Lm.P_succ]; omega)
theorem Xyu {a b : Int} (h : b.natAbs ≤ a.natAbs) : Lm.V (Lm.dg (Lm.digs a.natAbs).length (Lm.V (Lm.digs a.natAbs) - Lm.V (Lm.digs b.natAbs))) = (a.natAbs : Int) - b.natAbs := by
  rw [Kq, Kq, Yj]
  have h1 := Xej a
  exact Lm.V_dg (by omega) (by omega)
theorem X2u (a b : Int) : Lm.V (Lm.dg ((Lm.digs a.natAbs).length + (Lm.digs b.natAbs).length) (Lm.V (Lm.digs a.natAbs) * Lm.V (Lm.digs b.natAbs))) = (a.natAbs : Int) * b.natAbs := by
  rw [Kq, Kq, Yj, Yj]
  exact Lm.V_dg (Int.mul_nonneg (by omega) (by omega)) (by rw [Lm.P_add]; exact Lm.mul_lt (by omega) (Xej a) (by omega) (Xej b))
theorem Xki {a b : Int} (h : b.natAbs ≤ a.natAbs) : (Lm.digs b.natAbs).length ≤ (Lm.digs a.natAbs).length := Xdn h
theorem Xuj (b : Int) (c : Bool) (h : c = decide (0 < b)) : AV.st [.bool c, Xj (Lm.digs b.natAbs)] = Xf (-b) := by
  unfold Xf Xj; rw [Int.natAbs_neg, h]; congr 3; exact decide_eq_decide.2 (by omega)
theorem Xp1 {a b : Int} (ha : 0 ≤ a) (hb : 0 ≤ b) : Int.sign (Lm.V (Lm.digs a.natAbs) - Lm.V (Lm.digs b.natAbs)) = Int.sign (a - b) := by
  rw [Kq, Kq]; congr 1; omega
theorem Xp8 {a b : Int} (ha : a < 0) (hb : b < 0) : Int.sign (Lm.V (Lm.digs b.natAbs) - Lm.V (Lm.digs a.natAbs)) = Int.sign (a - b) := by
  rw [Kq, Kq]; congr 1; omega
theorem Xho {x : Int} : Int.sign x < 0 ↔ x < 0 := Int.sign_neg_iff
theorem Xlp (n : Int) : n % 18446744073709551616 = IntKind.u64.wrap n := by simp [IntKind.wrap, IntKind.signed, IntKind.bits]
theorem Xuy {n : Int} (h0 : -9223372036854775808 ≤ n) (h1 : n < 0) : -n = IntKind.u64.wrap (0 - n % 18446744073709551616) := by
  simp [IntKind.wrap, IntKind.signed, IntKind.bits]; omega
theorem X1l {n : Int} : (-n) % 18446744073709551616 = IntKind.u64.wrap (0 - n) := by
  simp [IntKind.wrap, IntKind.signed, IntKind.bits]
theorem Xv6 {n u : Int} (h0 : -9223372036854775808 ≤ n) (h1 : n < 9223372036854775808) (hu : u = n % 18446744073709551616) : n = IntKind.i64.wrap u := by
  subst hu; simp [IntKind.wrap, IntKind.signed, IntKind.bits]; omega
theorem X2n {P : Program} {f : Nat} {args : List AV} {x : AV} (sz : Nat) (h : CS P f args (.tup [.nil, x])) : CS P f args (.tup [.sl sz [], x]) := by
  obtain ⟨h1, h2, h3⟩ := h
  refine ⟨h1, rfl, fun S w vs hS hvs => Calls.mono (h3 S w vs hS hvs) ?_⟩
  rintro en w' ⟨v, rfl, hb, arr, rfl, u, rest, h4, h5, h6⟩
  refine ⟨_, rfl, hb, arr, rfl, u, rest, h4, ?_, h6⟩
  unfold Xgb X6u at h5
  simp only [List.cons.injEq, and_true] at h5
  subst h5
  unfold Xgb X6u
  exact ⟨none, 0, rfl, Nat.le_refl _, (fun r hr => by cases hr), .inl rfl⟩
theorem Xrh {a b : Int} (ha : 0 ≤ a) (hb : 0 < b) : ((a.natAbs : Int) / (b.natAbs : Int) = a / b) ∧ (a.natAbs : Int) % (b.natAbs : Int) = a % b := by
  have h1 : (a.natAbs : Int) = a := by omega
  have h2 : (b.natAbs : Int) = b := by omega
  rw [h1, h2]; exact ⟨rfl, rfl⟩
theorem X34 {a b : Int} (ha : a < 0) (hb : 0 < b) (h : 0 < (a.natAbs : Int) % (b.natAbs : Int)) : -((a.natAbs : Int) / (b.natAbs : Int)) - 1 = a / b ∧ -((a.natAbs : Int) % (b.natAbs : Int)) + b = a % b := by
  have h1 : (a.natAbs : Int) = -a := by omega
  have h2 : (b.natAbs : Int) = b := by omega
  rw [h1, h2] at h ⊢
  have h3 := Int.emod_add_mul_ediv (-a) b
  have h4 := Int.emod_lt_of_pos (-a) hb
  exact Lm.divmod_uniq (by grind) (by omega) (by omega)
theorem X3f {a b : Int} (ha : a < 0) (hb : 0 < b) (h : (a.natAbs : Int) % (b.natAbs : Int) = 0) : -((a.natAbs : Int) / (b.natAbs : Int)) = a / b ∧ (0 : Int) = a % b := by
  have h1 : (a.natAbs : Int) = -a := by omega
  have h2 : (b.natAbs : Int) = b := by omega
  rw [h1, h2] at h ⊢
  have h3 := Int.emod_add_mul_ediv (-a) b
  exact Lm.divmod_uniq (by grind) (by omega) (by omega)
def Xjz : Nat → Nat → Nat → Nat
  | 0, _, r => r
  | k + 1, n, r => Xjz k n (bif Nat.ble ((r + 2 ^ k) * (r + 2 ^ k)) n then r + 2 ^ k else r)
theorem Xnj : ∀ (k n r : Nat), r * r ≤ n → n < (r + 2 ^ k) * (r + 2 ^ k) → Xjz k n r * Xjz k n r ≤ n ∧ n < (Xjz k n r + 1) * (Xjz k n r + 1)
  | 0, n, r, h1, h2 => by simp only [Xjz, Nat.pow_zero] at *; exact ⟨h1, h2⟩
  | k + 1, n, r, h1, h2 => by
    simp only [Xjz]
    have e : r + 2 ^ (k + 1) = (r + 2 ^ k) + 2 ^ k := by rw [Nat.pow_succ]; omega
    cases hc : Nat.ble ((r + 2 ^ k) * (r + 2 ^ k)) n with
    | true => simp only [cond_true]; exact Xnj k n _ (Nat.le_of_ble_eq_true hc) (by rw [← e]; exact h2)
    | false => simp only [cond_false]; exact Xnj k n r h1 (Nat.lt_of_not_le fun h => by rw [Nat.ble_eq_true_of_le h] at hc; cases hc)
def Xy6 (n : Nat) : Nat := Xjz (n.log2 / 2 + 1) n 0
theorem X1n (n : Nat) : Xy6 n * Xy6 n ≤ n ∧ n < (Xy6 n + 1) * (Xy6 n + 1) := by
  refine Xnj _ n 0 (by omega) ?_
  rw [Nat.zero_add, ← Nat.pow_add]
  refine Nat.lt_of_lt_of_le (Nat.lt_log2_self) (Nat.pow_le_pow_right (by omega) (by omega))
def Y1 (a : Int) : Int := (Xy6 a.toNat : Int)
theorem Xiq {a : Int} (h : 0 ≤ a) : 0 ≤ Y1 a ∧ Y1 a * Y1 a ≤ a ∧ a < (Y1 a + 1) * (Y1 a + 1) := by
  obtain ⟨h1, h2⟩ := X1n a.toNat
  unfold Y1
  have e : ((a.toNat : Nat) : Int) = a := by omega
  refine ⟨by omega, ?_, ?_⟩
  · rw [← e]; simp only [Int.toNat_natCast]; exact_mod_cast h1
  · conv => lhs; rw [← e]
    exact_mod_cast h2
theorem Xz2 {a x y : Int} (hx : 0 ≤ x) (hy : 0 ≤ y) (h1 : x * x ≤ a) (h2 : a < (x + 1) * (x + 1)) (h3 : y * y ≤ a) (h4 : a < (y + 1) * (y + 1)) : x = y := by
  by_cases h : x = y
  · exact h
  · exfalso
    rcases (by omega : x + 1 ≤ y ∨ y + 1 ≤ x) with k | k
    · have := Int.mul_le_mul k k (by omega) hy; omega
    · have := Int.mul_le_mul k k (by omega) hx; omega
theorem Xih {a x : Int} (hx : 0 ≤ x) (h1 : x * x ≤ a) (h2 : a < (x + 1) * (x + 1)) : x = Y1 a := by
  have h0 : 0 ≤ a := by have := Int.mul_nonneg hx hx; omega
  obtain ⟨k1, k2, k3⟩ := Xiq h0
  exact Xz2 hx k1 h1 h2 k2 k3
theorem Xkg (a : Int) (h : 0 ≤ a) : X66 (Y1 a) ≤ X66 a := by
  obtain ⟨k1, k2, k3⟩ := Xiq h
  refine Xdn ?_
  have : Y1 a * 1 ≤ Y1 a * Y1 a ∨ Y1 a = 0 := by
    by_cases hc : Y1 a = 0
    · exact .inr hc
    · exact .inl (Int.mul_le_mul_of_nonneg_left (by omega) k1)
  omega
theorem X12 {a x q n : Int} (hx : 0 < x) (ha : 0 < a) (hq : q = a / x) (hn : n = (x + q) / 2) : a < (n + 1) * (n + 1) ∧ (x ≤ n → x * x ≤ a) ∧ (¬ x ≤ n → 0 < n) ∧ 0 ≤ q := by
  have h1 := Int.emod_add_mul_ediv a x
  have h2 := Int.emod_lt_of_pos a hx
  have h3 := Int.emod_nonneg a (show x ≠ 0 by omega)
  rw [← hq] at h1
  have hq0 : 0 ≤ q := by rw [hq]; exact Int.ediv_nonneg (by omega) (by omega)
  have h4 : x + q + 1 ≤ 2 * (n + 1) := by omega
  refine ⟨?_, ?_, ?_, hq0⟩
  · have h5 : (x + q + 1) * (x + q + 1) ≤ (2 * (n + 1)) * (2 * (n + 1)) := Int.mul_le_mul h4 h4 (by omega) (by omega)
    have h6 : 0 ≤ (x - (q + 1)) * (x - (q + 1)) := by
      rcases (by omega : 0 ≤ x - (q + 1) ∨ 0 ≤ -(x - (q + 1))) with k | k
      · exact Int.mul_nonneg k k
      · have := Int.mul_nonneg k k; rwa [Int.neg_mul_neg] at this
    grind
  · intro h
    have h5 : x ≤ q := by omega
    have := Int.mul_le_mul_of_nonneg_left h5 (show 0 ≤ x by omega)
    omega
  · intro h
    by_cases hc : 0 < n
    · exact hc
    · exfalso
      have : q = 0 ∧ x = 1 := by omega
      obtain ⟨rfl, rfl⟩ := this
      omega
theorem Xym (a b : Int) : Js (!(decide (a < 0) == decide (b < 0))) ((a * b).natAbs : Int) = a * b := by
  unfold Js
  by_cases ha : a < 0 <;> by_cases hb : b < 0 <;> simp only [ha, hb, decide_true, decide_false, beq_self_eq_true, Bool.true_beq, Bool.false_beq, Bool.not_true, Bool.not_false, cond_true, cond_false]
  · have := Int.mul_pos_of_neg_of_neg ha hb; omega
  · have := Int.mul_nonpos_of_nonpos_of_nonneg (a := a) (b := b) (by omega) (by omega); omega
  · have := Int.mul_nonpos_of_nonneg_of_nonpos (a := a) (b := b) (by omega) (by omega); omega
  · have := Int.mul_nonneg (a := a) (b := b) (by omega) (by omega); omega
theorem Xit (n : Bool) {l : List Int} (g : Lm.G l) : X66 (Js n (Lm.V l)) ≤ l.length := by
  refine Xqi ?_
  have := Lm.V_bound g
  cases n <;> simp only [Js, cond_true, cond_false] <;> omega
section
variable {a b Q R : Int}
theorem X53 (hb : 0 < b) (hQ : Q = (a.natAbs : Int) / (b.natAbs : Int)) (hR : R = (a.natAbs : Int) % (b.natAbs : Int)) (h : Js (decide (a < 0)) R = 0) : Js (!(decide (a < 0) == false)) Q = a / b ∧ Js (decide (a < 0)) R = a % b := by
  by_cases ha : a < 0
  · simp only [ha, decide_true, Js, cond_true, Bool.true_beq, Bool.not_false] at h ⊢
    have := X3f (b := b) ha hb (by omega)
    rw [← hQ] at this; exact ⟨this.1, by omega⟩
  · simp only [ha, decide_false, Js, cond_false, beq_self_eq_true, Bool.not_true] at h ⊢
    have := Xrh (a := a) (b := b) (by omega) hb
    rw [← hQ, ← hR] at this; exact this
theorem X54 (hb : 0 < b) (hQ : Q = (a.natAbs : Int) / (b.natAbs : Int)) (hR : R = (a.natAbs : Int) % (b.natAbs : Int)) (h : Js (decide (a < 0)) R < 0) : Js (!(decide (a < 0) == false)) Q - 1 = a / b ∧ Js (decide (a < 0)) R + b = a % b := by
  have hn : 0 ≤ R := by rw [hR]; exact Int.emod_nonneg _ (by omega)
  by_cases ha : a < 0
  · simp only [ha, decide_true, Js, cond_true, Bool.true_beq, Bool.not_false] at h ⊢
    have := X34 (b := b) ha hb (by omega)
    rw [← hQ, ← hR] at this; exact this
  · simp only [ha, decide_false, Js, cond_false] at h; omega
theorem X51 (hb : 0 < b) (hQ : Q = (a.natAbs : Int) / (b.natAbs : Int)) (hR : R = (a.natAbs : Int) % (b.natAbs : Int)) (h : 0 < Js (decide (a < 0)) R) : Js (!(decide (a < 0) == false)) Q = a / b ∧ Js (decide (a < 0)) R = a % b := by
  have hn : 0 ≤ R := by rw [hR]; exact Int.emod_nonneg _ (by omega)
  by_cases ha : a < 0
  · simp only [ha, decide_true, Js, cond_true] at h; omega
  · simp only [ha, decide_false, Js, cond_false, beq_self_eq_true, Bool.not_true] at h ⊢
    have := Xrh (a := a) (b := b) (by omega) hb
    rw [← hQ, ← hR] at this; exact this
end
theorem Xvb (a b : Int) : Int.gcd (a.natAbs : Int) (b.natAbs : Int) = Int.gcd a b := by simp [Int.gcd]
theorem Xiy {u v : Int} (hu : 0 ≤ u) (hv : 0 < v) : Int.gcd v (u % v) = Int.gcd u v := by
  have h1 : (u % v).natAbs = u.natAbs % v.natAbs := by
    have := (Xrh hu hv).2
    have := Int.emod_nonneg u (show v ≠ 0 by omega)
    have h3 : ((u.natAbs % v.natAbs : Nat) : Int) = (u.natAbs : Int) % (v.natAbs : Int) := Int.natCast_emod _ _
    omega
  unfold Int.gcd
  rw [h1, Nat.gcd_comm u.natAbs, Nat.gcd_rec v.natAbs u.natAbs, Nat.gcd_comm]
theorem Xni {x : Int} : 0 ≤ Int.sign x ↔ 0 ≤ x := by
  rcases Int.lt_trichotomy x 0 with h | h | h
  · rw [Int.sign_eq_neg_one_of_neg h]; omega
  · subst h; simp
  · rw [Int.sign_eq_one_of_pos h]; omega
theorem Xm0 {x : Int} : 0 < Int.sign x ↔ 0 < x := by
  rcases Int.lt_trichotomy x 0 with h | h | h
  · rw [Int.sign_eq_neg_one_of_neg h]; omega
  · subst h; simp
  · rw [Int.sign_eq_one_of_pos h]; omega
theorem X4r (v : Int) : Js false v = v := rfl
theorem Xi2 : Xf 0 = .st [.bool false, .sl 1 []] := by
  unfold Xf; rw [Int.natAbs_zero, Lm.digs_zero]; rfl
theorem Xmk {a : Int} (h : a < 0) : Y1 a = 0 := by
  unfold Y1; rw [show a.toNat = 0 by omega]; decide
theorem Xst {a : Int} {k : Nat} (h : 0 < a) (hk : k = (X66 a + 1) / 2) : 0 < Lm.V (List.replicate k 0 ++ [1]) ∧ a < (Lm.V (List.replicate k 0 ++ [1]) + 1) * (Lm.V (List.replicate k 0 ++ [1]) + 1) ∧ X66 (Lm.V (List.replicate k 0 ++ [1])) ≤ X66 a + 1 := by
  have e : Lm.V (List.replicate k 0 ++ [1]) = Lm.P k := by rw [Lm.V_append, Lm.V_zeros]; simp [Lm.V_cons]
  rw [e]
  have h1 := Lm.P_pos k
  refine ⟨h1, ?_, ?_⟩
  · have h2 := Xej a
    have h3 := Lm.P_mono (m := X66 a) (n := k + k) (by omega)
    rw [Lm.P_add] at h3
    grind
  · have := Xqi (a := Lm.P k) (m := k + 1) (by rw [Lm.P_succ]; omega)
    have : k ≤ X66 a := by
      have := Xbi.2 (show a ≠ 0 by omega); omega
    omega
def Xtq (a : Int) : Bool := decide (-9223372036854775808 ≤ a) && decide (a ≤ 9223372036854775807)
def Xfo (a : Int) : Int × Bool := (bif Xtq a then a else 0, Xtq a)
theorem Xuo {a : Int} (h1 : -9223372036854775808 ≤ a) (h2 : a ≤ 9223372036854775807) : Xfo a = (a, true) := by
  unfold Xfo Xtq; rw [decide_eq_true h1, decide_eq_true h2]; rfl
theorem Xw0 {a : Int} (h : a < -9223372036854775808 ∨ 9223372036854775807 < a) : Xfo a = (0, false) := by
  have : Xtq a = false := by
    unfold Xtq
    rcases h with h | h
    · rw [decide_eq_false (by omega : ¬ -9223372036854775808 ≤ a)]; rfl
    · rw [decide_eq_false (by omega : ¬ a ≤ 9223372036854775807), Bool.and_false]
  unfold Xfo; rw [this]; rfl
theorem sign_zero {x : Int} : Int.sign x = 0 ↔ x = 0 := Int.sign_eq_zero_iff_zero
open Go Go.RowKit
theorem den_pos (q : Rat) : (0 : Int) < (q.den : Int) := by have := q.den_pos; omega
theorem Xtm (q : Rat) : (q.den : Int) ≠ 0 := by have := den_pos q; omega
theorem Xd4 {n d : Int} (hd : 0 < d) : 0 < (Int.gcd n d : Int) := by
  have := Int.gcd_pos_of_ne_zero_right n (show d ≠ 0 by omega); omega
theorem Xzk {n d : Int} (hd : 0 < d) : (Rat.divInt n d).num = n / (Int.gcd n d : Int) := by
  rw [Rat.num_divInt, Int.sign_eq_one_of_pos hd, Int.one_mul, Int.gcd_comm]
theorem Xyn {n d : Int} (hd : 0 < d) : ((Rat.divInt n d).den : Int) = d / (Int.gcd n d : Int) := by
  rw [Rat.den_divInt, if_neg (by omega), Int.gcd_comm, Int.natCast_ediv]; congr 1; omega
theorem Xo3 {n d : Int} (hd : 0 < d) : AV.st [Xf (n / (Int.gcd n d : Int)), Xf (d / (Int.gcd n d : Int))] = Xc (Rat.divInt n d) := by
  unfold Xc; rw [Xzk hd, Xyn hd]
theorem Xrz {n d : Int} (hd : 0 < d) (h : (Int.gcd n d : Int) = 1) : AV.st [Xf n, Xf d] = Xc (Rat.divInt n d) := by
  rw [← Xo3 hd, h, Int.ediv_one, Int.ediv_one]
theorem Xsm (n d : Int) : Xc (Rat.divInt (-n) (-d)) = Xc (Rat.divInt n d) := by rw [Rat.neg_divInt_neg]
theorem X0s (a b : Rat) : Rat.divInt (a.num * (b.den : Int) + b.num * (a.den : Int)) ((a.den : Int) * (b.den : Int)) = a + b := by
  rw [← Rat.divInt_add_divInt _ _ (Xtm a) (Xtm b), Rat.num_divInt_den, Rat.num_divInt_den]
theorem X41 {a b : Rat} (h : (a.den : Int) - (b.den : Int) = 0) : Rat.divInt (a.num + b.num) (a.den : Int) = a + b := by
  have h' : (b.den : Int) = (a.den : Int) := by omega
  rw [← X0s, h', ← Int.add_mul, Rat.divInt_mul_right (Xtm a)]
theorem X20 (a b : Rat) : Rat.divInt (a.num * b.num) ((a.den : Int) * (b.den : Int)) = a * b := by
  rw [← Rat.divInt_mul_divInt, Rat.num_divInt_den, Rat.num_divInt_den]
theorem X3t (a b : Rat) : Rat.divInt (a.num * (b.den : Int)) ((a.den : Int) * b.num) = a / b := by
  rw [← Rat.divInt_mul_divInt, Rat.num_divInt_den, ← Rat.inv_divInt b.num, Rat.num_divInt_den, Rat.div_def]
theorem Xsc {q : Rat} : q.num = 0 ↔ q = 0 := Rat.num_eq_zero
def Xb3 (a b : Rat) : Int := Int.sign (a.num * (b.den : Int) - b.num * (a.den : Int))
theorem Xww {a b : Rat} (h : Int.sign a.num < Int.sign b.num) : Xb3 a b = -1 := by
  unfold Xb3
  refine Int.sign_eq_neg_one_of_neg ?_
  have h1 := den_pos a; have h2 := den_pos b
  have : (a.num < 0 ∧ 0 ≤ b.num) ∨ (a.num ≤ 0 ∧ 0 < b.num) := by
    rcases Int.lt_trichotomy a.num 0 with h3 | h3 | h3 <;> rcases Int.lt_trichotomy b.num 0 with h4 | h4 | h4 <;>
      (try rw [Int.sign_eq_neg_one_of_neg h3] at h) <;> (try rw [Int.sign_eq_neg_one_of_neg h4] at h) <;> (try rw [Int.sign_eq_one_of_pos h3] at h) <;> (try rw [Int.sign_eq_one_of_pos h4] at h) <;> (try rw [h3, Int.sign_zero] at h) <;> (try rw [h4, Int.sign_zero] at h) <;> omega
  rcases this with ⟨k1, k2⟩ | ⟨k1, k2⟩
  · have := Int.mul_neg_of_neg_of_pos k1 h2; have := Int.mul_nonneg k2 (Int.le_of_lt h1); omega
  · have := Int.mul_nonpos_of_nonpos_of_nonneg k1 (Int.le_of_lt h2); have := Int.mul_pos k2 h1; omega
theorem Xy2 {a b : Rat} (h : Int.sign b.num < Int.sign a.num) : Xb3 a b = 1 := by
  have := Xww h
  unfold Xb3 at *
  rw [← Int.neg_sub, Int.sign_neg, this]; rfl
def Xt6 (x y : Int) : Int := bif decide (x < y) then -1 else bif decide (y < x) then 1 else 0
def Xsp (a b : Rat) : Option Rat := bif decide (b = 0) then none else some (a / b)
def Xze (a b : Int) : Option Rat := bif decide (b = 0) then none else some (Rat.divInt a b)
def Ku (a : Rat) : Int := a.num / (a.den : Int)
def Xji (a : Int) : Option Int := bif (decide (0 ≤ a) && decide (Y1 a * Y1 a = a)) then some (Y1 a) else none
theorem Xgr {a r : Int} : Xji a = some r ↔ 0 ≤ a ∧ r * r = a ∧ 0 ≤ r := by
  unfold Xji
  by_cases h0 : 0 ≤ a
  · obtain ⟨k1, k2, k3⟩ := Xiq h0
    by_cases h1 : Y1 a * Y1 a = a
    · rw [decide_eq_true h0, decide_eq_true h1]; simp only [Bool.and_self, cond_true, Option.some.injEq]
      constructor
      · rintro rfl; exact ⟨h0, h1, k1⟩
      · rintro ⟨_, h2, h3⟩; exact (Xih h3 (by omega) (by rw [← h2]; grind)).symm
    · rw [decide_eq_true h0, decide_eq_false h1]; simp only [Bool.and_false, cond_false]
      constructor
      · intro h; cases h
      · rintro ⟨_, h2, h3⟩
        have := Xih h3 (by omega) (show a < (r + 1) * (r + 1) by rw [← h2]; grind)
        rw [← this] at h1; exact absurd h2 h1
  · rw [decide_eq_false h0]; simp only [Bool.false_and, cond_false]
    constructor
    · intro h; cases h
    · rintro ⟨h, _⟩; exact absurd h h0
def Xg7 (a : Rat) : Option Rat := match Xji a.num, Xji (a.den : Int) with
  | some p, some q => some (Rat.divInt p q)
  | _, _ => none
theorem X4m {p q : Int} (h : Int.gcd (p * p) (q * q) = 1) : Int.gcd p q = 1 := by
  have h1 : (Int.gcd p q) ∣ Int.gcd (p * p) (q * q) := by
    have a := Int.gcd_dvd_left p q; have b := Int.gcd_dvd_right p q
    exact Int.dvd_gcd (Int.dvd_trans a (Int.dvd_mul_right p p)) (Int.dvd_trans b (Int.dvd_mul_right q q))
  rw [h] at h1
  exact Nat.dvd_one.1 h1
theorem Xtu {a : Rat} {p q : Int} (hp : Xji a.num = some p) (hq : Xji (a.den : Int) = some q) : AV.st [Xf p, Xf q] = Xc (Rat.divInt p q) := by
  obtain ⟨h1, h2, h3⟩ := Xgr.1 hp
  obtain ⟨k1, k2, k3⟩ := Xgr.1 hq
  have hq0 : 0 < q := by
    rcases (by omega : q = 0 ∨ 0 < q) with h | h
    · subst h; have := den_pos a; omega
    · exact h
  have hr : Int.gcd (p * p) (q * q) = 1 := by
    rw [h2, k2]; have := a.reduced; unfold Int.gcd; simpa using this
  exact Xrz hq0 (by rw [X4m hr]; rfl)
theorem X26 {a b : Int} {n : Nat} (ha : X66 a ≤ n) (hb : X66 b ≤ n) : X66 (a + b) ≤ n + 1 := by
  refine Xqi ?_
  have h1 := Xh3 ha; have h2 := Xh3 hb
  rw [Lm.P_succ]; omega
theorem Xsr (n d : Int) : X6p (Rat.divInt n d) ≤ max (max (X66 n) (X66 d)) 1 := by
  have l1 := Xdq 1 (by decide)
  unfold X6p
  rcases Int.lt_trichotomy d 0 with hd | hd | hd
  · rw [← Rat.neg_divInt_neg, Xzk (by omega), Xyn (by omega)]
    have h1 := Xhl (-n) (Int.gcd (-n) (-d) : Int); have h2 := Xhl (-d) (Int.gcd (-n) (-d) : Int)
    rw [Xff] at h1 h2; omega
  · subst hd; rw [Rat.divInt_zero]
    have h1 : X66 (0 : Rat).num = X66 0 := rfl
    have h2 : X66 ((0 : Rat).den : Int) = X66 1 := rfl
    rw [h1, h2, Xl8]; omega
  · rw [Xzk hd, Xyn hd]
    have h1 := Xhl n (Int.gcd n d : Int); have h2 := Xhl d (Int.gcd n d : Int); omega
theorem Xap (q : Rat) : X66 q.num ≤ X6p q ∧ X66 (q.den : Int) ≤ X6p q := by unfold X6p; omega
theorem Xvv (q : Rat) : 1 ≤ X6p q := by
  have := Xap q; have := Xbi.2 (Xtm q); omega
theorem Xj1 (a b : Rat) : X6p (a + b) ≤ 1 * (X6p a + X6p b) + 1 := by
  rw [← X0s]
  refine Nat.le_trans (Xsr _ _) ?_
  have ha := Xap a; have hb := Xap b
  have h2 := Jm a.num (b.den : Int); have h3 := Jm b.num (a.den : Int); have h4 := Jm (a.den : Int) (b.den : Int)
  have h1 := X26 (a := a.num * (b.den : Int)) (b := b.num * (a.den : Int)) (n := X6p a + X6p b) (by omega) (by omega)
  omega
theorem Xmx (a b : Rat) : X6p (a * b) ≤ 1 * (X6p a + X6p b) + 0 := by
  rw [← X20]
  refine Nat.le_trans (Xsr _ _) ?_
  have ha := Xap a; have hb := Xap b; have pa := Xvv a
  have h2 := Jm a.num b.num; have h4 := Jm (a.den : Int) (b.den : Int)
  omega
theorem Xu3 (a b : Rat) : X6p (a / b) ≤ 1 * (X6p a + X6p b) + 0 := by
  rw [← X3t]
  refine Nat.le_trans (Xsr _ _) ?_
  have ha := Xap a; have hb := Xap b; have pa := Xvv a
  have h2 := Jm a.num (b.den : Int); have h4 := Jm (a.den : Int) b.num
  omega
theorem Xp5 (a : Rat) : X6p (-a) = X6p a := by
  have : X6p (-a) = max (X66 (-a.num)) (X66 (a.den : Int)) := rfl
  rw [this, Xff]; rfl
theorem Xnl (a b : Rat) : X6p (a - b) ≤ 1 * (X6p a + X6p b) + 1 := by
  have := Xj1 a (-b); rw [Xp5] at this; rw [Rat.sub_eq_add_neg]; exact this
theorem Xhj (n : Int) : X6p (n : Rat) ≤ max (X66 n) 1 := by
  have l1 := Xdq 1 (by decide)
  have : X6p (n : Rat) = max (X66 n) (X66 1) := rfl
  omega
theorem Xyx (a : Rat) : X66 (Ku a) ≤ 1 * (X6p a) + 0 := by
  have := Xhl a.num (a.den : Int); have := Xap a; unfold Ku; omega
theorem Xwn {a r : Int} (h : Xji a = some r) : X66 r ≤ X66 a := by
  obtain ⟨h1, h2, h3⟩ := Xgr.1 h
  have := Xih h3 (by omega) (show a < (r + 1) * (r + 1) by rw [← h2]; grind)
  rw [this]; exact Xkg a h1
theorem Xwl (a : Rat) (r : Rat) (h : Xg7 a = some r) : X6p r ≤ 1 * (X6p a) + 0 := by
  have pa := Xvv a; have ha := Xap a
  unfold Xg7 at h
  split at h
  · rename_i p q hp hq
    cases h
    have := Xsr p q; have := Xwn hp; have := Xwn hq
    omega
  · cases h
theorem X00 (a b : Rat) (r : Rat) (h : Xsp a b = some r) : X6p r ≤ 1 * (X6p a + X6p b) + 0 := by
  unfold Xsp at h
  cases hb : decide (b = 0) <;> rw [hb] at h
  · cases h; exact Xu3 a b
  · cases h
theorem Xp6 (n : Int) : AV.st [Xf n, Xf 1] = Xc (n : Rat) := rfl
theorem Xx2 (x y : Int) : (x < y ∧ Xt6 x y = -1) ∨ (y < x ∧ Xt6 x y = 1) ∨ (x = y ∧ Xt6 x y = 0) := by
  unfold Xt6
  rcases Int.lt_trichotomy x y with h | h | h
  · left; rw [decide_eq_true h]; exact ⟨h, rfl⟩
  · right; right; rw [decide_eq_false (show ¬ x < y by omega), decide_eq_false (show ¬ y < x by omega)]; exact ⟨h, rfl⟩
  · right; left; rw [decide_eq_false (show ¬ x < y by omega), decide_eq_true h]; exact ⟨h, rfl⟩
theorem X4j {a b : Rat} (h : ¬ Xt6 (Int.sign a.num) (Int.sign b.num) = 0) : Xt6 (Int.sign a.num) (Int.sign b.num) = Xb3 a b := by
  rcases Xx2 (Int.sign a.num) (Int.sign b.num) with ⟨q1, q2⟩ | ⟨q1, q2⟩ | ⟨q1, q2⟩
  · rw [q2, Xww q1]
  · rw [q2, Xy2 q1]
  · exact absurd q2 h
theorem Xt4 {a : Int} (h : Xji a = none) : 0 ≤ a → Y1 a * Y1 a ≠ a := by
  intro h0 h1
  have := (Xgr (a := a) (r := Y1 a)).2 ⟨h0, h1, (Xiq h0).1⟩
  rw [h] at this; cases this
theorem Xzo {a : Int} (h : 0 ≤ a → Y1 a * Y1 a ≠ a) (h0 : decide ((bif (decide (a < 0)) then (7 : Int) else 0) = 0) = true) (h1 : Y1 a * Y1 a - a = 0) : False := by
  by_cases ha : a < 0
  · rw [decide_eq_true ha] at h0; simp at h0
  · exact h (by omega) (by omega)
theorem X2y (a : Rat) : (Int.gcd a.num (a.den : Int) : Int) = 1 := by
  have := a.reduced; unfold Int.gcd; simp [this]
theorem Xbh (x : Int) : -1 ≤ Int.sign x ∧ Int.sign x ≤ 1 := by
  rcases Int.lt_trichotomy x 0 with h | h | h
  · rw [Int.sign_eq_neg_one_of_neg h]; decide
  · subst h; decide
  · rw [Int.sign_eq_one_of_pos h]; decide
theorem Xk9 (a b : Rat) : -1 ≤ Xb3 a b ∧ Xb3 a b ≤ 1 := Xbh _
theorem Xo5 {x y : Int} (hx : -1 ≤ x ∧ x ≤ 1) (hy : -1 ≤ y ∧ y ≤ 1) : -1 ≤ x * y ∧ x * y ≤ 1 := by
  rcases (by omega : x = -1 ∨ x = 0 ∨ x = 1) with h | h | h <;> subst h <;> omega
theorem Xb4 {x y : Int} (hx : -1 ≤ x ∧ x ≤ 1) (hy : -1 ≤ y ∧ y ≤ 1) : Jx .mul .i64 x y = some (x * y) ∧ ((BinOp.mul = .quo ∨ BinOp.mul = .rem) → y ≠ 0) := by
  have := Xo5 hx hy; exact Xvh (by omega) (by omega)
theorem Xhm {x : Int} (h0 : -9223372036854775808 < x) (h1 : x < 9223372036854775808) : -x = IntKind.i64.wrap (0 - x) := by rw [Xf0 (by omega) (by omega)]; omega
theorem X2r {q : Rat} : 0 < q.num ↔ 0 < q := by
  have := Rat.lt_iff 0 q
  rw [this]; simp
theorem Xsg {a b : Rat} : Xb3 a b < 0 ↔ a < b := by
  unfold Xb3; rw [Xho]
  rw [Rat.lt_iff]; omega
theorem X3s {a b : Rat} : 0 < Xb3 a b ↔ b < a := by
  unfold Xb3; rw [Xm0]
  rw [Rat.lt_iff]; omega
theorem Xs3 {a b : Rat} : Xb3 a b = 0 ↔ a = b := by
  have h1 := @Xsg a b; have h2 := @X3s a b
  constructor
  · intro h
    have n1 : ¬ a < b := fun k => by have := h1.2 k; omega
    have n2 : ¬ b < a := fun k => by have := h2.2 k; omega
    grind
  · intro h; subst h; unfold Xb3; simp
theorem Xz0 {t n : Rat} (h1 : ¬ Int.sign t.num ≤ 0) (h2 : ¬ 0 ≤ Xb3 t n) : ¬ n = 0 := by
  have k1 : 0 < t := X2r.1 (Xm0.1 (by omega))
  have k2 : t < n := Xsg.1 (by omega)
  intro h; subst h; grind
open Go Go.RowKit
def Xoj (o n : Rat) : Rat := bif decide (Xb3 n o < 0) then n else o
def Xjj (o : Rat) (l : List Rat) : Rat := l.foldl Xoj o
theorem Xkv (o : Rat) (l : List Rat) {i : Nat} (h : i < l.length) : Xjj o (l.drop i) = Xjj (Xoj o (l.getD i 0)) (l.drop (i + 1)) := by
  unfold Xjj
  rw [List.drop_eq_getElem_cons h, List.foldl_cons]
  congr 2
  simp [List.getD, h]
theorem X2f {p : Rat → Prop} {x y z : Rat} (hx : p x) (hy : p y) (hz : p z) {i : Nat} (h : i < 3) : p ([x, y, z].getD i 0) := by
  rcases (by omega : i = 0 ∨ i = 1 ∨ i = 2) with h | h | h <;> subst h <;> assumption
theorem X43 : (2 : Int) ^ 16 = 65536 := by decide
theorem X4i : (2 : Int) ^ 32 = 4294967296 := by decide
theorem X2v : (2 : Int) ^ 48 = 281474976710656 := by decide
theorem Xtp {x : Int} (h0 : 0 ≤ x) : Jx .shr .u64 x 16 = some (x / 65536) ∧ ((BinOp.shr = .quo ∨ BinOp.shr = .rem) → (16 : Int) ≠ 0) := by
  have := Xps 16 (y := 16) h0 rfl (by decide); rwa [X43] at this
theorem Xj7 {x : Int} (h0 : 0 ≤ x) : Jx .shr .u64 x 32 = some (x / 4294967296) ∧ ((BinOp.shr = .quo ∨ BinOp.shr = .rem) → (32 : Int) ≠ 0) := by
  have := Xps 32 (y := 32) h0 rfl (by decide); rwa [X4i] at this
theorem Xo1 {x : Int} (h0 : 0 ≤ x) (h1 : x < 18446744073709551616) : Jx .and .u64 x 4294967295 = some (x % 4294967296) ∧ ((BinOp.and = .quo ∨ BinOp.and = .rem) → (4294967295 : Int) ≠ 0) := by
  have := Xpk 32 (m := 4294967295) h0 h1 (by decide) (by decide); rwa [X4i] at this
theorem Xyz {x : Int} (h0 : 0 ≤ x) (h1 : x < 18446744073709551616) : Jx .and .u64 x 65535 = some (x % 65536) ∧ ((BinOp.and = .quo ∨ BinOp.and = .rem) → (65535 : Int) ≠ 0) := by
  have := Xpk 16 (m := 65535) h0 h1 (by decide) (by decide); rwa [X43] at this
theorem Xyc {x : Int} (h0 : 0 ≤ x) (h1 : x < 65536) : Jx .shl .u64 x 48 = some (x * 281474976710656) ∧ ((BinOp.shl = .quo ∨ BinOp.shl = .rem) → (48 : Int) ≠ 0) := by
  have := Xuz 48 (y := 48) (r := x * 281474976710656) rfl (by decide) (by rw [X2v]) (by omega) (by omega); exact this
theorem X0r {a y : Int} (ha0 : 0 ≤ a) (ha1 : a < 65536) (h0 : 0 ≤ y) (h1 : y < 281474976710656) : Jx .or .u64 (a * 281474976710656) y = some (a * 281474976710656 + y) ∧ ((BinOp.or = .quo ∨ BinOp.or = .rem) → y ≠ 0) :=
  Xx6 48 (a := a) (by rw [X2v]) ha0 (by omega) h0 (by rw [X2v]; exact h1) (by decide)
theorem X5k {x y x0 x1 y0 y1 w0 t w1 : Int} (hx : x = x0 + 4294967296 * x1) (hy : y = y0 + 4294967296 * y1) (hw : w0 = x0 * y0) (ht : t = x1 * y0 + w0 / 4294967296) (h1 : w1 = t % 4294967296 + x0 * y1) :
    x1 * y1 + t / 4294967296 + w1 / 4294967296 = x * y / 18446744073709551616 := by
  have e1 := Int.emod_add_mul_ediv w0 4294967296
  have e2 := Int.emod_add_mul_ediv t 4294967296
  have e3 := Int.emod_add_mul_ediv w1 4294967296
  have b1 := Int.emod_nonneg w0 (show (4294967296 : Int) ≠ 0 by decide); have b2 := Int.emod_lt_of_pos w0 (show (0 : Int) < 4294967296 by decide)
  have b3 := Int.emod_nonneg w1 (show (4294967296 : Int) ≠ 0 by decide); have b4 := Int.emod_lt_of_pos w1 (show (0 : Int) < 4294967296 by decide)
  refine (Lm.divmod_uniq (a := x * y) (b := 18446744073709551616) (r := w0 % 4294967296 + 4294967296 * (w1 % 4294967296)) ?_ (by omega) (by omega)).1
  generalize w0 / 4294967296 = p0 at *; generalize w0 % 4294967296 = q0 at *; generalize t / 4294967296 = p1 at *; generalize t % 4294967296 = q1 at *; generalize w1 / 4294967296 = p2 at *; generalize w1 % 4294967296 = q2 at *
  subst hx hy
  grind
theorem Xoq {a b : Int} (ha : 0 ≤ a ∧ a < 4294967296) (hb : 0 ≤ b ∧ b < 4294967296) : 0 ≤ a * b ∧ a * b ≤ 18446744065119617025 :=
  ⟨Int.mul_nonneg ha.1 hb.1, Int.mul_le_mul (show a ≤ 4294967295 by omega) (show b ≤ 4294967295 by omega) hb.1 (by omega)⟩
def Z8 (x y : Int) : Int × Int × Bool :=
  bif decide (2305843009213693952 < ((x * y).natAbs : Int) / 65536) then (0, 0, false)
  else ((x * y) / 65536, -(-(x * y) / 65536), decide (-2305843009213693952 ≤ (x * y) / 65536) && decide (-(-(x * y) / 65536) ≤ 2305843009213693952))
def Xbp (n : Int) : Int × Bool := (Y1 (n * 65536), decide (Y1 (n * 65536) * Y1 (n * 65536) - n * 65536 = 0))
theorem Xzz {n : Int} (h0 : 0 ≤ n) (h1 : n ≤ 2305843009213693952) : 0 ≤ (Xbp n).1 ∧ (Xbp n).1 ≤ 549755813888 := by
  obtain ⟨k1, k2, k3⟩ := Xiq (show 0 ≤ n * 65536 by omega)
  refine ⟨k1, ?_⟩
  show Y1 (n * 65536) ≤ _
  by_cases h : Y1 (n * 65536) ≤ 549755813888
  · exact h
  · exfalso
    have := Int.mul_le_mul (show (549755813889 : Int) ≤ Y1 (n * 65536) by omega) (show (549755813889 : Int) ≤ Y1 (n * 65536) by omega) (by decide) k1
    omega
theorem Xs9 {x y : Int} (h : x < 0 ↔ y < 0) : x * y = (x.natAbs : Int) * y.natAbs := by
  by_cases hx : x < 0
  · have hy := h.1 hx
    rw [show (x.natAbs : Int) = -x by omega, show (y.natAbs : Int) = -y by omega, Int.neg_mul_neg]
  · have hy : ¬ y < 0 := fun k => hx (h.2 k)
    rw [show (x.natAbs : Int) = x by omega, show (y.natAbs : Int) = y by omega]
theorem Xt0 {x y : Int} (h : x < 0 ↔ ¬ y < 0) : x * y = -((x.natAbs : Int) * y.natAbs) := by
  by_cases hx : x < 0
  · have hy := h.1 hx
    rw [show (x.natAbs : Int) = -x by omega, show (y.natAbs : Int) = y by omega, Int.neg_mul, Int.neg_neg]
  · have hy : y < 0 := Classical.byContradiction fun k => hx (h.2 k)
    rw [show (x.natAbs : Int) = x by omega, show (y.natAbs : Int) = -y by omega, Int.mul_neg, Int.neg_neg]
theorem Xwz {x y p : Int} (hp : p = (x.natAbs : Int) * y.natAbs) : ((x * y).natAbs : Int) = p := by rw [hp, Int.natAbs_mul, Int.natCast_mul]
theorem Xqg {x y p : Int} (hp : p = (x.natAbs : Int) * y.natAbs) (h : 2305843009213693952 < p / 65536) : Z8 x y = (0, 0, false) := by
  unfold Z8; rw [Xwz hp, decide_eq_true h]; rfl
theorem Xkq {x y p lo hi : Int} {b : Bool} (hp : p = (x.natAbs : Int) * y.natAbs) (h : ¬ 2305843009213693952 < p / 65536) (hlo : lo = (x * y) / 65536) (hhi : hi = -(-(x * y) / 65536)) (hb : b = (decide (-2305843009213693952 ≤ lo) && decide (hi ≤ 2305843009213693952))) : Z8 x y = (lo, hi, b) := by
  unfold Z8; rw [Xwz hp, decide_eq_false h, cond_false, ← hlo, ← hhi, ← hb]
def Xim (x : Int) : List Int → Int × Int → Option (Int × Int)
  | [], s => some s
  | y :: ys, s => bif (Z8 x y).2.2 then Xim x ys (X6v s.1 (Z8 x y).1, X71 s.2 (Z8 x y).2.1) else none
def Xn6 (ys : List Int) : List Int → Int × Int → Option (Int × Int)
  | [], s => some s
  | x :: xs, s => Xfb (Xim x ys s) (fun s' => Xn6 ys xs s') none
theorem Xw6 {x : Int} {l : List Int} {k : Nat} (s : Int × Int) (h : k < l.length) : Xim x (l.drop k) s = bif (Z8 x (l.getD k 0)).2.2 then Xim x (l.drop (k + 1)) (X6v s.1 (Z8 x (l.getD k 0)).1, X71 s.2 (Z8 x (l.getD k 0)).2.1) else none := by
  have e : l.getD k 0 = l[k] := by simp [List.getD, h]
  rw [List.drop_eq_getElem_cons h, Xim, e]
theorem Xuh {ys l : List Int} {k : Nat} (s : Int × Int) (h : k < l.length) : Xn6 ys (l.drop k) s = Xfb (Xim (l.getD k 0) ys s) (fun s' => Xn6 ys (l.drop (k + 1)) s') none := by
  have e : l.getD k 0 = l[k] := by simp [List.getD, h]
  rw [List.drop_eq_getElem_cons h, Xn6, e]
theorem X4z {p : Int → Prop} {x y : Int} (hx : p x) (hy : p y) {i : Nat} (h : i < 2) : p ([x, y].getD i 0) := by
  rcases (by omega : i = 0 ∨ i = 1) with h | h <;> subst h <;> assumption
open Go Go.RowKit
theorem Xar (a : List Int) (hs : a.length ≤ 1152921504606846976 := by omega) : CS Tryz.prog 278 [Xj a] (Xj (Lm.trim a)) := by
 refine cO 21 Tryz.func278 ?_
 refine rt [tv 0 (Xj a), tv 2 .nil] (oT 1 oN) ?_
 refine Xe ?_
 refine X6 ?_
 refine Z0 (fun n0 l0 => ∃ (l : List Int), (Lm.trim l = Lm.trim a ∧ l.length ≤ a.length) ∧ l.length = n0 ∧ l0 = [tv 0 (Xj l), tv 2 .nil]) (n := a.length) (by kernel_rfl) ⟨a, ⟨rfl, Nat.le_refl _⟩, rfl, (by kernel_rfl)⟩ ?_
 rintro n0 l0 ⟨l, ⟨hi1, hi2⟩, rfl, rfl⟩
 refine Xe ?_
 refine Xe ?_
 rcases X7 (decide (0 < ((l.length : Nat) : Int))) with h1 | h1
 ·
  have h1' := of_decide_eq_true h1
  refine rh [tv 0 (Xj l), tv 2 .nil, tv 14 (.bool (decide (l.getD (l.length - 1) 0 = 0)))] (oT 1 (oO (aI trivial (Yx _ : ((l.length : Nat) : Int) = (((uw l).length : Nat) : Int))) (oO (aI trivial (h1 : (decide (0 < ((l.length : Nat) : Int))) = true)) (oT 1 (oO (Xh 1 trivial) (oO (Xh 1 trivial) (oO (Xh 1 (aI trivial (Yx _ : ((l.length : Nat) : Int) = (((uw l).length : Nat) : Int)))) (oO (Xh 1 (Yw (x := ((l.length : Nat) : Int)) (y := 1) (by omega) (by omega))) (oO (Xh 2 (J0 (l.length - 1) (by omega) (Zj (by (try simp only [List.length_set, List.length_append, List.length_cons, List.length_nil, List.length_replicate]); omega)) : (0 : Int) ≤ (((l.length : Nat) : Int) - 1) ∧ (uw l)[Int.toNat (((l.length : Nat) : Int) - 1)]? = some (kw (l.getD (l.length - 1) 0)))) (oO (Xh 1 trivial) (oO (Xh 1 (oB (decide (l.getD (l.length - 1) 0 = 0)))) (oT 1 (oA [.tup [ki ((l.length : Nat) : Int)], cT true, .tup [ki ((l.length : Nat) : Int)], ki (((l.length : Nat) : Int) - 1), kw (l.getD (l.length - 1) 0), cT (decide (l.getD (l.length - 1) 0 = 0))] oN))))))))))))) ?_
  refine cB (decide (l.getD (l.length - 1) 0 = 0)) (fun h2 => ?_) (fun h2 => ?_)
  ·
   have h2' := of_decide_eq_true h2
   refine Xn ?_
   refine X6 ?_
   refine rh [tv 0 (Xj (l.take (l.length - 1))), tv 2 .nil] (oT 2 (oO (aI trivial (Yx _ : ((l.length : Nat) : Int) = (((uw l).length : Nat) : Int))) (oO (Yw (x := ((l.length : Nat) : Int)) (y := 1) (by omega) (by omega)) (oO (aI (aI (rfl : 0 = 0) (aI (show (((l.length : Nat) : Int) - 1) = (((l.length - 1) : Nat) : Int) by omega) (aI (rfl : (l.length - 1) = (l.length - 1)) (aI (show 0 ≤ (l.length - 1) by omega) (show (l.length - 1) ≤ (uw l).length by simp only [J1]; omega))))) (Xii _ _ : (uw (l.take (l.length - 1))) = ((uw l).take (l.length - 1)).drop 0)) (oT 1 (oA [.tup [ki ((l.length : Nat) : Int)], ki (((l.length : Nat) : Int) - 1), .tup [.sl 1 (uw (l.take (l.length - 1)))], ki ((0 : Nat) : Int), ki (((l.length - 1) : Nat) : Int)] oN)))))) ?_
   have hq := Lm.trim_cut (l := l) (by omega) (by assumption)
   exact ⟨(l.take (l.length - 1)).length, [tv 0 (Xj (l.take (l.length - 1))), tv 2 .nil], (by simp only [List.length_take]; omega), rfl, (by kernel_rfl), l.take (l.length - 1), ⟨hq.trans hi1, (by simp only [List.length_take]; omega)⟩, rfl, (by kernel_rfl)⟩
  ·
   have h2' := of_decide_eq_false h2
   refine Z3 ?_
   refine rt [tv 2 (Xj l)] (oT 2 oN) ?_
   refine Xg ?_
   exact X7i ((Xj l)) (congrArg Xj ((Lm.trim_stop (by right; assumption)).symm.trans hi1))
 ·
  have h1' := of_decide_eq_false h1
  refine rh [tv 0 (Xj l), tv 2 .nil, tv 14 (.bool false)] (oT 1 (oO (aI trivial (Yx _ : ((l.length : Nat) : Int) = (((uw l).length : Nat) : Int))) (oO (aI trivial (h1 : (decide (0 < ((l.length : Nat) : Int))) = false)) (oT 1 (oO (gn [false]) (oO (gn [false]) (oO (gn [true]) (oO (gn [true]) (oO (gn [true, true]) (oO (gn [true]) (oO (gn [true]) (oT 1 (oA [.tup [ki ((l.length : Nat) : Int)], cT false, .tup [ki ((l.length : Nat) : Int)], ki (((l.length : Nat) : Int) - 1), kw (l.getD (l.length - 1) 0), cT (decide (l.getD (l.length - 1) 0 = 0))] oN))))))))))))) ?_
  refine cB (false) (fun h => Bool.noConfusion h) (fun _ => ?_)
  refine Z3 ?_
  refine rt [tv 2 (Xj l)] (oT 2 oN) ?_
  refine Xg ?_
  exact X7i ((Xj l)) (congrArg Xj ((Lm.trim_stop (by left; omega)).symm.trans hi1))
theorem Xbn (a : List Int) (hs : a.length ≤ 1152921504606846976 := by omega) : CS Tryz.prog 185 [Xj a] (Xj (Lm.trim a)) := by
 refine cO 21 Tryz.func185 ?_
 refine rt [tv 0 (Xj a), tv 2 .nil] (oT 1 oN) ?_
 refine Xe ?_
 refine X6 ?_
 refine Z0 (fun n0 l0 => ∃ (l : List Int), (Lm.trim l = Lm.trim a ∧ l.length ≤ a.length) ∧ l.length = n0 ∧ l0 = [tv 0 (Xj l), tv 2 .nil]) (n := a.length) (by kernel_rfl) ⟨a, ⟨rfl, Nat.le_refl _⟩, rfl, (by kernel_rfl)⟩ ?_
 rintro n0 l0 ⟨l, ⟨hi1, hi2⟩, rfl, rfl⟩
 refine Xe ?_
 refine Xe ?_
 rcases X7 (decide (0 < ((l.length : Nat) : Int))) with h1 | h1
 ·
  have h1' := of_decide_eq_true h1
  refine rh [tv 0 (Xj l), tv 2 .nil, tv 14 (.bool (decide (l.getD (l.length - 1) 0 = 0)))] (oT 1 (oO (aI trivial (Yx _ : ((l.length : Nat) : Int) = (((uw l).length : Nat) : Int))) (oO (aI trivial (h1 : (decide (0 < ((l.length : Nat) : Int))) = true)) (oT 1 (oO (Xh 1 trivial) (oO (Xh 1 trivial) (oO (Xh 1 (aI trivial (Yx _ : ((l.length : Nat) : Int) = (((uw l).length : Nat) : Int)))) (oO (Xh 1 (Yw (x := ((l.length : Nat) : Int)) (y := 1) (by omega) (by omega))) (oO (Xh 2 (J0 (l.length - 1) (by omega) (Zj (by (try simp only [List.length_set, List.length_append, List.length_cons, List.length_nil, List.length_replicate]); omega)) : (0 : Int) ≤ (((l.length : Nat) : Int) - 1) ∧ (uw l)[Int.toNat (((l.length : Nat) : Int) - 1)]? = some (kw (l.getD (l.length - 1) 0)))) (oO (Xh 1 trivial) (oO (Xh 1 (oB (decide (l.getD (l.length - 1) 0 = 0)))) (oT 1 (oA [.tup [ki ((l.length : Nat) : Int)], cT true, .tup [ki ((l.length : Nat) : Int)], ki (((l.length : Nat) : Int) - 1), kw (l.getD (l.length - 1) 0), cT (decide (l.getD (l.length - 1) 0 = 0))] oN))))))))))))) ?_
  refine cB (decide (l.getD (l.length - 1) 0 = 0)) (fun h2 => ?_) (fun h2 => ?_)
  ·
   have h2' := of_decide_eq_true h2
   refine Xn ?_
   refine X6 ?_
   refine rh [tv 0 (Xj (l.take (l.length - 1))), tv 2 .nil] (oT 2 (oO (aI trivial (Yx _ : ((l.length : Nat) : Int) = (((uw l).length : Nat) : Int))) (oO (Yw (x := ((l.length : Nat) : Int)) (y := 1) (by omega) (by omega)) (oO (aI (aI (rfl : 0 = 0) (aI (show (((l.length : Nat) : Int) - 1) = (((l.length - 1) : Nat) : Int) by omega) (aI (rfl : (l.length - 1) = (l.length - 1)) (aI (show 0 ≤ (l.length - 1) by omega) (show (l.length - 1) ≤ (uw l).length by simp only [J1]; omega))))) (Xii _ _ : (uw (l.take (l.length - 1))) = ((uw l).take (l.length - 1)).drop 0)) (oT 1 (oA [.tup [ki ((l.length : Nat) : Int)], ki (((l.length : Nat) : Int) - 1), .tup [.sl 1 (uw (l.take (l.length - 1)))], ki ((0 : Nat) : Int), ki (((l.length - 1) : Nat) : Int)] oN)))))) ?_
   have hq := Lm.trim_cut (l := l) (by omega) (by assumption)
   exact ⟨(l.take (l.length - 1)).length, [tv 0 (Xj (l.take (l.length - 1))), tv 2 .nil], (by simp only [List.length_take]; omega), rfl, (by kernel_rfl), l.take (l.length - 1), ⟨hq.trans hi1, (by simp only [List.length_take]; omega)⟩, rfl, (by kernel_rfl)⟩
  ·
   have h2' := of_decide_eq_false h2
   refine Z3 ?_
   refine rt [tv 2 (Xj l)] (oT 2 oN) ?_
   refine Xg ?_
   exact X7i ((Xj l)) (congrArg Xj ((Lm.trim_stop (by right; assumption)).symm.trans hi1))
 ·
  have h1' := of_decide_eq_false h1
  refine rh [tv 0 (Xj l), tv 2 .nil, tv 14 (.bool false)] (oT 1 (oO (aI trivial (Yx _ : ((l.length : Nat) : Int) = (((uw l).length : Nat) : Int))) (oO (aI trivial (h1 : (decide (0 < ((l.length : Nat) : Int))) = false)) (oT 1 (oO (gn [false]) (oO (gn [false]) (oO (gn [true]) (oO (gn [true]) (oO (gn [true, true]) (oO (gn [true]) (oO (gn [true]) (oT 1 (oA [.tup [ki ((l.length : Nat) : Int)], cT false, .tup [ki ((l.length : Nat) : Int)], ki (((l.length : Nat) : Int) - 1), kw (l.getD (l.length - 1) 0), cT (decide (l.getD (l.length - 1) 0 = 0))] oN))))))))))))) ?_
  refine cB (false) (fun h => Bool.noConfusion h) (fun _ => ?_)
  refine Z3 ?_
  refine rt [tv 2 (Xj l)] (oT 2 oN) ?_
  refine Xg ?_
  exact X7i ((Xj l)) (congrArg Xj ((Lm.trim_stop (by left; omega)).symm.trans hi1))
theorem Xct (a b : List Int) (ga : Lm.G a) (gb : Lm.G b) (hs : a.length + b.length ≤ 4398046511104 := by omega) : CS Tryz.prog 247 [Xj a, Xj b] (.int .i64 (Int.sign (Lm.V a - Lm.V b))) := by
 have ha := Lm.G_trim ga
 have hb := Lm.G_trim gb
 have na := Lm.trim_Nz a
 have nb := Lm.trim_Nz b
 have la := Lm.trim_len a
 have lb := Lm.trim_len b
 have va := Lm.V_trim a
 have vb := Lm.V_trim b
 rw [← va, ← vb]
 refine cO 45 Tryz.func247 ?_
 refine sh 2 [tv 0 (Xj (Lm.trim a)), tv 1 (Xj (Lm.trim b)), tv 4 (ki 0)] (oS (oT 1 oN) (oS (oT 1 (oC (Xar a) (oT 1 (oC (Xar b) (oT 2 oN))))) oN)) ?_
 refine Xe ?_
 refine rt [tv 0 (Xj (Lm.trim a)), tv 1 (Xj (Lm.trim b)), tv 4 (ki 0), tv 14 (.bool (!(decide ((((Lm.trim a).length : Nat) : Int) = (((Lm.trim b).length : Nat) : Int)))))] (oT 1 (oO (aI trivial (Yx _ : (((Lm.trim a).length : Nat) : Int) = (((uw (Lm.trim a)).length : Nat) : Int))) (oT 1 (oO (aI trivial (Yx _ : (((Lm.trim b).length : Nat) : Int) = (((uw (Lm.trim b)).length : Nat) : Int))) (oO (oB (!(decide ((((Lm.trim a).length : Nat) : Int) = (((Lm.trim b).length : Nat) : Int))))) (oA [.tup [ki (((Lm.trim a).length : Nat) : Int)], .tup [ki (((Lm.trim b).length : Nat) : Int)], cT (!(decide ((((Lm.trim a).length : Nat) : Int) = (((Lm.trim b).length : Nat) : Int))))] oN)))))) ?_
 refine cB ((!(decide ((((Lm.trim a).length : Nat) : Int) = (((Lm.trim b).length : Nat) : Int))))) (fun h1 => ?_) (fun h1 => ?_)
 ·
  have h1' := of_decide_eq_false (Xdt h1)
  refine Xe ?_
  refine rt [tv 0 (Xj (Lm.trim a)), tv 1 (Xj (Lm.trim b)), tv 4 (ki 0), tv 19 (.bool (decide ((((Lm.trim a).length : Nat) : Int) < (((Lm.trim b).length : Nat) : Int))))] (oT 1 (oO (aI trivial (Yx _ : (((Lm.trim a).length : Nat) : Int) = (((uw (Lm.trim a)).length : Nat) : Int))) (oT 1 (oO (aI trivial (Yx _ : (((Lm.trim b).length : Nat) : Int) = (((uw (Lm.trim b)).length : Nat) : Int))) (oO (oB (decide ((((Lm.trim a).length : Nat) : Int) < (((Lm.trim b).length : Nat) : Int)))) (oA [.tup [ki (((Lm.trim a).length : Nat) : Int)], .tup [ki (((Lm.trim b).length : Nat) : Int)], cT (decide ((((Lm.trim a).length : Nat) : Int) < (((Lm.trim b).length : Nat) : Int)))] oN)))))) ?_
  refine cB (decide ((((Lm.trim a).length : Nat) : Int) < (((Lm.trim b).length : Nat) : Int))) (fun h2 => ?_) (fun h2 => ?_)
  ·
   have h2' := of_decide_eq_true h2
   refine rt [tv 0 (Xj (Lm.trim a)), tv 1 (Xj (Lm.trim b)), tv 4 (ki (-1))] (oT 1 oN) ?_
   refine Xg ?_
   exact X7i ((ki (-1))) (congrArg (AV.int .i64) (Lm.sign_neg (by have := Lm.V_lt_len ha hb nb (by omega); omega)))
  ·
   have h2' := of_decide_eq_false h2
   refine Xn ?_
   refine rt [tv 0 (Xj (Lm.trim a)), tv 1 (Xj (Lm.trim b)), tv 4 (ki 1)] (oT 1 oN) ?_
   refine Xg ?_
   exact X7i ((ki 1)) (congrArg (AV.int .i64) (Lm.sign_pos (by have := Lm.V_lt_len hb ha na (by omega); omega)))
 ·
  have h1' := of_decide_eq_true (Xas h1)
  refine Xn ?_
  refine Xe ?_
  refine rt [tv 0 (Xj (Lm.trim a)), tv 1 (Xj (Lm.trim b)), tv 4 (ki 0), tv 5 (ki ((((Lm.trim a).length : Nat) : Int) - 1))] (oT 1 (oO (aI trivial (Yx _ : (((Lm.trim a).length : Nat) : Int) = (((uw (Lm.trim a)).length : Nat) : Int))) (oO (Yw (x := (((Lm.trim a).length : Nat) : Int)) (y := 1) (by omega) (by omega)) (oT 1 (oA [.tup [ki (((Lm.trim a).length : Nat) : Int)], ki ((((Lm.trim a).length : Nat) : Int) - 1)] oN))))) ?_
  refine X6 ?_
  have hlen : (Lm.trim a).length = (Lm.trim b).length := by omega
  refine Z0 (fun n0 l0 => ∃ (i : Nat), (i ≤ (Lm.trim a).length ∧ (Lm.trim a).drop i = (Lm.trim b).drop i) ∧ i = n0 ∧ l0 = [tv 0 (Xj (Lm.trim a)), tv 1 (Xj (Lm.trim b)), tv 4 (ki 0), tv 5 (ki (((i : Nat) : Int) - 1))]) (n := ((Lm.trim a).length)) (by kernel_rfl) ⟨(Lm.trim a).length, ⟨Nat.le_refl _, by rw [List.drop_length, show (Lm.trim a).length = (Lm.trim b).length by omega, List.drop_length]⟩, rfl, (by kernel_rfl)⟩ ?_
  rintro n0 l0 ⟨i, ⟨hi1, hi2⟩, rfl, rfl⟩
  refine Xe ?_
  refine rt [tv 0 (Xj (Lm.trim a)), tv 1 (Xj (Lm.trim b)), tv 4 (ki 0), tv 5 (ki (((i : Nat) : Int) - 1)), tv 24 (.bool (decide (0 ≤ (((i : Nat) : Int) - 1))))] (oT 1 (oO (oB (decide (0 ≤ (((i : Nat) : Int) - 1)))) (oA [cT (decide (0 ≤ (((i : Nat) : Int) - 1)))] oN))) ?_
  refine cB (decide (0 ≤ (((i : Nat) : Int) - 1))) (fun h3 => ?_) (fun h3 => ?_)
  ·
   have h3' := of_decide_eq_true h3
   refine Xn ?_
   refine Xe ?_
   refine X6 ?_
   refine Xe ?_
   refine rt [tv 0 (Xj (Lm.trim a)), tv 1 (Xj (Lm.trim b)), tv 4 (ki 0), tv 5 (ki (((i : Nat) : Int) - 1)), tv 35 (.bool (decide (((Lm.trim a).getD (i - 1) 0) < ((Lm.trim b).getD (i - 1) 0))))] (oT 2 (oO (J0 (i - 1) (by omega) (Zj (by (try simp only [List.length_set, List.length_append, List.length_cons, List.length_nil, List.length_replicate]); omega)) : (0 : Int) ≤ (((i : Nat) : Int) - 1) ∧ (uw (Lm.trim a))[Int.toNat (((i : Nat) : Int) - 1)]? = some (kw ((Lm.trim a).getD (i - 1) 0))) (oT 3 (oO (J0 (i - 1) (by omega) (Zj (by (try simp only [List.length_set, List.length_append, List.length_cons, List.length_nil, List.length_replicate]); omega)) : (0 : Int) ≤ (((i : Nat) : Int) - 1) ∧ (uw (Lm.trim b))[Int.toNat (((i : Nat) : Int) - 1)]? = some (kw ((Lm.trim b).getD (i - 1) 0))) (oT 1 (oO (oB (decide (((Lm.trim a).getD (i - 1) 0) < ((Lm.trim b).getD (i - 1) 0)))) (oA [kw ((Lm.trim a).getD (i - 1) 0), kw ((Lm.trim b).getD (i - 1) 0), cT (decide (((Lm.trim a).getD (i - 1) 0) < ((Lm.trim b).getD (i - 1) 0)))] oN))))))) ?_
   refine cB (decide (((Lm.trim a).getD (i - 1) 0) < ((Lm.trim b).getD (i - 1) 0))) (fun h4 => ?_) (fun h4 => ?_)
   ·
    have h4' := of_decide_eq_true h4
    refine rt [tv 0 (Xj (Lm.trim a)), tv 1 (Xj (Lm.trim b)), tv 4 (ki (-1)), tv 5 (ki (((i : Nat) : Int) - 1))] (oT 1 oN) ?_
    refine Xg ?_
    exact X7i ((ki (-1))) (congrArg (AV.int .i64) (Lm.sign_neg (by have := Lm.V_lt_at ha hb (i := i - 1) (by omega) (by omega) (by rw [show i - 1 + 1 = i by omega]; exact hi2) (by assumption); omega)))
   ·
    have h4' := of_decide_eq_false h4
    refine Xn ?_
    refine rt [tv 0 (Xj (Lm.trim a)), tv 1 (Xj (Lm.trim b)), tv 4 (ki 0), tv 5 (ki (((i : Nat) : Int) - 1)), tv 44 (.bool (decide (((Lm.trim b).getD (i - 1) 0) < ((Lm.trim a).getD (i - 1) 0))))] (oT 2 (oO (J0 (i - 1) (by omega) (Zj (by (try simp only [List.length_set, List.length_append, List.length_cons, List.length_nil, List.length_replicate]); omega)) : (0 : Int) ≤ (((i : Nat) : Int) - 1) ∧ (uw (Lm.trim a))[Int.toNat (((i : Nat) : Int) - 1)]? = some (kw ((Lm.trim a).getD (i - 1) 0))) (oT 3 (oO (J0 (i - 1) (by omega) (Zj (by (try simp only [List.length_set, List.length_append, List.length_cons, List.length_nil, List.length_replicate]); omega)) : (0 : Int) ≤ (((i : Nat) : Int) - 1) ∧ (uw (Lm.trim b))[Int.toNat (((i : Nat) : Int) - 1)]? = some (kw ((Lm.trim b).getD (i - 1) 0))) (oT 1 (oO (oB (decide (((Lm.trim b).getD (i - 1) 0) < ((Lm.trim a).getD (i - 1) 0)))) (oA [kw ((Lm.trim a).getD (i - 1) 0), kw ((Lm.trim b).getD (i - 1) 0), cT (decide (((Lm.trim b).getD (i - 1) 0) < ((Lm.trim a).getD (i - 1) 0)))] oN))))))) ?_
    refine cB (decide (((Lm.trim b).getD (i - 1) 0) < ((Lm.trim a).getD (i - 1) 0))) (fun h5 => ?_) (fun h5 => ?_)
    ·
     have h5' := of_decide_eq_true h5
     refine rt [tv 0 (Xj (Lm.trim a)), tv 1 (Xj (Lm.trim b)), tv 4 (ki 1), tv 5 (ki (((i : Nat) : Int) - 1))] (oT 1 oN) ?_
     refine Xg ?_
     exact X7i ((ki 1)) (congrArg (AV.int .i64) (Lm.sign_pos (by have := Lm.V_lt_at hb ha (i := i - 1) (by omega) (by omega) (by rw [show i - 1 + 1 = i by omega]; exact hi2.symm) (by assumption); omega)))
    ·
     have h5' := of_decide_eq_false h5
     refine Xn ?_
     refine rh [tv 0 (Xj (Lm.trim a)), tv 1 (Xj (Lm.trim b)), tv 4 (ki 0), tv 5 (ki ((((i - 1) : Nat) : Int) - 1))] (oT 1 (oO (Xax (Yw (by omega) (by omega)) (by omega) : Jx .sub .i64 (((i : Nat) : Int) - 1) 1 = some ((((i - 1) : Nat) : Int) - 1) ∧ ((BinOp.sub = .quo ∨ BinOp.sub = .rem) → 1 ≠ (0 : Int))) (oT 1 (oA [ki ((((i - 1) : Nat) : Int) - 1)] oN)))) ?_
     have hx : (Lm.trim a).getD (i - 1) 0 = (Lm.trim b).getD (i - 1) 0 := by omega
     have hdr : (Lm.trim a).drop (i - 1) = (Lm.trim b).drop (i - 1) := by
      rw [Lm.getD_drop (Lm.trim a) (i - 1) (by omega), Lm.getD_drop (Lm.trim b) (i - 1) (by omega), hx, show i - 1 + 1 = i by omega, hi2]
     exact ⟨i - 1, [tv 0 (Xj (Lm.trim a)), tv 1 (Xj (Lm.trim b)), tv 4 (ki 0), tv 5 (ki ((((i - 1) : Nat) : Int) - 1))], (by omega), rfl, (by kernel_rfl), i - 1, ⟨by omega, hdr⟩, rfl, (by kernel_rfl)⟩
  ·
   have h3' := of_decide_eq_false h3
   refine Z3 ?_
   refine rt [tv 4 (ki 0)] (oT 1 oN) ?_
   refine Xg ?_
   have hz : i = 0 := by omega
   subst hz
   simp only [List.drop_zero] at hi2
   exact X7i ((ki 0)) (congrArg (AV.int .i64) (by rw [hi2]; simp))
theorem Xen (a b : List Int) (ga : Lm.G a) (gb : Lm.G b) (na : Lm.Nz a) (nb : Lm.Nz b) (hs : a.length + b.length ≤ 4398046511104 := by omega) : CS Tryz.prog 186 [Xj a, Xj b] (.int .i64 (Int.sign (Lm.V a - Lm.V b))) := by
 have ha := ga
 have hb := gb
 refine cO 41 Tryz.func186 ?_
 refine rt [tv 0 (Xj a), tv 1 (Xj b), tv 4 (ki 0)] (oT 1 oN) ?_
 refine Xe ?_
 refine rt [tv 0 (Xj a), tv 1 (Xj b), tv 4 (ki 0), tv 10 (.bool (!(decide (((a.length : Nat) : Int) = ((b.length : Nat) : Int)))))] (oT 1 (oO (aI trivial (Yx _ : ((a.length : Nat) : Int) = (((uw a).length : Nat) : Int))) (oT 1 (oO (aI trivial (Yx _ : ((b.length : Nat) : Int) = (((uw b).length : Nat) : Int))) (oO (oB (!(decide (((a.length : Nat) : Int) = ((b.length : Nat) : Int))))) (oA [.tup [ki ((a.length : Nat) : Int)], .tup [ki ((b.length : Nat) : Int)], cT (!(decide (((a.length : Nat) : Int) = ((b.length : Nat) : Int))))] oN)))))) ?_
 refine cB ((!(decide (((a.length : Nat) : Int) = ((b.length : Nat) : Int))))) (fun h1 => ?_) (fun h1 => ?_)
 ·
  have h1' := of_decide_eq_false (Xdt h1)
  refine Xe ?_
  refine rt [tv 0 (Xj a), tv 1 (Xj b), tv 4 (ki 0), tv 15 (.bool (decide (((a.length : Nat) : Int) < ((b.length : Nat) : Int))))] (oT 1 (oO (aI trivial (Yx _ : ((a.length : Nat) : Int) = (((uw a).length : Nat) : Int))) (oT 1 (oO (aI trivial (Yx _ : ((b.length : Nat) : Int) = (((uw b).length : Nat) : Int))) (oO (oB (decide (((a.length : Nat) : Int) < ((b.length : Nat) : Int)))) (oA [.tup [ki ((a.length : Nat) : Int)], .tup [ki ((b.length : Nat) : Int)], cT (decide (((a.length : Nat) : Int) < ((b.length : Nat) : Int)))] oN)))))) ?_
  refine cB (decide (((a.length : Nat) : Int) < ((b.length : Nat) : Int))) (fun h2 => ?_) (fun h2 => ?_)
  ·
   have h2' := of_decide_eq_true h2
   refine rt [tv 0 (Xj a), tv 1 (Xj b), tv 4 (ki (-1))] (oT 1 oN) ?_
   refine Xg ?_
   exact X7i ((ki (-1))) (congrArg (AV.int .i64) (Lm.sign_neg (by have := Lm.V_lt_len ha hb nb (by omega); omega)))
  ·
   have h2' := of_decide_eq_false h2
   refine Xn ?_
   refine rt [tv 0 (Xj a), tv 1 (Xj b), tv 4 (ki 1)] (oT 1 oN) ?_
   refine Xg ?_
   exact X7i ((ki 1)) (congrArg (AV.int .i64) (Lm.sign_pos (by have := Lm.V_lt_len hb ha na (by omega); omega)))
 ·
  have h1' := of_decide_eq_true (Xas h1)
  refine Xn ?_
  refine Xe ?_
  refine rt [tv 0 (Xj a), tv 1 (Xj b), tv 4 (ki 0), tv 5 (ki (((a.length : Nat) : Int) - 1))] (oT 1 (oO (aI trivial (Yx _ : ((a.length : Nat) : Int) = (((uw a).length : Nat) : Int))) (oO (Yw (x := ((a.length : Nat) : Int)) (y := 1) (by omega) (by omega)) (oT 1 (oA [.tup [ki ((a.length : Nat) : Int)], ki (((a.length : Nat) : Int) - 1)] oN))))) ?_
  refine X6 ?_
  have hlen : a.length = b.length := by omega
  refine Z0 (fun n0 l0 => ∃ (i : Nat), (i ≤ a.length ∧ a.drop i = b.drop i) ∧ i = n0 ∧ l0 = [tv 0 (Xj a), tv 1 (Xj b), tv 4 (ki 0), tv 5 (ki (((i : Nat) : Int) - 1))]) (n := a.length) (by kernel_rfl) ⟨a.length, ⟨Nat.le_refl _, by rw [List.drop_length, show a.length = b.length by omega, List.drop_length]⟩, rfl, (by kernel_rfl)⟩ ?_
  rintro n0 l0 ⟨i, ⟨hi1, hi2⟩, rfl, rfl⟩
  refine Xe ?_
  refine rt [tv 0 (Xj a), tv 1 (Xj b), tv 4 (ki 0), tv 5 (ki (((i : Nat) : Int) - 1)), tv 20 (.bool (decide (0 ≤ (((i : Nat) : Int) - 1))))] (oT 1 (oO (oB (decide (0 ≤ (((i : Nat) : Int) - 1)))) (oA [cT (decide (0 ≤ (((i : Nat) : Int) - 1)))] oN))) ?_
  refine cB (decide (0 ≤ (((i : Nat) : Int) - 1))) (fun h3 => ?_) (fun h3 => ?_)
  ·
   have h3' := of_decide_eq_true h3
   refine Xn ?_
   refine Xe ?_
   refine X6 ?_
   refine Xe ?_
   refine rt [tv 0 (Xj a), tv 1 (Xj b), tv 4 (ki 0), tv 5 (ki (((i : Nat) : Int) - 1)), tv 31 (.bool (decide (a.getD (i - 1) 0 < b.getD (i - 1) 0)))] (oT 2 (oO (J0 (i - 1) (by omega) (Zj (by (try simp only [List.length_set, List.length_append, List.length_cons, List.length_nil, List.length_replicate]); omega)) : (0 : Int) ≤ (((i : Nat) : Int) - 1) ∧ (uw a)[Int.toNat (((i : Nat) : Int) - 1)]? = some (kw (a.getD (i - 1) 0))) (oT 3 (oO (J0 (i - 1) (by omega) (Zj (by (try simp only [List.length_set, List.length_append, List.length_cons, List.length_nil, List.length_replicate]); omega)) : (0 : Int) ≤ (((i : Nat) : Int) - 1) ∧ (uw b)[Int.toNat (((i : Nat) : Int) - 1)]? = some (kw (b.getD (i - 1) 0))) (oT 1 (oO (oB (decide (a.getD (i - 1) 0 < b.getD (i - 1) 0))) (oA [kw (a.getD (i - 1) 0), kw (b.getD (i - 1) 0), cT (decide (a.getD (i - 1) 0 < b.getD (i - 1) 0))] oN))))))) ?_
   refine cB (decide (a.getD (i - 1) 0 < b.getD (i - 1) 0)) (fun h4 => ?_) (fun h4 => ?_)
   ·
    have h4' := of_decide_eq_true h4
    refine rt [tv 0 (Xj a), tv 1 (Xj b), tv 4 (ki (-1)), tv 5 (ki (((i : Nat) : Int) - 1))] (oT 1 oN) ?_
    refine Xg ?_
    exact X7i ((ki (-1))) (congrArg (AV.int .i64) (Lm.sign_neg (by have := Lm.V_lt_at ha hb (i := i - 1) (by omega) (by omega) (by rw [show i - 1 + 1 = i by omega]; exact hi2) (by assumption); omega)))
   ·
    have h4' := of_decide_eq_false h4
    refine Xn ?_
    refine rt [tv 0 (Xj a), tv 1 (Xj b), tv 4 (ki 0), tv 5 (ki (((i : Nat) : Int) - 1)), tv 40 (.bool (decide (b.getD (i - 1) 0 < a.getD (i - 1) 0)))] (oT 2 (oO (J0 (i - 1) (by omega) (Zj (by (try simp only [List.length_set, List.length_append, List.length_cons, List.length_nil, List.length_replicate]); omega)) : (0 : Int) ≤ (((i : Nat) : Int) - 1) ∧ (uw a)[Int.toNat (((i : Nat) : Int) - 1)]? = some (kw (a.getD (i - 1) 0))) (oT 3 (oO (J0 (i - 1) (by omega) (Zj (by (try simp only [List.length_set, List.length_append, List.length_cons, List.length_nil, List.length_replicate]); omega)) : (0 : Int) ≤ (((i : Nat) : Int) - 1) ∧ (uw b)[Int.toNat (((i : Nat) : Int) - 1)]? = some (kw (b.getD (i - 1) 0))) (oT 1 (oO (oB (decide (b.getD (i - 1) 0 < a.getD (i - 1) 0))) (oA [kw (a.getD (i - 1) 0), kw (b.getD (i - 1) 0), cT (decide (b.getD (i - 1) 0 < a.getD (i - 1) 0))] oN))))))) ?_
    refine cB (decide (b.getD (i - 1) 0 < a.getD (i - 1) 0)) (fun h5 => ?_) (fun h5 => ?_)
    ·
     have h5' := of_decide_eq_true h5
     refine rt [tv 0 (Xj a), tv 1 (Xj b), tv 4 (ki 1), tv 5 (ki (((i : Nat) : Int) - 1))] (oT 1 oN) ?_
     refine Xg ?_
     exact X7i ((ki 1)) (congrArg (AV.int .i64) (Lm.sign_pos (by have := Lm.V_lt_at hb ha (i := i - 1) (by omega) (by omega) (by rw [show i - 1 + 1 = i by omega]; exact hi2.symm) (by assumption); omega)))
    ·
     have h5' := of_decide_eq_false h5
     refine Xn ?_
     refine rh [tv 0 (Xj a), tv 1 (Xj b), tv 4 (ki 0), tv 5 (ki ((((i - 1) : Nat) : Int) - 1))] (oT 1 (oO (Xax (Yw (by omega) (by omega)) (by omega) : Jx .sub .i64 (((i : Nat) : Int) - 1) 1 = some ((((i - 1) : Nat) : Int) - 1) ∧ ((BinOp.sub = .quo ∨ BinOp.sub = .rem) → 1 ≠ (0 : Int))) (oT 1 (oA [ki ((((i - 1) : Nat) : Int) - 1)] oN)))) ?_
     have hx : a.getD (i - 1) 0 = b.getD (i - 1) 0 := by omega
     have hdr : a.drop (i - 1) = b.drop (i - 1) := by
      rw [Lm.getD_drop a (i - 1) (by omega), Lm.getD_drop b (i - 1) (by omega), hx, show i - 1 + 1 = i by omega, hi2]
     exact ⟨i - 1, [tv 0 (Xj a), tv 1 (Xj b), tv 4 (ki 0), tv 5 (ki ((((i - 1) : Nat) : Int) - 1))], (by omega), rfl, (by kernel_rfl), i - 1, ⟨by omega, hdr⟩, rfl, (by kernel_rfl)⟩
  ·
   have h3' := of_decide_eq_false h3
   refine Z3 ?_
   refine rt [tv 4 (ki 0)] (oT 1 oN) ?_
   refine Xg ?_
   have hz : i = 0 := by omega
   subst hz
   simp only [List.drop_zero] at hi2
   exact X7i ((ki 0)) (congrArg (AV.int .i64) (by rw [hi2]; simp))
open Go Go.RowKit
theorem Xi8 (a b : List Int) (ga : Lm.G a) (gb : Lm.G b) (hlen : b.length ≤ a.length := by omega) (hv : Lm.V b ≤ Lm.V a := by omega) (hs : a.length + b.length ≤ 4398046511104 := by omega) : CS Tryz.prog 264 [Xj a, Xj b] (Xj (Lm.dg a.length (Lm.V a - Lm.V b))) := by
  refine cO 44 Tryz.func264 ?_
  refine sh 3 [tv 0 (Xj a), tv 1 (Xj b), tv 4 .nil, tv 5 (.own 12 1), tv 6 (kw 0), ov 12 (Xj (List.replicate a.length 0))] (oS (oT 1 oN) (oS (oT 1 (oO (aI trivial (Yx _ : ((a.length : Nat) : Int) = (((uw a).length : Nat) : Int))) (oO (aI (show (0 : Int) ≤ ((a.length : Nat) : Int) ∧ (((a.length : Nat) : Int) : Int) ≤ ((a.length : Nat) : Int) ∧ 4 * Int.toNat ((a.length : Nat) : Int) ≤ 281474976710656 by omega) (Xic a.length (by omega) : (uw (List.replicate a.length 0)) = List.replicate (Int.toNat ((a.length : Nat) : Int)) (kw 0))) (oT 1 oN)))) (oS (oT 1 (oA [.tup [ki ((a.length : Nat) : Int)], .tup [.sl 1 (uw (List.replicate a.length 0))]] oN)) oN))) ?_
  refine Xe ?_
  refine rt [tv 1 (Xj b), tv 4 .nil, tv 5 (.own 12 1), tv 6 (kw 0), tv 13 (Xj a), tv 14 (ki ((a.length : Nat) : Int)), tv 15 (ki 0), ov 12 (Xj (List.replicate a.length 0))] (oT 1 (oO (aI trivial (Yx _ : ((a.length : Nat) : Int) = (((uw a).length : Nat) : Int))) (oT 1 (oA [.tup [ki ((a.length : Nat) : Int)]] oN)))) ?_
  refine X6 ?_
  refine Z0 (fun n0 l0 => ∃ (i : Nat) (c : Int) (out : List Int), (i ≤ a.length ∧ 0 ≤ c ∧ c ≤ 1 ∧ Lm.G out ∧ out.length = a.length ∧ Lm.V (out.take i) - Lm.P i * c = Lm.V (a.take i) - Lm.V (b.take i)) ∧ (a.length - i) = n0 ∧ l0 = [tv 1 (Xj b), tv 4 .nil, tv 5 (.own 12 1), tv 6 (kw c), tv 13 (Xj a), tv 14 (ki ((a.length : Nat) : Int)), tv 15 (ki ((i : Nat) : Int)), ov 12 (Xj out)]) (n := (a.length - 0)) (by kernel_rfl) ⟨0, 0, List.replicate a.length 0, ⟨by omega, by omega, by omega, Lm.G_zeros _, by simp, by simp [Lm.V]⟩, rfl, (by kernel_rfl)⟩ ?_
  rintro n0 l0 ⟨i, c, out, ⟨hi1, hi2, hi3, hi4, hi5, hi6⟩, rfl, rfl⟩
  have hx := Lm.G_get ga i
  have hy := Lm.G_get gb i
  have hy0 := Lm.getD_out b (i := i)
  refine rt [tv 1 (Xj b), tv 4 .nil, tv 5 (.own 12 1), tv 6 (kw c), tv 13 (Xj a), tv 14 (ki ((a.length : Nat) : Int)), tv 15 (ki ((i : Nat) : Int)), tv 16 (.bool (decide (((i : Nat) : Int) < ((a.length : Nat) : Int)))), ov 12 (Xj out)] (oO (oB (decide (((i : Nat) : Int) < ((a.length : Nat) : Int)))) (oA [cT (decide (((i : Nat) : Int) < ((a.length : Nat) : Int)))] oN)) ?_
  refine Xe (cB (decide (((i : Nat) : Int) < ((a.length : Nat) : Int))) (fun h1 => ?_) (fun h1 => ?_))
  ·
    have h1' := of_decide_eq_true h1
    refine Xn ?_
    refine Xe ?_
    refine X6 ?_
    refine sh 2 [tv 1 (Xj b), tv 4 .nil, tv 5 (.own 12 1), tv 6 (kw c), tv 7 (ki ((i : Nat) : Int)), tv 8 (kw (a.getD i 0)), tv 9 (kw c), tv 13 (Xj a), tv 14 (ki ((a.length : Nat) : Int)), tv 15 (ki ((i : Nat) : Int)), ov 12 (Xj out)] (oS (oT 1 (oO (J0 i (by omega) (Zj (by (try simp only [List.length_set, List.length_append, List.length_cons, List.length_nil, List.length_replicate]); omega)) : (0 : Int) ≤ ((i : Nat) : Int) ∧ (uw a)[Int.toNat ((i : Nat) : Int)]? = some (kw (a.getD i 0))) (oT 3 oN))) (oS (oT 2 (oA [kw (a.getD i 0)] oN)) oN)) ?_
    refine Xe ?_
    refine rt [tv 1 (Xj b), tv 4 .nil, tv 5 (.own 12 1), tv 6 (kw c), tv 7 (ki ((i : Nat) : Int)), tv 8 (kw (a.getD i 0)), tv 9 (kw c), tv 13 (Xj a), tv 14 (ki ((a.length : Nat) : Int)), tv 15 (ki ((i : Nat) : Int)), tv 24 (.bool (decide (((i : Nat) : Int) < ((b.length : Nat) : Int)))), ov 12 (Xj out)] (oT 2 (oO (aI trivial (Yx _ : ((b.length : Nat) : Int) = (((uw b).length : Nat) : Int))) (oO (oB (decide (((i : Nat) : Int) < ((b.length : Nat) : Int)))) (oA [.tup [ki ((b.length : Nat) : Int)], cT (decide (((i : Nat) : Int) < ((b.length : Nat) : Int)))] oN)))) ?_
    refine cB (decide (((i : Nat) : Int) < ((b.length : Nat) : Int))) (fun h2 => ?_) (fun h2 => ?_)
    ·
      have h2' := of_decide_eq_true h2
      refine rh [tv 1 (Xj b), tv 4 .nil, tv 5 (.own 12 1), tv 6 (kw c), tv 7 (ki ((i : Nat) : Int)), tv 8 (kw (a.getD i 0)), tv 9 (kw (c + b.getD i 0)), tv 13 (Xj a), tv 14 (ki ((a.length : Nat) : Int)), tv 15 (ki ((i : Nat) : Int)), ov 12 (Xj out)] (oT 3 (oO (J0 i (by omega) (Zj (by (try simp only [List.length_set, List.length_append, List.length_cons, List.length_nil, List.length_replicate]); omega)) : (0 : Int) ≤ ((i : Nat) : Int) ∧ (uw b)[Int.toNat ((i : Nat) : Int)]? = some (kw (b.getD i 0))) (oT 1 (oO (Xa4 (x := c) (y := (b.getD i 0)) (by omega) (by omega)) (oT 1 (oA [kw (b.getD i 0), kw (c + b.getD i 0)] oN)))))) ?_
      refine rt [tv 1 (Xj b), tv 4 .nil, tv 5 (.own 12 1), tv 6 (kw 0), tv 7 (ki ((i : Nat) : Int)), tv 8 (kw (a.getD i 0)), tv 9 (kw (c + b.getD i 0)), tv 13 (Xj a), tv 14 (ki ((a.length : Nat) : Int)), tv 15 (ki ((i : Nat) : Int)), ov 12 (Xj out)] (oT 1 oN) ?_
      refine Xe ?_
      refine rt [tv 1 (Xj b), tv 4 .nil, tv 5 (.own 12 1), tv 6 (kw 0), tv 7 (ki ((i : Nat) : Int)), tv 8 (kw (a.getD i 0)), tv 9 (kw (c + b.getD i 0)), tv 13 (Xj a), tv 14 (ki ((a.length : Nat) : Int)), tv 15 (ki ((i : Nat) : Int)), tv 33 (.bool (decide (a.getD i 0 < (c + b.getD i 0)))), ov 12 (Xj out)] (oT 2 (oO (oB (decide (a.getD i 0 < (c + b.getD i 0)))) (oA [cT (decide (a.getD i 0 < (c + b.getD i 0)))] oN))) ?_
      refine cB (decide (a.getD i 0 < (c + b.getD i 0))) (fun h3 => ?_) (fun h3 => ?_)
      ·
        have h3' := of_decide_eq_true h3
        refine rh [tv 1 (Xj b), tv 4 .nil, tv 5 (.own 12 1), tv 6 (kw 1), tv 7 (ki ((i : Nat) : Int)), tv 8 (kw (a.getD i 0 + 1000000000)), tv 9 (kw (c + b.getD i 0)), tv 13 (Xj a), tv 14 (ki ((a.length : Nat) : Int)), tv 15 (ki ((i : Nat) : Int)), ov 12 (Xj out)] (oT 1 (oO (Xa4 (x := (a.getD i 0)) (y := 1000000000) (by omega) (by omega)) (oT 2 (oA [kw (a.getD i 0 + 1000000000)] oN)))) ?_
        refine rh [tv 1 (Xj b), tv 4 .nil, tv 5 (.own 12 1), tv 6 (kw 1), tv 13 (Xj a), tv 14 (ki ((a.length : Nat) : Int)), tv 15 (ki ((i : Nat) : Int)), ov 12 (Xj (out.set i ((a.getD i 0 + 1000000000) - (c + b.getD i 0))))] (oT 4 (oO (Xa6 (x := (a.getD i 0 + 1000000000)) (y := (c + b.getD i 0)) (by omega) (by omega)) (oO (Xb9 i (by omega) (by simp only [J1]; (try simp only [List.length_set, List.length_append, List.length_cons, List.length_nil, List.length_replicate]); omega) : (0 : Int) ≤ ((i : Nat) : Int) ∧ Int.toNat ((i : Nat) : Int) < (uw out).length) (oO (aI (Zj (by (try simp only [List.length_set, List.length_append, List.length_cons, List.length_nil, List.length_replicate]); omega) : (uw out)[i]? = some (kw (out.getD i 0))) (Xbt _ _ _ : (uw (out.set i ((a.getD i 0 + 1000000000) - (c + b.getD i 0)))) = (uw out).set i (kw ((a.getD i 0 + 1000000000) - (c + b.getD i 0))))) (oA [kw ((a.getD i 0 + 1000000000) - (c + b.getD i 0)), .tup [.sl 1 (uw (out.set i ((a.getD i 0 + 1000000000) - (c + b.getD i 0))))], kw (out.getD i 0)] oN))))) ?_
        refine rh [tv 1 (Xj b), tv 4 .nil, tv 5 (.own 12 1), tv 6 (kw 1), tv 13 (Xj a), tv 14 (ki ((a.length : Nat) : Int)), tv 15 (ki ((i + 1 : Nat) : Int)), ov 12 (Xj (out.set i ((a.getD i 0 + 1000000000) - (c + b.getD i 0))))] (oO (X3 (x := ((i : Nat) : Int)) (y := 1) (by omega) (by omega)) (oT 1 (oA [ki ((i + 1 : Nat) : Int)] oN))) ?_
        exact ⟨a.length - (i + 1), [tv 1 (Xj b), tv 4 .nil, tv 5 (.own 12 1), tv 6 (kw 1), tv 13 (Xj a), tv 14 (ki ((a.length : Nat) : Int)), tv 15 (ki ((i + 1 : Nat) : Int)), ov 12 (Xj (out.set i ((a.getD i 0 + 1000000000) - (c + b.getD i 0))))], (by omega), rfl, (by kernel_rfl), i + 1, 1, out.set i ((a.getD i 0 + 1000000000) - (c + b.getD i 0)), ⟨by omega, by omega, by omega, Lm.G_set hi4 _ (by omega) (by omega), by simp [hi5], by rw [Lm.P_succ, Lm.V_take_next a, Lm.V_take_next b]; refine Lm.sub_step hi6 ?_ (Lm.V_set_take _ (by omega)); omega⟩, rfl, (by kernel_rfl)⟩
      ·
        have h3' := of_decide_eq_false h3
        refine Xn ?_
        refine rh [tv 1 (Xj b), tv 4 .nil, tv 5 (.own 12 1), tv 6 (kw 0), tv 13 (Xj a), tv 14 (ki ((a.length : Nat) : Int)), tv 15 (ki ((i : Nat) : Int)), ov 12 (Xj (out.set i (a.getD i 0 - (c + b.getD i 0))))] (oT 4 (oO (Xa6 (x := (a.getD i 0)) (y := (c + b.getD i 0)) (by omega) (by omega)) (oO (Xb9 i (by omega) (by simp only [J1]; (try simp only [List.length_set, List.length_append, List.length_cons, List.length_nil, List.length_replicate]); omega) : (0 : Int) ≤ ((i : Nat) : Int) ∧ Int.toNat ((i : Nat) : Int) < (uw out).length) (oO (aI (Zj (by (try simp only [List.length_set, List.length_append, List.length_cons, List.length_nil, List.length_replicate]); omega) : (uw out)[i]? = some (kw (out.getD i 0))) (Xbt _ _ _ : (uw (out.set i (a.getD i 0 - (c + b.getD i 0)))) = (uw out).set i (kw (a.getD i 0 - (c + b.getD i 0))))) (oA [kw (a.getD i 0 - (c + b.getD i 0)), .tup [.sl 1 (uw (out.set i (a.getD i 0 - (c + b.getD i 0))))], kw (out.getD i 0)] oN))))) ?_
        refine rh [tv 1 (Xj b), tv 4 .nil, tv 5 (.own 12 1), tv 6 (kw 0), tv 13 (Xj a), tv 14 (ki ((a.length : Nat) : Int)), tv 15 (ki ((i + 1 : Nat) : Int)), ov 12 (Xj (out.set i (a.getD i 0 - (c + b.getD i 0))))] (oO (X3 (x := ((i : Nat) : Int)) (y := 1) (by omega) (by omega)) (oT 1 (oA [ki ((i + 1 : Nat) : Int)] oN))) ?_
        exact ⟨a.length - (i + 1), [tv 1 (Xj b), tv 4 .nil, tv 5 (.own 12 1), tv 6 (kw 0), tv 13 (Xj a), tv 14 (ki ((a.length : Nat) : Int)), tv 15 (ki ((i + 1 : Nat) : Int)), ov 12 (Xj (out.set i (a.getD i 0 - (c + b.getD i 0))))], (by omega), rfl, (by kernel_rfl), i + 1, 0, out.set i (a.getD i 0 - (c + b.getD i 0)), ⟨by omega, by omega, by omega, Lm.G_set hi4 _ (by omega) (by omega), by simp [hi5], by rw [Lm.P_succ, Lm.V_take_next a, Lm.V_take_next b]; refine Lm.sub_step hi6 ?_ (Lm.V_set_take _ (by omega)); omega⟩, rfl, (by kernel_rfl)⟩
    ·
      have h2' := of_decide_eq_false h2
      refine Xn ?_
      refine rt [tv 1 (Xj b), tv 4 .nil, tv 5 (.own 12 1), tv 6 (kw 0), tv 7 (ki ((i : Nat) : Int)), tv 8 (kw (a.getD i 0)), tv 9 (kw c), tv 13 (Xj a), tv 14 (ki ((a.length : Nat) : Int)), tv 15 (ki ((i : Nat) : Int)), ov 12 (Xj out)] (oT 1 oN) ?_
      refine Xe ?_
      refine rt [tv 1 (Xj b), tv 4 .nil, tv 5 (.own 12 1), tv 6 (kw 0), tv 7 (ki ((i : Nat) : Int)), tv 8 (kw (a.getD i 0)), tv 9 (kw c), tv 13 (Xj a), tv 14 (ki ((a.length : Nat) : Int)), tv 15 (ki ((i : Nat) : Int)), tv 33 (.bool (decide (a.getD i 0 < c))), ov 12 (Xj out)] (oT 2 (oO (oB (decide (a.getD i 0 < c))) (oA [cT (decide (a.getD i 0 < c))] oN))) ?_
      refine cB (decide (a.getD i 0 < c)) (fun h4 => ?_) (fun h4 => ?_)
      ·
        have h4' := of_decide_eq_true h4
        refine rh [tv 1 (Xj b), tv 4 .nil, tv 5 (.own 12 1), tv 6 (kw 1), tv 7 (ki ((i : Nat) : Int)), tv 8 (kw (a.getD i 0 + 1000000000)), tv 9 (kw c), tv 13 (Xj a), tv 14 (ki ((a.length : Nat) : Int)), tv 15 (ki ((i : Nat) : Int)), ov 12 (Xj out)] (oT 1 (oO (Xa4 (x := (a.getD i 0)) (y := 1000000000) (by omega) (by omega)) (oT 2 (oA [kw (a.getD i 0 + 1000000000)] oN)))) ?_
        refine rh [tv 1 (Xj b), tv 4 .nil, tv 5 (.own 12 1), tv 6 (kw 1), tv 13 (Xj a), tv 14 (ki ((a.length : Nat) : Int)), tv 15 (ki ((i : Nat) : Int)), ov 12 (Xj (out.set i ((a.getD i 0 + 1000000000) - c)))] (oT 4 (oO (Xa6 (x := (a.getD i 0 + 1000000000)) (y := c) (by omega) (by omega)) (oO (Xb9 i (by omega) (by simp only [J1]; (try simp only [List.length_set, List.length_append, List.length_cons, List.length_nil, List.length_replicate]); omega) : (0 : Int) ≤ ((i : Nat) : Int) ∧ Int.toNat ((i : Nat) : Int) < (uw out).length) (oO (aI (Zj (by (try simp only [List.length_set, List.length_append, List.length_cons, List.length_nil, List.length_replicate]); omega) : (uw out)[i]? = some (kw (out.getD i 0))) (Xbt _ _ _ : (uw (out.set i ((a.getD i 0 + 1000000000) - c))) = (uw out).set i (kw ((a.getD i 0 + 1000000000) - c)))) (oA [kw ((a.getD i 0 + 1000000000) - c), .tup [.sl 1 (uw (out.set i ((a.getD i 0 + 1000000000) - c)))], kw (out.getD i 0)] oN))))) ?_
        refine rh [tv 1 (Xj b), tv 4 .nil, tv 5 (.own 12 1), tv 6 (kw 1), tv 13 (Xj a), tv 14 (ki ((a.length : Nat) : Int)), tv 15 (ki ((i + 1 : Nat) : Int)), ov 12 (Xj (out.set i ((a.getD i 0 + 1000000000) - c)))] (oO (X3 (x := ((i : Nat) : Int)) (y := 1) (by omega) (by omega)) (oT 1 (oA [ki ((i + 1 : Nat) : Int)] oN))) ?_
        exact ⟨a.length - (i + 1), [tv 1 (Xj b), tv 4 .nil, tv 5 (.own 12 1), tv 6 (kw 1), tv 13 (Xj a), tv 14 (ki ((a.length : Nat) : Int)), tv 15 (ki ((i + 1 : Nat) : Int)), ov 12 (Xj (out.set i ((a.getD i 0 + 1000000000) - c)))], (by omega), rfl, (by kernel_rfl), i + 1, 1, out.set i ((a.getD i 0 + 1000000000) - c), ⟨by omega, by omega, by omega, Lm.G_set hi4 _ (by omega) (by omega), by simp [hi5], by rw [Lm.P_succ, Lm.V_take_next a, Lm.V_take_next b]; refine Lm.sub_step hi6 ?_ (Lm.V_set_take _ (by omega)); omega⟩, rfl, (by kernel_rfl)⟩
      ·
        have h4' := of_decide_eq_false h4
        refine Xn ?_
        refine rh [tv 1 (Xj b), tv 4 .nil, tv 5 (.own 12 1), tv 6 (kw 0), tv 13 (Xj a), tv 14 (ki ((a.length : Nat) : Int)), tv 15 (ki ((i : Nat) : Int)), ov 12 (Xj (out.set i (a.getD i 0 - c)))] (oT 4 (oO (Xa6 (x := (a.getD i 0)) (y := c) (by omega) (by omega)) (oO (Xb9 i (by omega) (by simp only [J1]; (try simp only [List.length_set, List.length_append, List.length_cons, List.length_nil, List.length_replicate]); omega) : (0 : Int) ≤ ((i : Nat) : Int) ∧ Int.toNat ((i : Nat) : Int) < (uw out).length) (oO (aI (Zj (by (try simp only [List.length_set, List.length_append, List.length_cons, List.length_nil, List.length_replicate]); omega) : (uw out)[i]? = some (kw (out.getD i 0))) (Xbt _ _ _ : (uw (out.set i (a.getD i 0 - c))) = (uw out).set i (kw (a.getD i 0 - c)))) (oA [kw (a.getD i 0 - c), .tup [.sl 1 (uw (out.set i (a.getD i 0 - c)))], kw (out.getD i 0)] oN))))) ?_
        refine rh [tv 1 (Xj b), tv 4 .nil, tv 5 (.own 12 1), tv 6 (kw 0), tv 13 (Xj a), tv 14 (ki ((a.length : Nat) : Int)), tv 15 (ki ((i + 1 : Nat) : Int)), ov 12 (Xj (out.set i (a.getD i 0 - c)))] (oO (X3 (x := ((i : Nat) : Int)) (y := 1) (by omega) (by omega)) (oT 1 (oA [ki ((i + 1 : Nat) : Int)] oN))) ?_
        exact ⟨a.length - (i + 1), [tv 1 (Xj b), tv 4 .nil, tv 5 (.own 12 1), tv 6 (kw 0), tv 13 (Xj a), tv 14 (ki ((a.length : Nat) : Int)), tv 15 (ki ((i + 1 : Nat) : Int)), ov 12 (Xj (out.set i (a.getD i 0 - c)))], (by omega), rfl, (by kernel_rfl), i + 1, 0, out.set i (a.getD i 0 - c), ⟨by omega, by omega, by omega, Lm.G_set hi4 _ (by omega) (by omega), by simp [hi5], by rw [Lm.P_succ, Lm.V_take_next a, Lm.V_take_next b]; refine Lm.sub_step hi6 ?_ (Lm.V_set_take _ (by omega)); omega⟩, rfl, (by kernel_rfl)⟩
  ·
    have h1' := of_decide_eq_false h1
    refine Z3 ?_
    refine rt [tv 4 (.own 12 1), ov 12 (Xj out)] (oT 2 oN) ?_
    refine Xio [.own 12 1] [tv 4 (.own 12 1), (.o 12, ⟨1, false, Xj out⟩)] (by kernel_rfl) (by kernel_rfl) ?_
    refine Xg ?_
    have hil : i = a.length := by omega
    rw [Lm.V_take_all a (by omega), Lm.V_take_all b (by omega), Lm.V_take_all out (by omega)] at hi6
    have hvo := (Lm.V_bound hi4)
    rw [hi5] at hvo
    have hva := (Lm.V_bound ga)
    have hc0 : c = 0 := by
      rcases (by omega : c = 0 ∨ c = 1) with h | h
      · exact h
      · subst h; rw [hil] at hi6; omega
    subst hc0
    exact X7i ((Xj out)) (congrArg Xj (Lm.eq_dg hi4 (by omega) (by omega)))
theorem Xhd (a b : List Int) (ga : Lm.G a) (gb : Lm.G b) (hlen : b.length ≤ a.length := by omega) (hv : Lm.V b ≤ Lm.V a := by omega) (hs : a.length + b.length ≤ 4398046511104 := by omega) : CS Tryz.prog 250 [Xj a, Xj b] (Xj (Lm.digs (Lm.V a - Lm.V b).natAbs)) := by
  refine cO 45 Tryz.func250 ?_
  refine sh 3 [tv 0 (Xj a), tv 1 (Xj b), tv 4 .nil, tv 5 (.own 11 1), tv 6 (kw 0), ov 11 (Xj (List.replicate a.length 0))] (oS (oT 1 oN) (oS (oT 1 (oO (aI trivial (Yx _ : ((a.length : Nat) : Int) = (((uw a).length : Nat) : Int))) (oO (aI (show (0 : Int) ≤ ((a.length : Nat) : Int) ∧ (((a.length : Nat) : Int) : Int) ≤ ((a.length : Nat) : Int) ∧ 4 * Int.toNat ((a.length : Nat) : Int) ≤ 281474976710656 by omega) (Xic a.length (by omega) : (uw (List.replicate a.length 0)) = List.replicate (Int.toNat ((a.length : Nat) : Int)) (kw 0))) (oT 1 oN)))) (oS (oT 1 (oA [.tup [ki ((a.length : Nat) : Int)], .tup [.sl 1 (uw (List.replicate a.length 0))]] oN)) oN))) ?_
  refine Xe ?_
  refine rt [tv 0 (Xj a), tv 1 (Xj b), tv 4 .nil, tv 5 (.own 11 1), tv 6 (kw 0), tv 7 (ki 0), ov 11 (Xj (List.replicate a.length 0))] (oT 1 oN) ?_
  refine X6 ?_
  refine Z0 (fun n0 l0 => ∃ (i : Nat) (c : Int) (out : List Int), (i ≤ a.length ∧ 0 ≤ c ∧ c ≤ 1 ∧ Lm.G out ∧ out.length = a.length ∧ Lm.V (out.take i) - Lm.P i * c = Lm.V (a.take i) - Lm.V (b.take i)) ∧ (a.length - i) = n0 ∧ l0 = [tv 0 (Xj a), tv 1 (Xj b), tv 4 .nil, tv 5 (.own 11 1), tv 6 (kw c), tv 7 (ki ((i : Nat) : Int)), ov 11 (Xj out)]) (n := (a.length - 0)) (by kernel_rfl) ⟨0, 0, List.replicate a.length 0, ⟨by omega, by omega, by omega, Lm.G_zeros _, by simp, by simp [Lm.V]⟩, rfl, (by kernel_rfl)⟩ ?_
  rintro n0 l0 ⟨i, c, out, ⟨hi1, hi2, hi3, hi4, hi5, hi6⟩, rfl, rfl⟩
  have hx := Lm.G_get ga i
  have hy := Lm.G_get gb i
  have hy0 := Lm.getD_out b (i := i)
  refine Xe ?_
  refine rt [tv 0 (Xj a), tv 1 (Xj b), tv 4 .nil, tv 5 (.own 11 1), tv 6 (kw c), tv 7 (ki ((i : Nat) : Int)), tv 15 (.bool (decide (((i : Nat) : Int) < ((a.length : Nat) : Int)))), ov 11 (Xj out)] (oT 2 (oO (aI trivial (Yx _ : ((a.length : Nat) : Int) = (((uw a).length : Nat) : Int))) (oO (oB (decide (((i : Nat) : Int) < ((a.length : Nat) : Int)))) (oA [.tup [ki ((a.length : Nat) : Int)], cT (decide (((i : Nat) : Int) < ((a.length : Nat) : Int)))] oN)))) ?_
  refine cB (decide (((i : Nat) : Int) < ((a.length : Nat) : Int))) (fun h1 => ?_) (fun h1 => ?_)
  ·
    have h1' := of_decide_eq_true h1
    refine Xn ?_
    refine Xe ?_
    refine X6 ?_
    refine rt [tv 0 (Xj a), tv 1 (Xj b), tv 4 .nil, tv 5 (.own 11 1), tv 6 (kw c), tv 7 (ki ((i : Nat) : Int)), tv 8 (kw ((a.getD i 0 + 1000000000) - c)), ov 11 (Xj out)] (oT 2 (oO (J0 i (by omega) (Zj (by (try simp only [List.length_set, List.length_append, List.length_cons, List.length_nil, List.length_replicate]); omega)) : (0 : Int) ≤ ((i : Nat) : Int) ∧ (uw a)[Int.toNat ((i : Nat) : Int)]? = some (kw (a.getD i 0))) (oT 1 (oO (Xa4 (x := (a.getD i 0)) (y := 1000000000) (by omega) (by omega)) (oT 1 (oO (Xa6 (x := (a.getD i 0 + 1000000000)) (y := c) (by omega) (by omega)) (oT 1 (oA [kw (a.getD i 0), kw (a.getD i 0 + 1000000000), kw ((a.getD i 0 + 1000000000) - c)] oN)))))))) ?_
    refine Xe ?_
    refine rt [tv 0 (Xj a), tv 1 (Xj b), tv 4 .nil, tv 5 (.own 11 1), tv 6 (kw c), tv 7 (ki ((i : Nat) : Int)), tv 8 (kw ((a.getD i 0 + 1000000000) - c)), tv 28 (.bool (decide (((i : Nat) : Int) < ((b.length : Nat) : Int)))), ov 11 (Xj out)] (oT 2 (oO (aI trivial (Yx _ : ((b.length : Nat) : Int) = (((uw b).length : Nat) : Int))) (oO (oB (decide (((i : Nat) : Int) < ((b.length : Nat) : Int)))) (oA [.tup [ki ((b.length : Nat) : Int)], cT (decide (((i : Nat) : Int) < ((b.length : Nat) : Int)))] oN)))) ?_
    refine cB (decide (((i : Nat) : Int) < ((b.length : Nat) : Int))) (fun h2 => ?_) (fun h2 => ?_)
    ·
      have h2' := of_decide_eq_true h2
      refine rh [tv 0 (Xj a), tv 1 (Xj b), tv 4 .nil, tv 5 (.own 11 1), tv 6 (kw c), tv 7 (ki ((i : Nat) : Int)), tv 8 (kw (((a.getD i 0 + 1000000000) - c) - b.getD i 0)), ov 11 (Xj out)] (oT 3 (oO (J0 i (by omega) (Zj (by (try simp only [List.length_set, List.length_append, List.length_cons, List.length_nil, List.length_replicate]); omega)) : (0 : Int) ≤ ((i : Nat) : Int) ∧ (uw b)[Int.toNat ((i : Nat) : Int)]? = some (kw (b.getD i 0))) (oT 1 (oO (Xa6 (x := ((a.getD i 0 + 1000000000) - c)) (y := (b.getD i 0)) (by omega) (by omega)) (oT 1 (oA [kw (b.getD i 0), kw (((a.getD i 0 + 1000000000) - c) - b.getD i 0)] oN)))))) ?_
      refine rt [tv 0 (Xj a), tv 1 (Xj b), tv 4 .nil, tv 5 (.own 11 1), tv 6 (kw 1), tv 7 (ki ((i : Nat) : Int)), tv 8 (kw (((a.getD i 0 + 1000000000) - c) - b.getD i 0)), ov 11 (Xj out)] (oT 1 oN) ?_
      refine Xe ?_
      refine rt [tv 0 (Xj a), tv 1 (Xj b), tv 4 .nil, tv 5 (.own 11 1), tv 6 (kw 1), tv 7 (ki ((i : Nat) : Int)), tv 8 (kw (((a.getD i 0 + 1000000000) - c) - b.getD i 0)), tv 36 (.bool (decide (1000000000 ≤ (((a.getD i 0 + 1000000000) - c) - b.getD i 0)))), ov 11 (Xj out)] (oT 1 (oO (oB (decide (1000000000 ≤ (((a.getD i 0 + 1000000000) - c) - b.getD i 0)))) (oA [cT (decide (1000000000 ≤ (((a.getD i 0 + 1000000000) - c) - b.getD i 0)))] oN))) ?_
      refine cB (decide (1000000000 ≤ (((a.getD i 0 + 1000000000) - c) - b.getD i 0))) (fun h3 => ?_) (fun h3 => ?_)
      ·
        have h3' := of_decide_eq_true h3
        refine rh [tv 0 (Xj a), tv 1 (Xj b), tv 4 .nil, tv 5 (.own 11 1), tv 6 (kw 0), tv 7 (ki ((i : Nat) : Int)), tv 8 (kw ((((a.getD i 0 + 1000000000) - c) - b.getD i 0) - 1000000000)), ov 11 (Xj out)] (oT 1 (oO (Xa6 (x := (((a.getD i 0 + 1000000000) - c) - b.getD i 0)) (y := 1000000000) (by omega) (by omega)) (oT 2 (oA [kw ((((a.getD i 0 + 1000000000) - c) - b.getD i 0) - 1000000000)] oN)))) ?_
        refine rh [tv 0 (Xj a), tv 1 (Xj b), tv 4 .nil, tv 5 (.own 11 1), tv 6 (kw 0), tv 7 (ki ((i : Nat) : Int)), ov 11 (Xj (out.set i ((((a.getD i 0 + 1000000000) - c) - b.getD i 0) - 1000000000)))] (oT 3 (oO (Xb9 i (by omega) (by simp only [J1]; (try simp only [List.length_set, List.length_append, List.length_cons, List.length_nil, List.length_replicate]); omega) : (0 : Int) ≤ ((i : Nat) : Int) ∧ Int.toNat ((i : Nat) : Int) < (uw out).length) (oO (aI (Zj (by (try simp only [List.length_set, List.length_append, List.length_cons, List.length_nil, List.length_replicate]); omega) : (uw out)[i]? = some (kw (out.getD i 0))) (Xbt _ _ _ : (uw (out.set i ((((a.getD i 0 + 1000000000) - c) - b.getD i 0) - 1000000000))) = (uw out).set i (kw ((((a.getD i 0 + 1000000000) - c) - b.getD i 0) - 1000000000)))) (oA [.tup [.sl 1 (uw (out.set i ((((a.getD i 0 + 1000000000) - c) - b.getD i 0) - 1000000000)))], kw (out.getD i 0)] oN)))) ?_
        refine rh [tv 0 (Xj a), tv 1 (Xj b), tv 4 .nil, tv 5 (.own 11 1), tv 6 (kw 0), tv 7 (ki ((i + 1 : Nat) : Int)), ov 11 (Xj (out.set i ((((a.getD i 0 + 1000000000) - c) - b.getD i 0) - 1000000000)))] (oT 1 (oO (X3 (x := ((i : Nat) : Int)) (y := 1) (by omega) (by omega)) (oT 1 (oA [ki ((i + 1 : Nat) : Int)] oN)))) ?_
        exact ⟨a.length - (i + 1), [tv 0 (Xj a), tv 1 (Xj b), tv 4 .nil, tv 5 (.own 11 1), tv 6 (kw 0), tv 7 (ki ((i + 1 : Nat) : Int)), ov 11 (Xj (out.set i ((((a.getD i 0 + 1000000000) - c) - b.getD i 0) - 1000000000)))], (by omega), rfl, (by kernel_rfl), i + 1, 0, out.set i ((((a.getD i 0 + 1000000000) - c) - b.getD i 0) - 1000000000), ⟨by omega, by omega, by omega, Lm.G_set hi4 _ (by omega) (by omega), by simp [hi5], by rw [Lm.P_succ, Lm.V_take_next a, Lm.V_take_next b]; refine Lm.sub_step hi6 ?_ (Lm.V_set_take _ (by omega)); omega⟩, rfl, (by kernel_rfl)⟩
      ·
        have h3' := of_decide_eq_false h3
        refine Xn ?_
        refine rh [tv 0 (Xj a), tv 1 (Xj b), tv 4 .nil, tv 5 (.own 11 1), tv 6 (kw 1), tv 7 (ki ((i : Nat) : Int)), ov 11 (Xj (out.set i (((a.getD i 0 + 1000000000) - c) - b.getD i 0)))] (oT 3 (oO (Xb9 i (by omega) (by simp only [J1]; (try simp only [List.length_set, List.length_append, List.length_cons, List.length_nil, List.length_replicate]); omega) : (0 : Int) ≤ ((i : Nat) : Int) ∧ Int.toNat ((i : Nat) : Int) < (uw out).length) (oO (aI (Zj (by (try simp only [List.length_set, List.length_append, List.length_cons, List.length_nil, List.length_replicate]); omega) : (uw out)[i]? = some (kw (out.getD i 0))) (Xbt _ _ _ : (uw (out.set i (((a.getD i 0 + 1000000000) - c) - b.getD i 0))) = (uw out).set i (kw (((a.getD i 0 + 1000000000) - c) - b.getD i 0)))) (oA [.tup [.sl 1 (uw (out.set i (((a.getD i 0 + 1000000000) - c) - b.getD i 0)))], kw (out.getD i 0)] oN)))) ?_
        refine rh [tv 0 (Xj a), tv 1 (Xj b), tv 4 .nil, tv 5 (.own 11 1), tv 6 (kw 1), tv 7 (ki ((i + 1 : Nat) : Int)), ov 11 (Xj (out.set i (((a.getD i 0 + 1000000000) - c) - b.getD i 0)))] (oT 1 (oO (X3 (x := ((i : Nat) : Int)) (y := 1) (by omega) (by omega)) (oT 1 (oA [ki ((i + 1 : Nat) : Int)] oN)))) ?_
        exact ⟨a.length - (i + 1), [tv 0 (Xj a), tv 1 (Xj b), tv 4 .nil, tv 5 (.own 11 1), tv 6 (kw 1), tv 7 (ki ((i + 1 : Nat) : Int)), ov 11 (Xj (out.set i (((a.getD i 0 + 1000000000) - c) - b.getD i 0)))], (by omega), rfl, (by kernel_rfl), i + 1, 1, out.set i (((a.getD i 0 + 1000000000) - c) - b.getD i 0), ⟨by omega, by omega, by omega, Lm.G_set hi4 _ (by omega) (by omega), by simp [hi5], by rw [Lm.P_succ, Lm.V_take_next a, Lm.V_take_next b]; refine Lm.sub_step hi6 ?_ (Lm.V_set_take _ (by omega)); omega⟩, rfl, (by kernel_rfl)⟩
    ·
      have h2' := of_decide_eq_false h2
      refine Xn ?_
      refine rt [tv 0 (Xj a), tv 1 (Xj b), tv 4 .nil, tv 5 (.own 11 1), tv 6 (kw 1), tv 7 (ki ((i : Nat) : Int)), tv 8 (kw ((a.getD i 0 + 1000000000) - c)), ov 11 (Xj out)] (oT 1 oN) ?_
      refine Xe ?_
      refine rt [tv 0 (Xj a), tv 1 (Xj b), tv 4 .nil, tv 5 (.own 11 1), tv 6 (kw 1), tv 7 (ki ((i : Nat) : Int)), tv 8 (kw ((a.getD i 0 + 1000000000) - c)), tv 36 (.bool (decide (1000000000 ≤ ((a.getD i 0 + 1000000000) - c)))), ov 11 (Xj out)] (oT 1 (oO (oB (decide (1000000000 ≤ ((a.getD i 0 + 1000000000) - c)))) (oA [cT (decide (1000000000 ≤ ((a.getD i 0 + 1000000000) - c)))] oN))) ?_
      refine cB (decide (1000000000 ≤ ((a.getD i 0 + 1000000000) - c))) (fun h4 => ?_) (fun h4 => ?_)
      ·
        have h4' := of_decide_eq_true h4
        refine rh [tv 0 (Xj a), tv 1 (Xj b), tv 4 .nil, tv 5 (.own 11 1), tv 6 (kw 0), tv 7 (ki ((i : Nat) : Int)), tv 8 (kw (((a.getD i 0 + 1000000000) - c) - 1000000000)), ov 11 (Xj out)] (oT 1 (oO (Xa6 (x := ((a.getD i 0 + 1000000000) - c)) (y := 1000000000) (by omega) (by omega)) (oT 2 (oA [kw (((a.getD i 0 + 1000000000) - c) - 1000000000)] oN)))) ?_
        refine rh [tv 0 (Xj a), tv 1 (Xj b), tv 4 .nil, tv 5 (.own 11 1), tv 6 (kw 0), tv 7 (ki ((i : Nat) : Int)), ov 11 (Xj (out.set i (((a.getD i 0 + 1000000000) - c) - 1000000000)))] (oT 3 (oO (Xb9 i (by omega) (by simp only [J1]; (try simp only [List.length_set, List.length_append, List.length_cons, List.length_nil, List.length_replicate]); omega) : (0 : Int) ≤ ((i : Nat) : Int) ∧ Int.toNat ((i : Nat) : Int) < (uw out).length) (oO (aI (Zj (by (try simp only [List.length_set, List.length_append, List.length_cons, List.length_nil, List.length_replicate]); omega) : (uw out)[i]? = some (kw (out.getD i 0))) (Xbt _ _ _ : (uw (out.set i (((a.getD i 0 + 1000000000) - c) - 1000000000))) = (uw out).set i (kw (((a.getD i 0 + 1000000000) - c) - 1000000000)))) (oA [.tup [.sl 1 (uw (out.set i (((a.getD i 0 + 1000000000) - c) - 1000000000)))], kw (out.getD i 0)] oN)))) ?_
        refine rh [tv 0 (Xj a), tv 1 (Xj b), tv 4 .nil, tv 5 (.own 11 1), tv 6 (kw 0), tv 7 (ki ((i + 1 : Nat) : Int)), ov 11 (Xj (out.set i (((a.getD i 0 + 1000000000) - c) - 1000000000)))] (oT 1 (oO (X3 (x := ((i : Nat) : Int)) (y := 1) (by omega) (by omega)) (oT 1 (oA [ki ((i + 1 : Nat) : Int)] oN)))) ?_
        exact ⟨a.length - (i + 1), [tv 0 (Xj a), tv 1 (Xj b), tv 4 .nil, tv 5 (.own 11 1), tv 6 (kw 0), tv 7 (ki ((i + 1 : Nat) : Int)), ov 11 (Xj (out.set i (((a.getD i 0 + 1000000000) - c) - 1000000000)))], (by omega), rfl, (by kernel_rfl), i + 1, 0, out.set i (((a.getD i 0 + 1000000000) - c) - 1000000000), ⟨by omega, by omega, by omega, Lm.G_set hi4 _ (by omega) (by omega), by simp [hi5], by rw [Lm.P_succ, Lm.V_take_next a, Lm.V_take_next b]; refine Lm.sub_step hi6 ?_ (Lm.V_set_take _ (by omega)); omega⟩, rfl, (by kernel_rfl)⟩
      ·
        have h4' := of_decide_eq_false h4
        refine Xn ?_
        refine rh [tv 0 (Xj a), tv 1 (Xj b), tv 4 .nil, tv 5 (.own 11 1), tv 6 (kw 1), tv 7 (ki ((i : Nat) : Int)), ov 11 (Xj (out.set i ((a.getD i 0 + 1000000000) - c)))] (oT 3 (oO (Xb9 i (by omega) (by simp only [J1]; (try simp only [List.length_set, List.length_append, List.length_cons, List.length_nil, List.length_replicate]); omega) : (0 : Int) ≤ ((i : Nat) : Int) ∧ Int.toNat ((i : Nat) : Int) < (uw out).length) (oO (aI (Zj (by (try simp only [List.length_set, List.length_append, List.length_cons, List.length_nil, List.length_replicate]); omega) : (uw out)[i]? = some (kw (out.getD i 0))) (Xbt _ _ _ : (uw (out.set i ((a.getD i 0 + 1000000000) - c))) = (uw out).set i (kw ((a.getD i 0 + 1000000000) - c)))) (oA [.tup [.sl 1 (uw (out.set i ((a.getD i 0 + 1000000000) - c)))], kw (out.getD i 0)] oN)))) ?_
        refine rh [tv 0 (Xj a), tv 1 (Xj b), tv 4 .nil, tv 5 (.own 11 1), tv 6 (kw 1), tv 7 (ki ((i + 1 : Nat) : Int)), ov 11 (Xj (out.set i ((a.getD i 0 + 1000000000) - c)))] (oT 1 (oO (X3 (x := ((i : Nat) : Int)) (y := 1) (by omega) (by omega)) (oT 1 (oA [ki ((i + 1 : Nat) : Int)] oN)))) ?_
        exact ⟨a.length - (i + 1), [tv 0 (Xj a), tv 1 (Xj b), tv 4 .nil, tv 5 (.own 11 1), tv 6 (kw 1), tv 7 (ki ((i + 1 : Nat) : Int)), ov 11 (Xj (out.set i ((a.getD i 0 + 1000000000) - c)))], (by omega), rfl, (by kernel_rfl), i + 1, 1, out.set i ((a.getD i 0 + 1000000000) - c), ⟨by omega, by omega, by omega, Lm.G_set hi4 _ (by omega) (by omega), by simp [hi5], by rw [Lm.P_succ, Lm.V_take_next a, Lm.V_take_next b]; refine Lm.sub_step hi6 ?_ (Lm.V_set_take _ (by omega)); omega⟩, rfl, (by kernel_rfl)⟩
  ·
    have h1' := of_decide_eq_false h1
    refine Z3 ?_
    refine rt [tv 4 (Xj (Lm.trim out))] (oT 1 (oC (Xbn out) (oT 1 oN))) ?_
    refine Xg ?_
    have hil : i = a.length := by omega
    rw [Lm.V_take_all a (by omega), Lm.V_take_all b (by omega), Lm.V_take_all out (by omega)] at hi6
    have hvo := (Lm.V_bound hi4)
    rw [hi5] at hvo
    have hva := (Lm.V_bound ga)
    have hc0 : c = 0 := by
      rcases (by omega : c = 0 ∨ c = 1) with h | h
      · exact h
      · subst h; rw [hil] at hi6; omega
    subst hc0
    exact X7i ((Xj (Lm.trim out))) (congrArg Xj ((Lm.trim_digs hi4).trans (by rw [show Lm.V out = Lm.V a - Lm.V b by omega])))
theorem Xu8 (a b : List Int) (ga : Lm.G a) (gb : Lm.G b) (hs : a.length + b.length ≤ 4398046511104 := by omega) : CS Tryz.prog 255 [Xj a, Xj b] (Xj (Lm.digs (Lm.V a + Lm.V b).natAbs)) := by
 refine cO 55 Tryz.func255 ?_
 refine rt [tv 0 (Xj a), tv 1 (Xj b), tv 4 .nil] (oT 1 oN) ?_
 refine Xe ?_
 refine rt [tv 0 (Xj a), tv 1 (Xj b), tv 4 .nil, tv 12 (.bool (decide (((a.length : Nat) : Int) < ((b.length : Nat) : Int))))] (oT 1 (oO (aI trivial (Yx _ : ((a.length : Nat) : Int) = (((uw a).length : Nat) : Int))) (oT 1 (oO (aI trivial (Yx _ : ((b.length : Nat) : Int) = (((uw b).length : Nat) : Int))) (oO (oB (decide (((a.length : Nat) : Int) < ((b.length : Nat) : Int)))) (oA [.tup [ki ((a.length : Nat) : Int)], .tup [ki ((b.length : Nat) : Int)], cT (decide (((a.length : Nat) : Int) < ((b.length : Nat) : Int)))] oN)))))) ?_
 refine cB (decide (((a.length : Nat) : Int) < ((b.length : Nat) : Int))) (fun h1 => ?_) (fun h1 => ?_)
 ·
  have h1' := of_decide_eq_true h1
  refine rh [tv 0 (Xj b), tv 1 (Xj a), tv 4 .nil] (oT 4 oN) ?_
  refine sh 2 [tv 0 (Xj b), tv 1 (Xj a), tv 4 .nil, tv 5 (.own 18 1), tv 6 (kw 0), ov 18 (Xj (List.replicate (b.length + 1) 0))] (oS (oT 1 (oO (aI trivial (Yx _ : ((b.length : Nat) : Int) = (((uw b).length : Nat) : Int))) (oO (X3 (x := ((b.length : Nat) : Int)) (y := 1) (by omega) (by omega)) (oO (aI (show (0 : Int) ≤ ((b.length + 1 : Nat) : Int) ∧ (((b.length + 1 : Nat) : Int) : Int) ≤ ((b.length + 1 : Nat) : Int) ∧ 4 * Int.toNat ((b.length + 1 : Nat) : Int) ≤ 281474976710656 by omega) (Xic (b.length + 1) (by omega) : (uw (List.replicate (b.length + 1) 0)) = List.replicate (Int.toNat ((b.length + 1 : Nat) : Int)) (kw 0))) (oT 1 oN))))) (oS (oT 1 (oA [.tup [ki ((b.length : Nat) : Int)], ki ((b.length + 1 : Nat) : Int), .tup [.sl 1 (uw (List.replicate (b.length + 1) 0))]] oN)) oN)) ?_
  refine Xe ?_
  refine rt [tv 0 (Xj b), tv 1 (Xj a), tv 4 .nil, tv 5 (.own 18 1), tv 6 (kw 0), tv 7 (ki 0), ov 18 (Xj (List.replicate (b.length + 1) 0))] (oT 1 oN) ?_
  refine X6 ?_
  have hle : a.length ≤ b.length := by omega
  refine Z0 (fun n0 l0 => ∃ (i : Nat) (c : Int) (out : List Int), (i ≤ b.length ∧ 0 ≤ c ∧ c ≤ 1 ∧ Lm.G out ∧ out.length = b.length + 1 ∧ Lm.V (out.take i) + Lm.P i * c = Lm.V (b.take i) + Lm.V (a.take i)) ∧ (b.length - i) = n0 ∧ l0 = [tv 0 (Xj b), tv 1 (Xj a), tv 4 .nil, tv 5 (.own 18 1), tv 6 (kw c), tv 7 (ki ((i : Nat) : Int)), ov 18 (Xj out)]) (n := (b.length - 0)) (by kernel_rfl) ⟨0, 0, List.replicate (b.length + 1) 0, ⟨by omega, by omega, by omega, Lm.G_zeros _, by simp, by simp [Lm.V]⟩, rfl, (by kernel_rfl)⟩ ?_
  rintro n0 l0 ⟨i, c, out, ⟨hi1, hi2, hi3, hi4, hi5, hi6⟩, rfl, rfl⟩
  have hx := Lm.G_get gb i
  have hy := Lm.G_get ga i
  have hy0 := Lm.getD_out a (i := i)
  refine Xe ?_
  refine rt [tv 0 (Xj b), tv 1 (Xj a), tv 4 .nil, tv 5 (.own 18 1), tv 6 (kw c), tv 7 (ki ((i : Nat) : Int)), tv 22 (.bool (decide (((i : Nat) : Int) < ((b.length : Nat) : Int)))), ov 18 (Xj out)] (oT 2 (oO (aI trivial (Yx _ : ((b.length : Nat) : Int) = (((uw b).length : Nat) : Int))) (oO (oB (decide (((i : Nat) : Int) < ((b.length : Nat) : Int)))) (oA [.tup [ki ((b.length : Nat) : Int)], cT (decide (((i : Nat) : Int) < ((b.length : Nat) : Int)))] oN)))) ?_
  refine cB (decide (((i : Nat) : Int) < ((b.length : Nat) : Int))) (fun h2 => ?_) (fun h2 => ?_)
  ·
   have h2' := of_decide_eq_true h2
   refine Xn ?_
   refine Xe ?_
   refine X6 ?_
   refine rt [tv 0 (Xj b), tv 1 (Xj a), tv 4 .nil, tv 5 (.own 18 1), tv 6 (kw (c + b.getD i 0)), tv 7 (ki ((i : Nat) : Int)), ov 18 (Xj out)] (oT 3 (oO (J0 i (by omega) (Zj (by (try simp only [List.length_set, List.length_append, List.length_cons, List.length_nil, List.length_replicate]); omega)) : (0 : Int) ≤ ((i : Nat) : Int) ∧ (uw b)[Int.toNat ((i : Nat) : Int)]? = some (kw (b.getD i 0))) (oT 1 (oO (Xa4 (x := c) (y := (b.getD i 0)) (by omega) (by omega)) (oT 1 (oA [kw (b.getD i 0), kw (c + b.getD i 0)] oN)))))) ?_
   refine Xe ?_
   refine rt [tv 0 (Xj b), tv 1 (Xj a), tv 4 .nil, tv 5 (.own 18 1), tv 6 (kw (c + b.getD i 0)), tv 7 (ki ((i : Nat) : Int)), tv 34 (.bool (decide (((i : Nat) : Int) < ((a.length : Nat) : Int)))), ov 18 (Xj out)] (oT 2 (oO (aI trivial (Yx _ : ((a.length : Nat) : Int) = (((uw a).length : Nat) : Int))) (oO (oB (decide (((i : Nat) : Int) < ((a.length : Nat) : Int)))) (oA [.tup [ki ((a.length : Nat) : Int)], cT (decide (((i : Nat) : Int) < ((a.length : Nat) : Int)))] oN)))) ?_
   refine cB (decide (((i : Nat) : Int) < ((a.length : Nat) : Int))) (fun h3 => ?_) (fun h3 => ?_)
   ·
    have h3' := of_decide_eq_true h3
    refine rh [tv 0 (Xj b), tv 1 (Xj a), tv 4 .nil, tv 5 (.own 18 1), tv 6 (kw ((c + b.getD i 0) + a.getD i 0)), tv 7 (ki ((i : Nat) : Int)), ov 18 (Xj out)] (oT 3 (oO (J0 i (by omega) (Zj (by (try simp only [List.length_set, List.length_append, List.length_cons, List.length_nil, List.length_replicate]); omega)) : (0 : Int) ≤ ((i : Nat) : Int) ∧ (uw a)[Int.toNat ((i : Nat) : Int)]? = some (kw (a.getD i 0))) (oT 1 (oO (Xa4 (x := (c + b.getD i 0)) (y := (a.getD i 0)) (by omega) (by omega)) (oT 1 (oA [kw (a.getD i 0), kw ((c + b.getD i 0) + a.getD i 0)] oN)))))) ?_
    refine rt [tv 0 (Xj b), tv 1 (Xj a), tv 4 .nil, tv 5 (.own 18 1), tv 6 (kw ((c + b.getD i 0) + a.getD i 0)), tv 7 (ki ((i : Nat) : Int)), ov 18 (Xj (out.set i (((c + b.getD i 0) + a.getD i 0) % 1000000000)))] (oT 3 (oO (Xis (x := ((c + b.getD i 0) + a.getD i 0)) (y := 1000000000) (by omega) (by omega) trivial) (oO (Xb9 i (by omega) (by simp only [J1]; (try simp only [List.length_set, List.length_append, List.length_cons, List.length_nil, List.length_replicate]); omega) : (0 : Int) ≤ ((i : Nat) : Int) ∧ Int.toNat ((i : Nat) : Int) < (uw out).length) (oO (aI (Zj (by (try simp only [List.length_set, List.length_append, List.length_cons, List.length_nil, List.length_replicate]); omega) : (uw out)[i]? = some (kw (out.getD i 0))) (Xbt _ _ _ : (uw (out.set i (((c + b.getD i 0) + a.getD i 0) % 1000000000))) = (uw out).set i (kw (((c + b.getD i 0) + a.getD i 0) % 1000000000)))) (oA [kw (((c + b.getD i 0) + a.getD i 0) % 1000000000), .tup [.sl 1 (uw (out.set i (((c + b.getD i 0) + a.getD i 0) % 1000000000)))], kw (out.getD i 0)] oN))))) ?_
    refine rh [tv 0 (Xj b), tv 1 (Xj a), tv 4 .nil, tv 5 (.own 18 1), tv 6 (kw (((c + b.getD i 0) + a.getD i 0) / 1000000000)), tv 7 (ki ((i : Nat) : Int)), ov 18 (Xj (out.set i (((c + b.getD i 0) + a.getD i 0) % 1000000000)))] (oT 1 (oO (Xin (x := ((c + b.getD i 0) + a.getD i 0)) (y := 1000000000) (by omega) (by omega) (by omega)) (oT 1 (oA [kw (((c + b.getD i 0) + a.getD i 0) / 1000000000)] oN)))) ?_
    refine rh [tv 0 (Xj b), tv 1 (Xj a), tv 4 .nil, tv 5 (.own 18 1), tv 6 (kw (((c + b.getD i 0) + a.getD i 0) / 1000000000)), tv 7 (ki ((i + 1 : Nat) : Int)), ov 18 (Xj (out.set i (((c + b.getD i 0) + a.getD i 0) % 1000000000)))] (oT 1 (oO (X3 (x := ((i : Nat) : Int)) (y := 1) (by omega) (by omega)) (oT 1 (oA [ki ((i + 1 : Nat) : Int)] oN)))) ?_
    exact ⟨b.length - (i + 1), [tv 0 (Xj b), tv 1 (Xj a), tv 4 .nil, tv 5 (.own 18 1), tv 6 (kw (((c + b.getD i 0) + a.getD i 0) / 1000000000)), tv 7 (ki ((i + 1 : Nat) : Int)), ov 18 (Xj (out.set i (((c + b.getD i 0) + a.getD i 0) % 1000000000)))], (by omega), rfl, (by kernel_rfl), i + 1, ((c + b.getD i 0) + a.getD i 0) / 1000000000, out.set i (((c + b.getD i 0) + a.getD i 0) % 1000000000), ⟨by omega, by omega, by omega, Lm.G_set hi4 _ (by omega) (by omega), by simp [hi5], by rw [Lm.P_succ, Lm.V_take_next b, Lm.V_take_next a]; refine Lm.add_step hi6 ?_ (Lm.V_set_take _ (by omega)); omega⟩, rfl, (by kernel_rfl)⟩
   ·
    have h3' := of_decide_eq_false h3
    refine Xn ?_
    refine rt [tv 0 (Xj b), tv 1 (Xj a), tv 4 .nil, tv 5 (.own 18 1), tv 6 (kw (c + b.getD i 0)), tv 7 (ki ((i : Nat) : Int)), ov 18 (Xj (out.set i ((c + b.getD i 0) % 1000000000)))] (oT 3 (oO (Xis (x := (c + b.getD i 0)) (y := 1000000000) (by omega) (by omega) trivial) (oO (Xb9 i (by omega) (by simp only [J1]; (try simp only [List.length_set, List.length_append, List.length_cons, List.length_nil, List.length_replicate]); omega) : (0 : Int) ≤ ((i : Nat) : Int) ∧ Int.toNat ((i : Nat) : Int) < (uw out).length) (oO (aI (Zj (by (try simp only [List.length_set, List.length_append, List.length_cons, List.length_nil, List.length_replicate]); omega) : (uw out)[i]? = some (kw (out.getD i 0))) (Xbt _ _ _ : (uw (out.set i ((c + b.getD i 0) % 1000000000))) = (uw out).set i (kw ((c + b.getD i 0) % 1000000000)))) (oA [kw ((c + b.getD i 0) % 1000000000), .tup [.sl 1 (uw (out.set i ((c + b.getD i 0) % 1000000000)))], kw (out.getD i 0)] oN))))) ?_
    refine rh [tv 0 (Xj b), tv 1 (Xj a), tv 4 .nil, tv 5 (.own 18 1), tv 6 (kw ((c + b.getD i 0) / 1000000000)), tv 7 (ki ((i : Nat) : Int)), ov 18 (Xj (out.set i ((c + b.getD i 0) % 1000000000)))] (oT 1 (oO (Xin (x := (c + b.getD i 0)) (y := 1000000000) (by omega) (by omega) (by omega)) (oT 1 (oA [kw ((c + b.getD i 0) / 1000000000)] oN)))) ?_
    refine rh [tv 0 (Xj b), tv 1 (Xj a), tv 4 .nil, tv 5 (.own 18 1), tv 6 (kw ((c + b.getD i 0) / 1000000000)), tv 7 (ki ((i + 1 : Nat) : Int)), ov 18 (Xj (out.set i ((c + b.getD i 0) % 1000000000)))] (oT 1 (oO (X3 (x := ((i : Nat) : Int)) (y := 1) (by omega) (by omega)) (oT 1 (oA [ki ((i + 1 : Nat) : Int)] oN)))) ?_
    exact ⟨b.length - (i + 1), [tv 0 (Xj b), tv 1 (Xj a), tv 4 .nil, tv 5 (.own 18 1), tv 6 (kw ((c + b.getD i 0) / 1000000000)), tv 7 (ki ((i + 1 : Nat) : Int)), ov 18 (Xj (out.set i ((c + b.getD i 0) % 1000000000)))], (by omega), rfl, (by kernel_rfl), i + 1, (c + b.getD i 0) / 1000000000, out.set i ((c + b.getD i 0) % 1000000000), ⟨by omega, by omega, by omega, Lm.G_set hi4 _ (by omega) (by omega), by simp [hi5], by rw [Lm.P_succ, Lm.V_take_next b, Lm.V_take_next a]; refine Lm.add_step hi6 ?_ (Lm.V_set_take _ (by omega)); omega⟩, rfl, (by kernel_rfl)⟩
  ·
   have h2' := of_decide_eq_false h2
   refine Z3 ?_
   refine sh 2 [tv 4 (Xj (Lm.trim (out.set b.length c)))] (oS (oT 2 (oO (aI trivial (Yx _ : ((b.length : Nat) : Int) = (((uw b).length : Nat) : Int))) (oT 1 (oO (Xb9 b.length (by omega) (by simp only [J1]; (try simp only [List.length_set, List.length_append, List.length_cons, List.length_nil, List.length_replicate]); omega) : (0 : Int) ≤ ((b.length : Nat) : Int) ∧ Int.toNat ((b.length : Nat) : Int) < (uw out).length) (oO (aI (Zj (by (try simp only [List.length_set, List.length_append, List.length_cons, List.length_nil, List.length_replicate]); omega) : (uw out)[b.length]? = some (kw (out.getD b.length 0))) (Xbt _ _ _ : (uw (out.set b.length c)) = (uw out).set b.length (kw c))) oN))))) (oS (oT 1 (oA [.tup [ki ((b.length : Nat) : Int)], .tup [.sl 1 (uw (out.set b.length c))], kw (out.getD b.length 0)] (oC (Xbn (out.set b.length c) (by simp only [List.length_set]; omega)) (oT 1 oN)))) oN)) ?_
   refine Xg ?_
   have hil : i = b.length := by omega
   rw [Lm.V_take_all b (by omega), Lm.V_take_all a (by omega)] at hi6
   subst hil
   have hg2 := Lm.G_set hi4 b.length (x := c) (by omega) (by omega)
   have hv2 := Lm.V_set_take c (show b.length < out.length by omega)
   rw [Lm.V_take_all _ (by simp only [List.length_set]; omega)] at hv2
   exact X7i ((Xj (Lm.trim (out.set b.length c)))) (congrArg Xj ((Lm.trim_digs hg2).trans (by rw [show Lm.V (out.set b.length c) = Lm.V a + Lm.V b by omega])))
 ·
  have h1' := of_decide_eq_false h1
  refine Xn ?_
  refine sh 2 [tv 0 (Xj a), tv 1 (Xj b), tv 4 .nil, tv 5 (.own 18 1), tv 6 (kw 0), ov 18 (Xj (List.replicate (a.length + 1) 0))] (oS (oT 1 (oO (aI trivial (Yx _ : ((a.length : Nat) : Int) = (((uw a).length : Nat) : Int))) (oO (X3 (x := ((a.length : Nat) : Int)) (y := 1) (by omega) (by omega)) (oO (aI (show (0 : Int) ≤ ((a.length + 1 : Nat) : Int) ∧ (((a.length + 1 : Nat) : Int) : Int) ≤ ((a.length + 1 : Nat) : Int) ∧ 4 * Int.toNat ((a.length + 1 : Nat) : Int) ≤ 281474976710656 by omega) (Xic (a.length + 1) (by omega) : (uw (List.replicate (a.length + 1) 0)) = List.replicate (Int.toNat ((a.length + 1 : Nat) : Int)) (kw 0))) (oT 1 oN))))) (oS (oT 1 (oA [.tup [ki ((a.length : Nat) : Int)], ki ((a.length + 1 : Nat) : Int), .tup [.sl 1 (uw (List.replicate (a.length + 1) 0))]] oN)) oN)) ?_
  refine Xe ?_
  refine rt [tv 0 (Xj a), tv 1 (Xj b), tv 4 .nil, tv 5 (.own 18 1), tv 6 (kw 0), tv 7 (ki 0), ov 18 (Xj (List.replicate (a.length + 1) 0))] (oT 1 oN) ?_
  refine X6 ?_
  have hle : b.length ≤ a.length := by omega
  refine Z0 (fun n0 l0 => ∃ (i : Nat) (c : Int) (out : List Int), (i ≤ a.length ∧ 0 ≤ c ∧ c ≤ 1 ∧ Lm.G out ∧ out.length = a.length + 1 ∧ Lm.V (out.take i) + Lm.P i * c = Lm.V (a.take i) + Lm.V (b.take i)) ∧ (a.length - i) = n0 ∧ l0 = [tv 0 (Xj a), tv 1 (Xj b), tv 4 .nil, tv 5 (.own 18 1), tv 6 (kw c), tv 7 (ki ((i : Nat) : Int)), ov 18 (Xj out)]) (n := (a.length - 0)) (by kernel_rfl) ⟨0, 0, List.replicate (a.length + 1) 0, ⟨by omega, by omega, by omega, Lm.G_zeros _, by simp, by simp [Lm.V]⟩, rfl, (by kernel_rfl)⟩ ?_
  rintro n0 l0 ⟨i, c, out, ⟨hi1, hi2, hi3, hi4, hi5, hi6⟩, rfl, rfl⟩
  have hx := Lm.G_get ga i
  have hy := Lm.G_get gb i
  have hy0 := Lm.getD_out b (i := i)
  refine Xe ?_
  refine rt [tv 0 (Xj a), tv 1 (Xj b), tv 4 .nil, tv 5 (.own 18 1), tv 6 (kw c), tv 7 (ki ((i : Nat) : Int)), tv 22 (.bool (decide (((i : Nat) : Int) < ((a.length : Nat) : Int)))), ov 18 (Xj out)] (oT 2 (oO (aI trivial (Yx _ : ((a.length : Nat) : Int) = (((uw a).length : Nat) : Int))) (oO (oB (decide (((i : Nat) : Int) < ((a.length : Nat) : Int)))) (oA [.tup [ki ((a.length : Nat) : Int)], cT (decide (((i : Nat) : Int) < ((a.length : Nat) : Int)))] oN)))) ?_
  refine cB (decide (((i : Nat) : Int) < ((a.length : Nat) : Int))) (fun h4 => ?_) (fun h4 => ?_)
  ·
   have h4' := of_decide_eq_true h4
   refine Xn ?_
   refine Xe ?_
   refine X6 ?_
   refine rt [tv 0 (Xj a), tv 1 (Xj b), tv 4 .nil, tv 5 (.own 18 1), tv 6 (kw (c + a.getD i 0)), tv 7 (ki ((i : Nat) : Int)), ov 18 (Xj out)] (oT 3 (oO (J0 i (by omega) (Zj (by (try simp only [List.length_set, List.length_append, List.length_cons, List.length_nil, List.length_replicate]); omega)) : (0 : Int) ≤ ((i : Nat) : Int) ∧ (uw a)[Int.toNat ((i : Nat) : Int)]? = some (kw (a.getD i 0))) (oT 1 (oO (Xa4 (x := c) (y := (a.getD i 0)) (by omega) (by omega)) (oT 1 (oA [kw (a.getD i 0), kw (c + a.getD i 0)] oN)))))) ?_
   refine Xe ?_
   refine rt [tv 0 (Xj a), tv 1 (Xj b), tv 4 .nil, tv 5 (.own 18 1), tv 6 (kw (c + a.getD i 0)), tv 7 (ki ((i : Nat) : Int)), tv 34 (.bool (decide (((i : Nat) : Int) < ((b.length : Nat) : Int)))), ov 18 (Xj out)] (oT 2 (oO (aI trivial (Yx _ : ((b.length : Nat) : Int) = (((uw b).length : Nat) : Int))) (oO (oB (decide (((i : Nat) : Int) < ((b.length : Nat) : Int)))) (oA [.tup [ki ((b.length : Nat) : Int)], cT (decide (((i : Nat) : Int) < ((b.length : Nat) : Int)))] oN)))) ?_
   refine cB (decide (((i : Nat) : Int) < ((b.length : Nat) : Int))) (fun h5 => ?_) (fun h5 => ?_)
   ·
    have h5' := of_decide_eq_true h5
    refine rh [tv 0 (Xj a), tv 1 (Xj b), tv 4 .nil, tv 5 (.own 18 1), tv 6 (kw ((c + a.getD i 0) + b.getD i 0)), tv 7 (ki ((i : Nat) : Int)), ov 18 (Xj out)] (oT 3 (oO (J0 i (by omega) (Zj (by (try simp only [List.length_set, List.length_append, List.length_cons, List.length_nil, List.length_replicate]); omega)) : (0 : Int) ≤ ((i : Nat) : Int) ∧ (uw b)[Int.toNat ((i : Nat) : Int)]? = some (kw (b.getD i 0))) (oT 1 (oO (Xa4 (x := (c + a.getD i 0)) (y := (b.getD i 0)) (by omega) (by omega)) (oT 1 (oA [kw (b.getD i 0), kw ((c + a.getD i 0) + b.getD i 0)] oN)))))) ?_
    refine rt [tv 0 (Xj a), tv 1 (Xj b), tv 4 .nil, tv 5 (.own 18 1), tv 6 (kw ((c + a.getD i 0) + b.getD i 0)), tv 7 (ki ((i : Nat) : Int)), ov 18 (Xj (out.set i (((c + a.getD i 0) + b.getD i 0) % 1000000000)))] (oT 3 (oO (Xis (x := ((c + a.getD i 0) + b.getD i 0)) (y := 1000000000) (by omega) (by omega) trivial) (oO (Xb9 i (by omega) (by simp only [J1]; (try simp only [List.length_set, List.length_append, List.length_cons, List.length_nil, List.length_replicate]); omega) : (0 : Int) ≤ ((i : Nat) : Int) ∧ Int.toNat ((i : Nat) : Int) < (uw out).length) (oO (aI (Zj (by (try simp only [List.length_set, List.length_append, List.length_cons, List.length_nil, List.length_replicate]); omega) : (uw out)[i]? = some (kw (out.getD i 0))) (Xbt _ _ _ : (uw (out.set i (((c + a.getD i 0) + b.getD i 0) % 1000000000))) = (uw out).set i (kw (((c + a.getD i 0) + b.getD i 0) % 1000000000)))) (oA [kw (((c + a.getD i 0) + b.getD i 0) % 1000000000), .tup [.sl 1 (uw (out.set i (((c + a.getD i 0) + b.getD i 0) % 1000000000)))], kw (out.getD i 0)] oN))))) ?_
    refine rh [tv 0 (Xj a), tv 1 (Xj b), tv 4 .nil, tv 5 (.own 18 1), tv 6 (kw (((c + a.getD i 0) + b.getD i 0) / 1000000000)), tv 7 (ki ((i : Nat) : Int)), ov 18 (Xj (out.set i (((c + a.getD i 0) + b.getD i 0) % 1000000000)))] (oT 1 (oO (Xin (x := ((c + a.getD i 0) + b.getD i 0)) (y := 1000000000) (by omega) (by omega) (by omega)) (oT 1 (oA [kw (((c + a.getD i 0) + b.getD i 0) / 1000000000)] oN)))) ?_
    refine rh [tv 0 (Xj a), tv 1 (Xj b), tv 4 .nil, tv 5 (.own 18 1), tv 6 (kw (((c + a.getD i 0) + b.getD i 0) / 1000000000)), tv 7 (ki ((i + 1 : Nat) : Int)), ov 18 (Xj (out.set i (((c + a.getD i 0) + b.getD i 0) % 1000000000)))] (oT 1 (oO (X3 (x := ((i : Nat) : Int)) (y := 1) (by omega) (by omega)) (oT 1 (oA [ki ((i + 1 : Nat) : Int)] oN)))) ?_
    exact ⟨a.length - (i + 1), [tv 0 (Xj a), tv 1 (Xj b), tv 4 .nil, tv 5 (.own 18 1), tv 6 (kw (((c + a.getD i 0) + b.getD i 0) / 1000000000)), tv 7 (ki ((i + 1 : Nat) : Int)), ov 18 (Xj (out.set i (((c + a.getD i 0) + b.getD i 0) % 1000000000)))], (by omega), rfl, (by kernel_rfl), i + 1, ((c + a.getD i 0) + b.getD i 0) / 1000000000, out.set i (((c + a.getD i 0) + b.getD i 0) % 1000000000), ⟨by omega, by omega, by omega, Lm.G_set hi4 _ (by omega) (by omega), by simp [hi5], by rw [Lm.P_succ, Lm.V_take_next a, Lm.V_take_next b]; refine Lm.add_step hi6 ?_ (Lm.V_set_take _ (by omega)); omega⟩, rfl, (by kernel_rfl)⟩
   ·
    have h5' := of_decide_eq_false h5
    refine Xn ?_
    refine rt [tv 0 (Xj a), tv 1 (Xj b), tv 4 .nil, tv 5 (.own 18 1), tv 6 (kw (c + a.getD i 0)), tv 7 (ki ((i : Nat) : Int)), ov 18 (Xj (out.set i ((c + a.getD i 0) % 1000000000)))] (oT 3 (oO (Xis (x := (c + a.getD i 0)) (y := 1000000000) (by omega) (by omega) trivial) (oO (Xb9 i (by omega) (by simp only [J1]; (try simp only [List.length_set, List.length_append, List.length_cons, List.length_nil, List.length_replicate]); omega) : (0 : Int) ≤ ((i : Nat) : Int) ∧ Int.toNat ((i : Nat) : Int) < (uw out).length) (oO (aI (Zj (by (try simp only [List.length_set, List.length_append, List.length_cons, List.length_nil, List.length_replicate]); omega) : (uw out)[i]? = some (kw (out.getD i 0))) (Xbt _ _ _ : (uw (out.set i ((c + a.getD i 0) % 1000000000))) = (uw out).set i (kw ((c + a.getD i 0) % 1000000000)))) (oA [kw ((c + a.getD i 0) % 1000000000), .tup [.sl 1 (uw (out.set i ((c + a.getD i 0) % 1000000000)))], kw (out.getD i 0)] oN))))) ?_
    refine rh [tv 0 (Xj a), tv 1 (Xj b), tv 4 .nil, tv 5 (.own 18 1), tv 6 (kw ((c + a.getD i 0) / 1000000000)), tv 7 (ki ((i : Nat) : Int)), ov 18 (Xj (out.set i ((c + a.getD i 0) % 1000000000)))] (oT 1 (oO (Xin (x := (c + a.getD i 0)) (y := 1000000000) (by omega) (by omega) (by omega)) (oT 1 (oA [kw ((c + a.getD i 0) / 1000000000)] oN)))) ?_
    refine rh [tv 0 (Xj a), tv 1 (Xj b), tv 4 .nil, tv 5 (.own 18 1), tv 6 (kw ((c + a.getD i 0) / 1000000000)), tv 7 (ki ((i + 1 : Nat) : Int)), ov 18 (Xj (out.set i ((c + a.getD i 0) % 1000000000)))] (oT 1 (oO (X3 (x := ((i : Nat) : Int)) (y := 1) (by omega) (by omega)) (oT 1 (oA [ki ((i + 1 : Nat) : Int)] oN)))) ?_
    exact ⟨a.length - (i + 1), [tv 0 (Xj a), tv 1 (Xj b), tv 4 .nil, tv 5 (.own 18 1), tv 6 (kw ((c + a.getD i 0) / 1000000000)), tv 7 (ki ((i + 1 : Nat) : Int)), ov 18 (Xj (out.set i ((c + a.getD i 0) % 1000000000)))], (by omega), rfl, (by kernel_rfl), i + 1, (c + a.getD i 0) / 1000000000, out.set i ((c + a.getD i 0) % 1000000000), ⟨by omega, by omega, by omega, Lm.G_set hi4 _ (by omega) (by omega), by simp [hi5], by rw [Lm.P_succ, Lm.V_take_next a, Lm.V_take_next b]; refine Lm.add_step hi6 ?_ (Lm.V_set_take _ (by omega)); omega⟩, rfl, (by kernel_rfl)⟩
  ·
   have h4' := of_decide_eq_false h4
   refine Z3 ?_
   refine sh 2 [tv 4 (Xj (Lm.trim (out.set a.length c)))] (oS (oT 2 (oO (aI trivial (Yx _ : ((a.length : Nat) : Int) = (((uw a).length : Nat) : Int))) (oT 1 (oO (Xb9 a.length (by omega) (by simp only [J1]; (try simp only [List.length_set, List.length_append, List.length_cons, List.length_nil, List.length_replicate]); omega) : (0 : Int) ≤ ((a.length : Nat) : Int) ∧ Int.toNat ((a.length : Nat) : Int) < (uw out).length) (oO (aI (Zj (by (try simp only [List.length_set, List.length_append, List.length_cons, List.length_nil, List.length_replicate]); omega) : (uw out)[a.length]? = some (kw (out.getD a.length 0))) (Xbt _ _ _ : (uw (out.set a.length c)) = (uw out).set a.length (kw c))) oN))))) (oS (oT 1 (oA [.tup [ki ((a.length : Nat) : Int)], .tup [.sl 1 (uw (out.set a.length c))], kw (out.getD a.length 0)] (oC (Xbn (out.set a.length c) (by simp only [List.length_set]; omega)) (oT 1 oN)))) oN)) ?_
   refine Xg ?_
   have hil : i = a.length := by omega
   rw [Lm.V_take_all a (by omega), Lm.V_take_all b (by omega)] at hi6
   subst hil
   have hg2 := Lm.G_set hi4 a.length (x := c) (by omega) (by omega)
   have hv2 := Lm.V_set_take c (show a.length < out.length by omega)
   rw [Lm.V_take_all _ (by simp only [List.length_set]; omega)] at hv2
   exact X7i ((Xj (Lm.trim (out.set a.length c)))) (congrArg Xj ((Lm.trim_digs hg2).trans (by rw [show Lm.V (out.set a.length c) = Lm.V a + Lm.V b by omega])))
open Go Go.RowKit
theorem Xhy (a b : List Int) (ga : Lm.G a) (gb : Lm.G b) (hs : a.length + b.length ≤ 4398046511104) : X7a Tryz.prog 248 [Xj a, Xj b] 1 (uw (Lm.dg (a.length + b.length) (Lm.V a * Lm.V b))) := by
 refine X4l (N := 68) Tryz.func248 rfl rfl rfl rfl rfl (Xo6 _) ?_
 refine sh 2 [tv 0 (Xj a), tv 1 (Xj b), tv 4 .nil, tv 5 (.own 17 1), ov 17 (Xj (List.replicate (a.length + b.length) 0))] (oS (oT 1 oN) (oS (oT 1 (oO (aI trivial (Yx _ : ((a.length : Nat) : Int) = (((uw a).length : Nat) : Int))) (oT 1 (oO (aI trivial (Yx _ : ((b.length : Nat) : Int) = (((uw b).length : Nat) : Int))) (oO (X3 (x := ((a.length : Nat) : Int)) (y := ((b.length : Nat) : Int)) (by omega) (by omega)) (oO (aI (show (0 : Int) ≤ ((a.length + b.length : Nat) : Int) ∧ (((a.length + b.length : Nat) : Int) : Int) ≤ ((a.length + b.length : Nat) : Int) ∧ 4 * Int.toNat ((a.length + b.length : Nat) : Int) ≤ 281474976710656 by omega) (Xic (a.length + b.length) (by omega) : (uw (List.replicate (a.length + b.length) 0)) = List.replicate (Int.toNat ((a.length + b.length : Nat) : Int)) (kw 0))) (oT 1 (oA [.tup [ki ((a.length : Nat) : Int)], .tup [ki ((b.length : Nat) : Int)], ki ((a.length + b.length : Nat) : Int), .tup [.sl 1 (uw (List.replicate (a.length + b.length) 0))]] oN)))))))) oN)) ?_
 refine Xe ?_
 refine rt [tv 1 (Xj b), tv 4 .nil, tv 5 (.own 17 1), tv 18 (Xj a), tv 19 (ki ((a.length : Nat) : Int)), tv 20 (ki 0), ov 17 (Xj (List.replicate (a.length + b.length) 0))] (oT 1 (oO (aI trivial (Yx _ : ((a.length : Nat) : Int) = (((uw a).length : Nat) : Int))) (oT 1 (oA [.tup [ki ((a.length : Nat) : Int)]] oN)))) ?_
 refine X6 ?_
 refine Z0 (fun n0 l0 => ∃ (i : Nat) (out : List Int), (i ≤ a.length ∧ Lm.G out ∧ out.length = a.length + b.length ∧ Lm.V out = Lm.V (a.take i) * Lm.V b) ∧ (a.length - i) = n0 ∧ l0 = [tv 1 (Xj b), tv 4 .nil, tv 5 (.own 17 1), tv 18 (Xj a), tv 19 (ki ((a.length : Nat) : Int)), tv 20 (ki ((i : Nat) : Int)), ov 17 (Xj out)]) (n := (a.length - 0)) (by kernel_rfl) ⟨0, List.replicate (a.length + b.length) 0, ⟨by omega, Lm.G_zeros _, by simp, by rw [Lm.V_zeros]; simp⟩, rfl, (by kernel_rfl)⟩ ?_
 rintro n0 l0 ⟨i, out, ⟨hi1, hi2, hi3, hi4⟩, rfl, rfl⟩
 have hx := Lm.G_get ga i
 refine rt [tv 1 (Xj b), tv 4 .nil, tv 5 (.own 17 1), tv 18 (Xj a), tv 19 (ki ((a.length : Nat) : Int)), tv 20 (ki ((i : Nat) : Int)), tv 21 (.bool (decide (((i : Nat) : Int) < ((a.length : Nat) : Int)))), ov 17 (Xj out)] (oO (oB (decide (((i : Nat) : Int) < ((a.length : Nat) : Int)))) (oA [cT (decide (((i : Nat) : Int) < ((a.length : Nat) : Int)))] oN)) ?_
 refine Xe (cB (decide (((i : Nat) : Int) < ((a.length : Nat) : Int))) (fun h1 => ?_) (fun h1 => ?_))
 ·
  have h1' := of_decide_eq_true h1
  refine Xn ?_
  refine Xe ?_
  refine X6 ?_
  refine sh 2 [tv 1 (Xj b), tv 4 .nil, tv 5 (.own 17 1), tv 6 (ki ((i : Nat) : Int)), tv 7 (kw (a.getD i 0)), tv 8 (ku 0), tv 18 (Xj a), tv 19 (ki ((a.length : Nat) : Int)), tv 20 (ki ((i : Nat) : Int)), ov 17 (Xj out)] (oS (oT 1 (oO (J0 i (by omega) (Zj (by (try simp only [List.length_set, List.length_append, List.length_cons, List.length_nil, List.length_replicate]); omega)) : (0 : Int) ≤ ((i : Nat) : Int) ∧ (uw a)[Int.toNat ((i : Nat) : Int)]? = some (kw (a.getD i 0))) (oT 3 oN))) (oS (oT 1 (oA [kw (a.getD i 0)] oN)) oN)) ?_
  refine Xe ?_
  refine rt [tv 1 (Xj b), tv 4 .nil, tv 5 (.own 17 1), tv 6 (ki ((i : Nat) : Int)), tv 7 (kw (a.getD i 0)), tv 8 (ku 0), tv 18 (Xj a), tv 19 (ki ((a.length : Nat) : Int)), tv 20 (ki ((i : Nat) : Int)), tv 25 (Xj b), tv 26 (ki ((b.length : Nat) : Int)), tv 27 (ki 0), ov 17 (Xj out)] (oT 1 (oO (aI trivial (Yx _ : ((b.length : Nat) : Int) = (((uw b).length : Nat) : Int))) (oT 1 (oA [.tup [ki ((b.length : Nat) : Int)]] oN)))) ?_
  refine X6 ?_
  have hz : out.getD (i + b.length) 0 = 0 := by
   refine Lm.high_zero hi2 ?_
   rw [hi4, Lm.P_add]
   have h1 := Lm.V_bound (Lm.G_take ga i)
   rw [List.length_take, Nat.min_eq_left hi1] at h1
   have h2 := Lm.V_bound gb
   exact Lm.mul_lt h1.1 h1.2 h2.1 h2.2
  refine Z0 (fun n0 l0 => ∃ (k : Nat) (c : Int) (out2 : List Int), (k ≤ b.length ∧ Lm.G out2 ∧ out2.length = a.length + b.length ∧ 0 ≤ c ∧ c < 1000000000 ∧ Lm.V out2 + Lm.P (i + k) * c = Lm.V (a.take i) * Lm.V b + Lm.P i * a.getD i 0 * Lm.V (b.take k) ∧ out2.getD (i + b.length) 0 = 0) ∧ (b.length - k) = n0 ∧ l0 = [tv 1 (Xj b), tv 4 .nil, tv 5 (.own 17 1), tv 6 (ki ((i : Nat) : Int)), tv 7 (kw (a.getD i 0)), tv 8 (ku c), tv 18 (Xj a), tv 19 (ki ((a.length : Nat) : Int)), tv 20 (ki ((i : Nat) : Int)), tv 25 (Xj b), tv 26 (ki ((b.length : Nat) : Int)), tv 27 (ki ((k : Nat) : Int)), ov 17 (Xj out2)]) (n := (b.length - 0)) (by kernel_rfl) ⟨0, 0, out, ⟨by omega, hi2, hi3, by omega, by omega, by rw [← hi4]; simp [Lm.V], hz⟩, rfl, (by kernel_rfl)⟩ ?_
  rintro n0 l0 ⟨k, c, out2, ⟨hk1, hk2, hk3, hk4, hk5, hk6, hk7⟩, rfl, rfl⟩
  have hy := Lm.G_get gb k
  have ho := Lm.G_get hk2 (i + k)
  have hm := Lm.mul_fits ho hx hy ⟨hk4, hk5⟩
  refine rt [tv 1 (Xj b), tv 4 .nil, tv 5 (.own 17 1), tv 6 (ki ((i : Nat) : Int)), tv 7 (kw (a.getD i 0)), tv 8 (ku c), tv 18 (Xj a), tv 19 (ki ((a.length : Nat) : Int)), tv 20 (ki ((i : Nat) : Int)), tv 25 (Xj b), tv 26 (ki ((b.length : Nat) : Int)), tv 27 (ki ((k : Nat) : Int)), tv 28 (.bool (decide (((k : Nat) : Int) < ((b.length : Nat) : Int)))), ov 17 (Xj out2)] (oO (oB (decide (((k : Nat) : Int) < ((b.length : Nat) : Int)))) (oA [cT (decide (((k : Nat) : Int) < ((b.length : Nat) : Int)))] oN)) ?_
  refine Xe (cB (decide (((k : Nat) : Int) < ((b.length : Nat) : Int))) (fun h2 => ?_) (fun h2 => ?_))
  ·
   have h2' := of_decide_eq_true h2
   refine Xn ?_
   refine Xe ?_
   refine X6 ?_
   refine sh 2 [tv 1 (Xj b), tv 4 .nil, tv 5 (.own 17 1), tv 6 (ki ((i : Nat) : Int)), tv 7 (kw (a.getD i 0)), tv 8 (ku c), tv 9 (ki ((k : Nat) : Int)), tv 11 (ku ((out2.getD (i + k) 0 + (a.getD i 0 * b.getD k 0)) + c)), tv 18 (Xj a), tv 19 (ki ((a.length : Nat) : Int)), tv 20 (ki ((i : Nat) : Int)), tv 25 (Xj b), tv 26 (ki ((b.length : Nat) : Int)), tv 27 (ki ((k : Nat) : Int)), ov 17 (Xj out2)] (oS (oT 1 (oO (J0 k (by omega) (Zj (by (try simp only [List.length_set, List.length_append, List.length_cons, List.length_nil, List.length_replicate]); omega)) : (0 : Int) ≤ ((k : Nat) : Int) ∧ (uw b)[Int.toNat ((k : Nat) : Int)]? = some (kw (b.getD k 0))) (oT 3 oN))) (oS (oT 3 (oO (X3 (x := ((i : Nat) : Int)) (y := ((k : Nat) : Int)) (by omega) (by omega)) (oO (Xb9 (i + k) (by omega) (by simp only [J1]; (try simp only [List.length_set, List.length_append, List.length_cons, List.length_nil, List.length_replicate]); omega) : (0 : Int) ≤ ((i + k : Nat) : Int) ∧ Int.toNat ((i + k : Nat) : Int) < (uw out2).length) (oO (Zj (by (try simp only [List.length_set, List.length_append, List.length_cons, List.length_nil, List.length_replicate]); omega) : (uw out2)[i + k]? = some (kw (out2.getD (i + k) 0))) (oO ((Jj (by omega) (by omega)).symm : (out2.getD (i + k) 0) = IntKind.u64.wrap (out2.getD (i + k) 0)) (oT 1 (oO ((Jj (by omega) (by omega)).symm : (a.getD i 0) = IntKind.u64.wrap (a.getD i 0)) (oT 1 (oO ((Jj (by omega) (by omega)).symm : (b.getD k 0) = IntKind.u64.wrap (b.getD k 0)) (oO (Xaf (x := (a.getD i 0)) (y := (b.getD k 0)) (by omega) (by omega)) (oO (Jp (x := (out2.getD (i + k) 0)) (y := (a.getD i 0 * b.getD k 0)) (by omega) (by omega)) (oT 1 (oO (Jp (x := (out2.getD (i + k) 0 + (a.getD i 0 * b.getD k 0))) (y := c) (by omega) (by omega)) (oT 1 (oA [kw (b.getD k 0), ki ((i + k : Nat) : Int), kw (out2.getD (i + k) 0), ku (out2.getD (i + k) 0), ku (a.getD i 0), ku (b.getD k 0), ku (a.getD i 0 * b.getD k 0), ku (out2.getD (i + k) 0 + (a.getD i 0 * b.getD k 0)), ku ((out2.getD (i + k) 0 + (a.getD i 0 * b.getD k 0)) + c)] oN))))))))))))))) oN)) ?_
   refine rh [tv 1 (Xj b), tv 4 .nil, tv 5 (.own 17 1), tv 6 (ki ((i : Nat) : Int)), tv 7 (kw (a.getD i 0)), tv 8 (ku (((out2.getD (i + k) 0 + (a.getD i 0 * b.getD k 0)) + c) / 1000000000)), tv 18 (Xj a), tv 19 (ki ((a.length : Nat) : Int)), tv 20 (ki ((i : Nat) : Int)), tv 25 (Xj b), tv 26 (ki ((b.length : Nat) : Int)), tv 27 (ki ((k : Nat) : Int)), ov 17 (Xj (out2.set (i + k) (((out2.getD (i + k) 0 + (a.getD i 0 * b.getD k 0)) + c) % 1000000000)))] (oT 3 (oO (X3 (x := ((i : Nat) : Int)) (y := ((k : Nat) : Int)) (by omega) (by omega)) (oT 1 (oO (Xa0 (x := ((out2.getD (i + k) 0 + (a.getD i 0 * b.getD k 0)) + c)) (y := 1000000000) (by omega) (by omega) trivial) (oO ((K6 (by omega) (by omega)).symm : (((out2.getD (i + k) 0 + (a.getD i 0 * b.getD k 0)) + c) % 1000000000) = IntKind.u32.wrap (((out2.getD (i + k) 0 + (a.getD i 0 * b.getD k 0)) + c) % 1000000000)) (oT 1 (oO (Xae (x := ((out2.getD (i + k) 0 + (a.getD i 0 * b.getD k 0)) + c)) (y := 1000000000) (by omega) (by omega) (by omega)) (oO (Xb9 (i + k) (by omega) (by simp only [J1]; (try simp only [List.length_set, List.length_append, List.length_cons, List.length_nil, List.length_replicate]); omega) : (0 : Int) ≤ ((i + k : Nat) : Int) ∧ Int.toNat ((i + k : Nat) : Int) < (uw out2).length) (oO (aI (Zj (by (try simp only [List.length_set, List.length_append, List.length_cons, List.length_nil, List.length_replicate]); omega) : (uw out2)[i + k]? = some (kw (out2.getD (i + k) 0))) (Xbt _ _ _ : (uw (out2.set (i + k) (((out2.getD (i + k) 0 + (a.getD i 0 * b.getD k 0)) + c) % 1000000000))) = (uw out2).set (i + k) (kw (((out2.getD (i + k) 0 + (a.getD i 0 * b.getD k 0)) + c) % 1000000000)))) (oT 1 (oA [ki ((i + k : Nat) : Int), ku (((out2.getD (i + k) 0 + (a.getD i 0 * b.getD k 0)) + c) % 1000000000), kw (((out2.getD (i + k) 0 + (a.getD i 0 * b.getD k 0)) + c) % 1000000000), ku (((out2.getD (i + k) 0 + (a.getD i 0 * b.getD k 0)) + c) / 1000000000), .tup [.sl 1 (uw (out2.set (i + k) (((out2.getD (i + k) 0 + (a.getD i 0 * b.getD k 0)) + c) % 1000000000)))], kw (out2.getD (i + k) 0)] oN))))))))))) ?_
   refine rh [tv 1 (Xj b), tv 4 .nil, tv 5 (.own 17 1), tv 6 (ki ((i : Nat) : Int)), tv 7 (kw (a.getD i 0)), tv 8 (ku (((out2.getD (i + k) 0 + (a.getD i 0 * b.getD k 0)) + c) / 1000000000)), tv 18 (Xj a), tv 19 (ki ((a.length : Nat) : Int)), tv 20 (ki ((i : Nat) : Int)), tv 25 (Xj b), tv 26 (ki ((b.length : Nat) : Int)), tv 27 (ki ((k + 1 : Nat) : Int)), ov 17 (Xj (out2.set (i + k) (((out2.getD (i + k) 0 + (a.getD i 0 * b.getD k 0)) + c) % 1000000000)))] (oO (X3 (x := ((k : Nat) : Int)) (y := 1) (by omega) (by omega)) (oT 1 (oA [ki ((k + 1 : Nat) : Int)] oN))) ?_
   have hst := Lm.mul_step (n := Lm.V (out2.set (i + k) (((out2.getD (i + k) 0 + (a.getD i 0 * b.getD k 0)) + c) % 1000000000))) (t := ((out2.getD (i + k) 0 + (a.getD i 0 * b.getD k 0)) + c)) (w' := Lm.V (b.take (k + 1))) (b := out2.getD (i + k) 0) (x := a.getD i 0) (y := b.getD k 0) hk6 (by omega) (Lm.V_set _ _ _ (by omega)) (by rw [Lm.V_take_next, Lm.P_add]; grind)
   exact ⟨b.length - (k + 1), [tv 1 (Xj b), tv 4 .nil, tv 5 (.own 17 1), tv 6 (ki ((i : Nat) : Int)), tv 7 (kw (a.getD i 0)), tv 8 (ku (((out2.getD (i + k) 0 + (a.getD i 0 * b.getD k 0)) + c) / 1000000000)), tv 18 (Xj a), tv 19 (ki ((a.length : Nat) : Int)), tv 20 (ki ((i : Nat) : Int)), tv 25 (Xj b), tv 26 (ki ((b.length : Nat) : Int)), tv 27 (ki ((k + 1 : Nat) : Int)), ov 17 (Xj (out2.set (i + k) (((out2.getD (i + k) 0 + (a.getD i 0 * b.getD k 0)) + c) % 1000000000)))], (by omega), rfl, (by kernel_rfl), k + 1, ((out2.getD (i + k) 0 + (a.getD i 0 * b.getD k 0)) + c) / 1000000000, out2.set (i + k) (((out2.getD (i + k) 0 + (a.getD i 0 * b.getD k 0)) + c) % 1000000000), ⟨by omega, Lm.G_set hk2 _ (by omega) (by omega), by simp [hk3], by omega, by omega, by rw [← Nat.add_assoc, Lm.P_succ]; exact hst, by rw [List.getD_eq_getElem?_getD, List.getElem?_set_ne (by omega), ← List.getD_eq_getElem?_getD]; exact hk7⟩, rfl, (by kernel_rfl)⟩
  ·
   have h2' := of_decide_eq_false h2
   refine Z3 ?_
   refine rh [tv 1 (Xj b), tv 4 .nil, tv 5 (.own 17 1), tv 18 (Xj a), tv 19 (ki ((a.length : Nat) : Int)), tv 20 (ki ((i : Nat) : Int)), ov 17 (Xj (out2.set (i + b.length) c))] (oT 3 (oO (aI trivial (Yx _ : ((b.length : Nat) : Int) = (((uw b).length : Nat) : Int))) (oO (X3 (x := ((i : Nat) : Int)) (y := ((b.length : Nat) : Int)) (by omega) (by omega)) (oT 1 (oO ((K6 (by omega) (by omega)).symm : c = IntKind.u32.wrap c) (oO (Xb9 (i + b.length) (by omega) (by simp only [J1]; (try simp only [List.length_set, List.length_append, List.length_cons, List.length_nil, List.length_replicate]); omega) : (0 : Int) ≤ ((i + b.length : Nat) : Int) ∧ Int.toNat ((i + b.length : Nat) : Int) < (uw out2).length) (oO (aI (Zj (by (try simp only [List.length_set, List.length_append, List.length_cons, List.length_nil, List.length_replicate]); omega) : (uw out2)[i + b.length]? = some (kw (out2.getD (i + b.length) 0))) (Xbt _ _ _ : (uw (out2.set (i + b.length) c)) = (uw out2).set (i + b.length) (kw c))) (oA [.tup [ki ((b.length : Nat) : Int)], ki ((i + b.length : Nat) : Int), kw c, .tup [.sl 1 (uw (out2.set (i + b.length) c))], kw (out2.getD (i + b.length) 0)] oN)))))))) ?_
   refine rh [tv 1 (Xj b), tv 4 .nil, tv 5 (.own 17 1), tv 18 (Xj a), tv 19 (ki ((a.length : Nat) : Int)), tv 20 (ki ((i + 1 : Nat) : Int)), ov 17 (Xj (out2.set (i + b.length) c))] (oO (X3 (x := ((i : Nat) : Int)) (y := 1) (by omega) (by omega)) (oT 1 (oA [ki ((i + 1 : Nat) : Int)] oN))) ?_
   have hkl : k = b.length := by omega
   have hfin : Lm.V (out2.set (i + b.length) c) = Lm.V (a.take (i + 1)) * Lm.V b := by
    rw [Lm.V_set _ _ _ (by omega), hk7, Lm.V_take_next]
    rw [hkl, Lm.V_take_all b (by omega)] at hk6
    grind
   exact ⟨a.length - (i + 1), [tv 1 (Xj b), tv 4 .nil, tv 5 (.own 17 1), tv 18 (Xj a), tv 19 (ki ((a.length : Nat) : Int)), tv 20 (ki ((i + 1 : Nat) : Int)), ov 17 (Xj (out2.set (i + b.length) c))], (by omega), rfl, (by kernel_rfl), i + 1, out2.set (i + b.length) c, ⟨by omega, Lm.G_set hk2 _ (by omega) (by omega), by simp [hk3], hfin⟩, rfl, (by kernel_rfl)⟩
 ·
  have h1' := of_decide_eq_false h1
  refine Z3 ?_
  refine rt [tv 4 (.own 17 1), ov 17 (Xj out)] (oT 2 oN) ?_
  refine Xg ?_
  have hil : i = a.length := by omega
  rw [hil, Lm.V_take_all a (by omega)] at hi4
  exact ⟨4, 17, 1, rfl, (by kernel_rfl), Xxe (v := (Xj out)) (by kernel_rfl) (congrArg Xj (Lm.eq_dg hi2 hi3 hi4))⟩
theorem Xja (a b : List Int) (ga : Lm.G a) (gb : Lm.G b) (hs : a.length + b.length ≤ 4398046511104 := by omega) : CS Tryz.prog 248 [Xj a, Xj b] (Xj (Lm.dg (a.length + b.length) (Lm.V a * Lm.V b))) := Xzw (Xhy a b ga gb hs)
theorem Xn0 (a b : List Int) (ga : Lm.G a) (gb : Lm.G b) (hs : a.length + b.length ≤ 4398046511104 := by omega) : CS Tryz.prog 251 [Xj a, Xj b] (Xj (Lm.digs (Lm.V a * Lm.V b).natAbs)) := by
 refine cO 68 Tryz.func251 ?_
 refine sh 2 [tv 0 (Xj a), tv 1 (Xj b), tv 4 .nil, tv 5 (.own 14 1), ov 14 (Xj (List.replicate (a.length + b.length) 0))] (oS (oT 1 oN) (oS (oT 1 (oO (aI trivial (Yx _ : ((a.length : Nat) : Int) = (((uw a).length : Nat) : Int))) (oT 1 (oO (aI trivial (Yx _ : ((b.length : Nat) : Int) = (((uw b).length : Nat) : Int))) (oO (X3 (x := ((a.length : Nat) : Int)) (y := ((b.length : Nat) : Int)) (by omega) (by omega)) (oO (aI (show (0 : Int) ≤ ((a.length + b.length : Nat) : Int) ∧ (((a.length + b.length : Nat) : Int) : Int) ≤ ((a.length + b.length : Nat) : Int) ∧ 4 * Int.toNat ((a.length + b.length : Nat) : Int) ≤ 281474976710656 by omega) (Xic (a.length + b.length) (by omega) : (uw (List.replicate (a.length + b.length) 0)) = List.replicate (Int.toNat ((a.length + b.length : Nat) : Int)) (kw 0))) (oT 1 (oA [.tup [ki ((a.length : Nat) : Int)], .tup [ki ((b.length : Nat) : Int)], ki ((a.length + b.length : Nat) : Int), .tup [.sl 1 (uw (List.replicate (a.length + b.length) 0))]] oN)))))))) oN)) ?_
 refine Xe ?_
 refine rt [tv 0 (Xj a), tv 1 (Xj b), tv 4 .nil, tv 5 (.own 14 1), tv 6 (ki 0), ov 14 (Xj (List.replicate (a.length + b.length) 0))] (oT 1 oN) ?_
 refine X6 ?_
 refine Z0 (fun n0 l0 => ∃ (i : Nat) (out : List Int), (i ≤ a.length ∧ Lm.G out ∧ out.length = a.length + b.length ∧ Lm.V out = Lm.V (a.take i) * Lm.V b) ∧ (a.length - i) = n0 ∧ l0 = [tv 0 (Xj a), tv 1 (Xj b), tv 4 .nil, tv 5 (.own 14 1), tv 6 (ki ((i : Nat) : Int)), ov 14 (Xj out)]) (n := (a.length - 0)) (by kernel_rfl) ⟨0, List.replicate (a.length + b.length) 0, ⟨by omega, Lm.G_zeros _, by simp, by rw [Lm.V_zeros]; simp⟩, rfl, (by kernel_rfl)⟩ ?_
 rintro n0 l0 ⟨i, out, ⟨hi1, hi2, hi3, hi4⟩, rfl, rfl⟩
 have hx := Lm.G_get ga i
 refine Xe ?_
 refine rt [tv 0 (Xj a), tv 1 (Xj b), tv 4 .nil, tv 5 (.own 14 1), tv 6 (ki ((i : Nat) : Int)), tv 18 (.bool (decide (((i : Nat) : Int) < ((a.length : Nat) : Int)))), ov 14 (Xj out)] (oT 2 (oO (aI trivial (Yx _ : ((a.length : Nat) : Int) = (((uw a).length : Nat) : Int))) (oO (oB (decide (((i : Nat) : Int) < ((a.length : Nat) : Int)))) (oA [.tup [ki ((a.length : Nat) : Int)], cT (decide (((i : Nat) : Int) < ((a.length : Nat) : Int)))] oN)))) ?_
 refine cB (decide (((i : Nat) : Int) < ((a.length : Nat) : Int))) (fun h1 => ?_) (fun h1 => ?_)
 ·
  have h1' := of_decide_eq_true h1
  refine Xn ?_
  refine Xe ?_
  refine X6 ?_
  refine rt [tv 0 (Xj a), tv 1 (Xj b), tv 4 .nil, tv 5 (.own 14 1), tv 6 (ki ((i : Nat) : Int)), tv 7 (ku 0), ov 14 (Xj out)] (oT 1 oN) ?_
  refine Xe ?_
  refine rt [tv 0 (Xj a), tv 1 (Xj b), tv 4 .nil, tv 5 (.own 14 1), tv 6 (ki ((i : Nat) : Int)), tv 7 (ku 0), tv 8 (ki 0), ov 14 (Xj out)] (oT 1 oN) ?_
  refine X6 ?_
  have hz : out.getD (i + b.length) 0 = 0 := by
   refine Lm.high_zero hi2 ?_
   rw [hi4, Lm.P_add]
   have h1 := Lm.V_bound (Lm.G_take ga i)
   rw [List.length_take, Nat.min_eq_left hi1] at h1
   have h2 := Lm.V_bound gb
   exact Lm.mul_lt h1.1 h1.2 h2.1 h2.2
  refine Z0 (fun n0 l0 => ∃ (k : Nat) (c : Int) (out2 : List Int), (k ≤ b.length ∧ Lm.G out2 ∧ out2.length = a.length + b.length ∧ 0 ≤ c ∧ c < 1000000000 ∧ Lm.V out2 + Lm.P (i + k) * c = Lm.V (a.take i) * Lm.V b + Lm.P i * a.getD i 0 * Lm.V (b.take k) ∧ out2.getD (i + b.length) 0 = 0) ∧ (b.length - k) = n0 ∧ l0 = [tv 0 (Xj a), tv 1 (Xj b), tv 4 .nil, tv 5 (.own 14 1), tv 6 (ki ((i : Nat) : Int)), tv 7 (ku c), tv 8 (ki ((k : Nat) : Int)), ov 14 (Xj out2)]) (n := (b.length - 0)) (by kernel_rfl) ⟨0, 0, out, ⟨by omega, hi2, hi3, by omega, by omega, by rw [← hi4]; simp [Lm.V], hz⟩, rfl, (by kernel_rfl)⟩ ?_
  rintro n0 l0 ⟨k, c, out2, ⟨hk1, hk2, hk3, hk4, hk5, hk6, hk7⟩, rfl, rfl⟩
  have hy := Lm.G_get gb k
  have ho := Lm.G_get hk2 (i + k)
  have hm := Lm.mul_fits ho hx hy ⟨hk4, hk5⟩
  refine Xe ?_
  refine rt [tv 0 (Xj a), tv 1 (Xj b), tv 4 .nil, tv 5 (.own 14 1), tv 6 (ki ((i : Nat) : Int)), tv 7 (ku c), tv 8 (ki ((k : Nat) : Int)), tv 24 (.bool (decide (((k : Nat) : Int) < ((b.length : Nat) : Int)))), ov 14 (Xj out2)] (oT 2 (oO (aI trivial (Yx _ : ((b.length : Nat) : Int) = (((uw b).length : Nat) : Int))) (oO (oB (decide (((k : Nat) : Int) < ((b.length : Nat) : Int)))) (oA [.tup [ki ((b.length : Nat) : Int)], cT (decide (((k : Nat) : Int) < ((b.length : Nat) : Int)))] oN)))) ?_
  refine cB (decide (((k : Nat) : Int) < ((b.length : Nat) : Int))) (fun h2 => ?_) (fun h2 => ?_)
  ·
   have h2' := of_decide_eq_true h2
   refine Xn ?_
   refine Xe ?_
   refine X6 ?_
   refine sh 2 [tv 0 (Xj a), tv 1 (Xj b), tv 4 .nil, tv 5 (.own 14 1), tv 6 (ki ((i : Nat) : Int)), tv 7 (ku ((c + out2.getD (i + k) 0) + (a.getD i 0 * b.getD k 0))), tv 8 (ki ((k : Nat) : Int)), ov 14 (Xj (out2.set (i + k) (((c + out2.getD (i + k) 0) + (a.getD i 0 * b.getD k 0)) % 1000000000)))] (oS (oT 4 (oO (X3 (x := ((i : Nat) : Int)) (y := ((k : Nat) : Int)) (by omega) (by omega)) (oO (Xb9 (i + k) (by omega) (by simp only [J1]; (try simp only [List.length_set, List.length_append, List.length_cons, List.length_nil, List.length_replicate]); omega) : (0 : Int) ≤ ((i + k : Nat) : Int) ∧ Int.toNat ((i + k : Nat) : Int) < (uw out2).length) (oO (Zj (by (try simp only [List.length_set, List.length_append, List.length_cons, List.length_nil, List.length_replicate]); omega) : (uw out2)[i + k]? = some (kw (out2.getD (i + k) 0))) (oO ((Jj (by omega) (by omega)).symm : (out2.getD (i + k) 0) = IntKind.u64.wrap (out2.getD (i + k) 0)) (oO (Jp (x := c) (y := (out2.getD (i + k) 0)) (by omega) (by omega)) (oT 2 (oO (J0 i (by omega) (Zj (by (try simp only [List.length_set, List.length_append, List.length_cons, List.length_nil, List.length_replicate]); omega)) : (0 : Int) ≤ ((i : Nat) : Int) ∧ (uw a)[Int.toNat ((i : Nat) : Int)]? = some (kw (a.getD i 0))) (oT 1 (oO ((Jj (by omega) (by omega)).symm : (a.getD i 0) = IntKind.u64.wrap (a.getD i 0)) (oT 2 (oO (J0 k (by omega) (Zj (by (try simp only [List.length_set, List.length_append, List.length_cons, List.length_nil, List.length_replicate]); omega)) : (0 : Int) ≤ ((k : Nat) : Int) ∧ (uw b)[Int.toNat ((k : Nat) : Int)]? = some (kw (b.getD k 0))) (oT 1 (oO ((Jj (by omega) (by omega)).symm : (b.getD k 0) = IntKind.u64.wrap (b.getD k 0)) (oO (Xaf (x := (a.getD i 0)) (y := (b.getD k 0)) (by omega) (by omega)) (oO (Jp (x := (c + out2.getD (i + k) 0)) (y := (a.getD i 0 * b.getD k 0)) (by omega) (by omega)) (oT 1 oN))))))))))))))))) (oS (oT 3 (oO (X3 (x := ((i : Nat) : Int)) (y := ((k : Nat) : Int)) (by omega) (by omega)) (oT 1 (oO (Xa0 (x := ((c + out2.getD (i + k) 0) + (a.getD i 0 * b.getD k 0))) (y := 1000000000) (by omega) (by omega) trivial) (oO ((K6 (by omega) (by omega)).symm : (((c + out2.getD (i + k) 0) + (a.getD i 0 * b.getD k 0)) % 1000000000) = IntKind.u32.wrap (((c + out2.getD (i + k) 0) + (a.getD i 0 * b.getD k 0)) % 1000000000)) (oO (Xb9 (i + k) (by omega) (by simp only [J1]; (try simp only [List.length_set, List.length_append, List.length_cons, List.length_nil, List.length_replicate]); omega) : (0 : Int) ≤ ((i + k : Nat) : Int) ∧ Int.toNat ((i + k : Nat) : Int) < (uw out2).length) (oO (aI (Zj (by (try simp only [List.length_set, List.length_append, List.length_cons, List.length_nil, List.length_replicate]); omega) : (uw out2)[i + k]? = some (kw (out2.getD (i + k) 0))) (Xbt _ _ _ : (uw (out2.set (i + k) (((c + out2.getD (i + k) 0) + (a.getD i 0 * b.getD k 0)) % 1000000000))) = (uw out2).set (i + k) (kw (((c + out2.getD (i + k) 0) + (a.getD i 0 * b.getD k 0)) % 1000000000)))) (oA [ki ((i + k : Nat) : Int), kw (out2.getD (i + k) 0), ku (out2.getD (i + k) 0), ku (c + out2.getD (i + k) 0), kw (a.getD i 0), ku (a.getD i 0), kw (b.getD k 0), ku (b.getD k 0), ku (a.getD i 0 * b.getD k 0), ku ((c + out2.getD (i + k) 0) + (a.getD i 0 * b.getD k 0)), ki ((i + k : Nat) : Int), ku (((c + out2.getD (i + k) 0) + (a.getD i 0 * b.getD k 0)) % 1000000000), kw (((c + out2.getD (i + k) 0) + (a.getD i 0 * b.getD k 0)) % 1000000000), .tup [.sl 1 (uw (out2.set (i + k) (((c + out2.getD (i + k) 0) + (a.getD i 0 * b.getD k 0)) % 1000000000)))], kw (out2.getD (i + k) 0)] oN)))))))) oN)) ?_
   refine rh [tv 0 (Xj a), tv 1 (Xj b), tv 4 .nil, tv 5 (.own 14 1), tv 6 (ki ((i : Nat) : Int)), tv 7 (ku (((c + out2.getD (i + k) 0) + (a.getD i 0 * b.getD k 0)) / 1000000000)), tv 8 (ki ((k : Nat) : Int)), ov 14 (Xj (out2.set (i + k) (((c + out2.getD (i + k) 0) + (a.getD i 0 * b.getD k 0)) % 1000000000)))] (oT 1 (oO (Xae (x := ((c + out2.getD (i + k) 0) + (a.getD i 0 * b.getD k 0))) (y := 1000000000) (by omega) (by omega) (by omega)) (oT 1 (oA [ku (((c + out2.getD (i + k) 0) + (a.getD i 0 * b.getD k 0)) / 1000000000)] oN)))) ?_
   refine rh [tv 0 (Xj a), tv 1 (Xj b), tv 4 .nil, tv 5 (.own 14 1), tv 6 (ki ((i : Nat) : Int)), tv 7 (ku (((c + out2.getD (i + k) 0) + (a.getD i 0 * b.getD k 0)) / 1000000000)), tv 8 (ki ((k + 1 : Nat) : Int)), ov 14 (Xj (out2.set (i + k) (((c + out2.getD (i + k) 0) + (a.getD i 0 * b.getD k 0)) % 1000000000)))] (oT 1 (oO (X3 (x := ((k : Nat) : Int)) (y := 1) (by omega) (by omega)) (oT 1 (oA [ki ((k + 1 : Nat) : Int)] oN)))) ?_
   have hst := Lm.mul_step (n := Lm.V (out2.set (i + k) (((c + out2.getD (i + k) 0) + (a.getD i 0 * b.getD k 0)) % 1000000000))) (t := ((c + out2.getD (i + k) 0) + (a.getD i 0 * b.getD k 0))) (w' := Lm.V (b.take (k + 1))) (b := out2.getD (i + k) 0) (x := a.getD i 0) (y := b.getD k 0) hk6 (by omega) (Lm.V_set _ _ _ (by omega)) (by rw [Lm.V_take_next, Lm.P_add]; grind)
   exact ⟨b.length - (k + 1), [tv 0 (Xj a), tv 1 (Xj b), tv 4 .nil, tv 5 (.own 14 1), tv 6 (ki ((i : Nat) : Int)), tv 7 (ku (((c + out2.getD (i + k) 0) + (a.getD i 0 * b.getD k 0)) / 1000000000)), tv 8 (ki ((k + 1 : Nat) : Int)), ov 14 (Xj (out2.set (i + k) (((c + out2.getD (i + k) 0) + (a.getD i 0 * b.getD k 0)) % 1000000000)))], (by omega), rfl, (by kernel_rfl), k + 1, ((c + out2.getD (i + k) 0) + (a.getD i 0 * b.getD k 0)) / 1000000000, out2.set (i + k) (((c + out2.getD (i + k) 0) + (a.getD i 0 * b.getD k 0)) % 1000000000), ⟨by omega, Lm.G_set hk2 _ (by omega) (by omega), by simp [hk3], by omega, by omega, by rw [← Nat.add_assoc, Lm.P_succ]; exact hst, by rw [List.getD_eq_getElem?_getD, List.getElem?_set_ne (by omega), ← List.getD_eq_getElem?_getD]; exact hk7⟩, rfl, (by kernel_rfl)⟩
  ·
   have h2' := of_decide_eq_false h2
   refine Z3 ?_
   refine rh [tv 0 (Xj a), tv 1 (Xj b), tv 4 .nil, tv 5 (.own 14 1), tv 6 (ki ((i : Nat) : Int)), ov 14 (Xj (out2.set (i + b.length) c))] (oT 3 (oO (aI trivial (Yx _ : ((b.length : Nat) : Int) = (((uw b).length : Nat) : Int))) (oO (X3 (x := ((i : Nat) : Int)) (y := ((b.length : Nat) : Int)) (by omega) (by omega)) (oT 1 (oO ((K6 (by omega) (by omega)).symm : c = IntKind.u32.wrap c) (oO (Xb9 (i + b.length) (by omega) (by simp only [J1]; (try simp only [List.length_set, List.length_append, List.length_cons, List.length_nil, List.length_replicate]); omega) : (0 : Int) ≤ ((i + b.length : Nat) : Int) ∧ Int.toNat ((i + b.length : Nat) : Int) < (uw out2).length) (oO (aI (Zj (by (try simp only [List.length_set, List.length_append, List.length_cons, List.length_nil, List.length_replicate]); omega) : (uw out2)[i + b.length]? = some (kw (out2.getD (i + b.length) 0))) (Xbt _ _ _ : (uw (out2.set (i + b.length) c)) = (uw out2).set (i + b.length) (kw c))) (oA [.tup [ki ((b.length : Nat) : Int)], ki ((i + b.length : Nat) : Int), kw c, .tup [.sl 1 (uw (out2.set (i + b.length) c))], kw (out2.getD (i + b.length) 0)] oN)))))))) ?_
   refine rh [tv 0 (Xj a), tv 1 (Xj b), tv 4 .nil, tv 5 (.own 14 1), tv 6 (ki ((i + 1 : Nat) : Int)), ov 14 (Xj (out2.set (i + b.length) c))] (oT 1 (oO (X3 (x := ((i : Nat) : Int)) (y := 1) (by omega) (by omega)) (oT 1 (oA [ki ((i + 1 : Nat) : Int)] oN)))) ?_
   have hkl : k = b.length := by omega
   have hfin : Lm.V (out2.set (i + b.length) c) = Lm.V (a.take (i + 1)) * Lm.V b := by
    rw [Lm.V_set _ _ _ (by omega), hk7, Lm.V_take_next]
    rw [hkl, Lm.V_take_all b (by omega)] at hk6
    grind
   exact ⟨a.length - (i + 1), [tv 0 (Xj a), tv 1 (Xj b), tv 4 .nil, tv 5 (.own 14 1), tv 6 (ki ((i + 1 : Nat) : Int)), ov 14 (Xj (out2.set (i + b.length) c))], (by omega), rfl, (by kernel_rfl), i + 1, out2.set (i + b.length) c, ⟨by omega, Lm.G_set hk2 _ (by omega) (by omega), by simp [hk3], hfin⟩, rfl, (by kernel_rfl)⟩
 ·
  have h1' := of_decide_eq_false h1
  refine Z3 ?_
  refine rt [tv 4 (Xj (Lm.trim out))] (oT 1 (oC (Xbn out) (oT 1 oN))) ?_
  refine Xg ?_
  have hil : i = a.length := by omega
  rw [hil, Lm.V_take_all a (by omega)] at hi4
  exact X7i ((Xj (Lm.trim out))) (congrArg Xj ((Lm.trim_digs hi2).trans (by rw [hi4])))
open Go Go.RowKit
theorem Z9 (neg : Bool) (l : List Int) (gl : Lm.G l) (hs : l.length ≤ 1152921504606846976 := by omega) : CS Tryz.prog 226 [.bool neg, Xj l] (Xf (Js neg (Lm.V l))) := by
  refine cO 30 Tryz.func226 ?_
  refine sh 2 [tv 0 (.bool neg), tv 1 (Xj l), tv 4 (pb 4), tv 5 (ki ((l.length : Nat) : Int)), bv 4 zI] (oS (oT 1 oN) (oS (oT 1 (oO (aI trivial (Yx _ : ((l.length : Nat) : Int) = (((uw l).length : Nat) : Int))) (oT 1 (oA [.tup [ki ((l.length : Nat) : Int)]] oN)))) oN)) ?_
  refine Xe ?_
  refine X6 ?_
  refine Z0 (fun n0 l0 => ∃ (n : Nat), (n ≤ l.length ∧ Lm.trim (l.take n) = Lm.trim l) ∧ n = n0 ∧ l0 = [tv 0 (.bool neg), tv 1 (Xj l), tv 4 (pb 4), tv 5 (ki ((n : Nat) : Int)), bv 4 zI]) (n := l.length) (by kernel_rfl) ⟨l.length, ⟨Nat.le_refl _, by rw [List.take_length]⟩, rfl, (by kernel_rfl)⟩ ?_
  rintro n0 l0 ⟨n, ⟨hi1, hi2⟩, rfl, rfl⟩
  refine Xe ?_
  refine Xe ?_
  rcases X7 (decide (0 < ((n : Nat) : Int))) with h1 | h1
  ·
    have h1' := of_decide_eq_true h1
    refine rh [tv 0 (.bool neg), tv 1 (Xj l), tv 4 (pb 4), tv 5 (ki ((n : Nat) : Int)), tv 17 (.bool (decide (l.getD (n - 1) 0 = 0))), bv 4 zI] (oT 1 (oO (aI trivial (h1 : (decide (0 < ((n : Nat) : Int))) = true)) (oT 1 (oO (Xh 1 trivial) (oO (Xh 1 trivial) (oO (Xh 1 (Xax (Yw (by omega) (by omega)) (by omega) : Jx .sub .i64 ((n : Nat) : Int) 1 = some (((n - 1) : Nat) : Int) ∧ ((BinOp.sub = .quo ∨ BinOp.sub = .rem) → 1 ≠ (0 : Int)))) (oO (Xh 2 (J0 (n - 1) (by omega) (Zj (by (try simp only [List.length_set, List.length_append, List.length_cons, List.length_nil, List.length_replicate]); omega)) : (0 : Int) ≤ (((n - 1) : Nat) : Int) ∧ (uw l)[Int.toNat (((n - 1) : Nat) : Int)]? = some (kw (l.getD (n - 1) 0)))) (oO (Xh 1 trivial) (oO (Xh 1 (oB (decide (l.getD (n - 1) 0 = 0)))) (oT 1 (oA [cT true, ki (((n - 1) : Nat) : Int), kw (l.getD (n - 1) 0), cT (decide (l.getD (n - 1) 0 = 0))] oN))))))))))) ?_
    refine cB (decide (l.getD (n - 1) 0 = 0)) (fun h2 => ?_) (fun h2 => ?_)
    ·
      have h2' := of_decide_eq_true h2
      refine Xn ?_
      refine X6 ?_
      refine rh [tv 0 (.bool neg), tv 1 (Xj l), tv 4 (pb 4), tv 5 (ki (((n - 1) : Nat) : Int)), bv 4 zI] (oT 1 (oO (Xax (Yw (by omega) (by omega)) (by omega) : Jx .sub .i64 ((n : Nat) : Int) 1 = some (((n - 1) : Nat) : Int) ∧ ((BinOp.sub = .quo ∨ BinOp.sub = .rem) → 1 ≠ (0 : Int))) (oT 1 (oA [ki (((n - 1) : Nat) : Int)] oN)))) ?_
      have hq := Lm.trim_cut (l := l.take n) (by rw [List.length_take]; omega) (by rw [List.length_take, Nat.min_eq_left hi1, Lm.getD_take _ (by omega)]; assumption)
      rw [List.length_take, Nat.min_eq_left hi1, List.take_take, Nat.min_eq_left (by omega)] at hq
      exact ⟨n - 1, [tv 0 (.bool neg), tv 1 (Xj l), tv 4 (pb 4), tv 5 (ki (((n - 1) : Nat) : Int)), bv 4 zI], (by omega), rfl, (by kernel_rfl), n - 1, ⟨by omega, hq.trans hi2⟩, rfl, (by kernel_rfl)⟩
    ·
      have h2' := of_decide_eq_false h2
      refine Z3 ?_
      refine Xe ?_
      rcases X7 neg with h3 | h3
      ·
        refine Xlh [tv 0 (.bool neg), tv 1 (Xj l), tv 4 (pb 4), tv 5 (ki ((n : Nat) : Int)), tv 17 (.bool (decide (l.getD (n - 1) 0 = 0))), bv 4 zI] [tv 0 (.bool true), tv 1 (Xj l), tv 4 (pb 4), tv 5 (ki ((n : Nat) : Int)), tv 17 (.bool (decide (l.getD (n - 1) 0 = 0))), bv 4 zI] (by rw [h3]) ?_
        refine rh [tv 4 (pb 4), bv 4 (.st [.bool true, Xj (l.take n)])] (oT 2 (oO (Xh 1 trivial) (oO (Xh 1 (aI trivial (h1 : (decide (0 < ((n : Nat) : Int))) = true))) (oT 4 (oO (aI (aI (rfl : 0 = 0) (aI (show ((n : Nat) : Int) = ((n : Nat) : Int) by omega) (aI (show ((n : Nat) : Int) = ((n : Nat) : Int) by omega) (aI (show 0 ≤ n by omega) (show n ≤ (uw l).length by simp only [J1]; omega))))) (Xii _ _ : (uw (l.take n)) = ((uw l).take n).drop 0)) (oT 2 (oA [cT true, .tup [.sl 1 (uw (l.take n))], ki ((0 : Nat) : Int), ki ((n : Nat) : Int)] oN))))))) ?_
        refine Xg ?_
        have ht : l.take n = Lm.trim l := by
          rw [← hi2]; refine (Lm.trim_stop ?_).symm
          rw [List.length_take, Nat.min_eq_left hi1]
          by_cases hn0 : 0 < n
          · right; rw [Lm.getD_take _ (by omega)]; assumption
          · left; omega
        exact X7i ((.st [.bool true, Xj (l.take n)])) (by have hq := Xr8 (n := ((n : Nat) : Int)) gl ht (by rw [List.length_take]; omega); rw [h1] at hq; rw [h3]; exact hq)
      ·
        refine Xlh [tv 0 (.bool neg), tv 1 (Xj l), tv 4 (pb 4), tv 5 (ki ((n : Nat) : Int)), tv 17 (.bool (decide (l.getD (n - 1) 0 = 0))), bv 4 zI] [tv 0 (.bool false), tv 1 (Xj l), tv 4 (pb 4), tv 5 (ki ((n : Nat) : Int)), tv 17 (.bool (decide (l.getD (n - 1) 0 = 0))), bv 4 zI] (by rw [h3]) ?_
        refine rh [tv 4 (pb 4), bv 4 (.st [.bool false, Xj (l.take n)])] (oT 2 (oO (gn [false]) (oO (gn [true]) (oT 4 (oO (aI (aI (rfl : 0 = 0) (aI (show ((n : Nat) : Int) = ((n : Nat) : Int) by omega) (aI (show ((n : Nat) : Int) = ((n : Nat) : Int) by omega) (aI (show 0 ≤ n by omega) (show n ≤ (uw l).length by simp only [J1]; omega))))) (Xii _ _ : (uw (l.take n)) = ((uw l).take n).drop 0)) (oT 2 (oA [cT true, .tup [.sl 1 (uw (l.take n))], ki ((0 : Nat) : Int), ki ((n : Nat) : Int)] oN))))))) ?_
        refine Xg ?_
        have ht : l.take n = Lm.trim l := by
          rw [← hi2]; refine (Lm.trim_stop ?_).symm
          rw [List.length_take, Nat.min_eq_left hi1]
          by_cases hn0 : 0 < n
          · right; rw [Lm.getD_take _ (by omega)]; assumption
          · left; omega
        exact X7i ((.st [.bool false, Xj (l.take n)])) (by rw [h3]; exact Xoo gl ht)
  ·
    have h1' := of_decide_eq_false h1
    refine rh [tv 0 (.bool neg), tv 1 (Xj l), tv 4 (pb 4), tv 5 (ki ((n : Nat) : Int)), tv 17 (.bool false), bv 4 zI] (oT 1 (oO (aI trivial (h1 : (decide (0 < ((n : Nat) : Int))) = false)) (oT 1 (oO (gn [false]) (oO (gn [false]) (oO (gn [true]) (oO (gn [true, true]) (oO (gn [true]) (oO (gn [true]) (oT 1 (oA [cT false, ki (((n - 1) : Nat) : Int), kw (l.getD (n - 1) 0), cT (decide (l.getD (n - 1) 0 = 0))] oN))))))))))) ?_
    refine cB (false) (fun h => Bool.noConfusion h) (fun _ => ?_)
    refine Z3 ?_
    refine Xe ?_
    rcases X7 neg with h4 | h4
    ·
      refine Xlh [tv 0 (.bool neg), tv 1 (Xj l), tv 4 (pb 4), tv 5 (ki ((n : Nat) : Int)), tv 17 (.bool false), bv 4 zI] [tv 0 (.bool true), tv 1 (Xj l), tv 4 (pb 4), tv 5 (ki ((n : Nat) : Int)), tv 17 (.bool false), bv 4 zI] (by rw [h4]) ?_
      refine rh [tv 4 (pb 4), bv 4 (.st [.bool false, Xj (l.take n)])] (oT 2 (oO (Xh 1 trivial) (oO (Xh 1 (aI trivial (h1 : (decide (0 < ((n : Nat) : Int))) = false))) (oT 4 (oO (aI (aI (rfl : 0 = 0) (aI (show ((n : Nat) : Int) = ((n : Nat) : Int) by omega) (aI (show ((n : Nat) : Int) = ((n : Nat) : Int) by omega) (aI (show 0 ≤ n by omega) (show n ≤ (uw l).length by simp only [J1]; omega))))) (Xii _ _ : (uw (l.take n)) = ((uw l).take n).drop 0)) (oT 2 (oA [cT false, .tup [.sl 1 (uw (l.take n))], ki ((0 : Nat) : Int), ki ((n : Nat) : Int)] oN))))))) ?_
      refine Xg ?_
      have ht : l.take n = Lm.trim l := by
        rw [← hi2]; refine (Lm.trim_stop ?_).symm
        rw [List.length_take, Nat.min_eq_left hi1]
        by_cases hn0 : 0 < n
        · right; rw [Lm.getD_take _ (by omega)]; exfalso; omega
        · left; omega
      exact X7i ((.st [.bool false, Xj (l.take n)])) (by have hq := Xr8 (n := ((n : Nat) : Int)) gl ht (by rw [List.length_take]; omega); rw [h1] at hq; rw [h4]; exact hq)
    ·
      refine Xlh [tv 0 (.bool neg), tv 1 (Xj l), tv 4 (pb 4), tv 5 (ki ((n : Nat) : Int)), tv 17 (.bool false), bv 4 zI] [tv 0 (.bool false), tv 1 (Xj l), tv 4 (pb 4), tv 5 (ki ((n : Nat) : Int)), tv 17 (.bool false), bv 4 zI] (by rw [h4]) ?_
      refine rh [tv 4 (pb 4), bv 4 (.st [.bool false, Xj (l.take n)])] (oT 2 (oO (gn [false]) (oO (gn [true]) (oT 4 (oO (aI (aI (rfl : 0 = 0) (aI (show ((n : Nat) : Int) = ((n : Nat) : Int) by omega) (aI (show ((n : Nat) : Int) = ((n : Nat) : Int) by omega) (aI (show 0 ≤ n by omega) (show n ≤ (uw l).length by simp only [J1]; omega))))) (Xii _ _ : (uw (l.take n)) = ((uw l).take n).drop 0)) (oT 2 (oA [cT false, .tup [.sl 1 (uw (l.take n))], ki ((0 : Nat) : Int), ki ((n : Nat) : Int)] oN))))))) ?_
      refine Xg ?_
      have ht : l.take n = Lm.trim l := by
        rw [← hi2]; refine (Lm.trim_stop ?_).symm
        rw [List.length_take, Nat.min_eq_left hi1]
        by_cases hn0 : 0 < n
        · right; rw [Lm.getD_take _ (by omega)]; exfalso; omega
        · left; omega
      exact X7i ((.st [.bool false, Xj (l.take n)])) (by rw [h4]; exact Xoo gl ht)
theorem Xgi (u : Int) (h0 : 0 ≤ u := by omega) (h1 : u < 18446744073709551616 := by omega) : CS Tryz.prog 227 [ku u] (Xj (Lm.dg 3 u)) := by
 refine cO 15 Tryz.func227 ?_
 refine sh 2 [tv 2 (.own 14 1), ov 14 (.sl 1 [kw (u % 1000000000), kw ((u / 1000000000) % 1000000000), kw ((u / 1000000000) / 1000000000)])] (oS (oT 1 oN) (oS (oT 1 (oO (Xa0 (x := u) (y := 1000000000) (by omega) (by omega) trivial) (oO ((K6 (by omega) (by omega)).symm : (u % 1000000000) = IntKind.u32.wrap (u % 1000000000)) (oT 1 (oO (Xae (x := u) (y := 1000000000) (by omega) (by omega) (by omega)) (oO (Xa0 (x := (u / 1000000000)) (y := 1000000000) (by omega) (by omega) trivial) (oO ((K6 (by omega) (by omega)).symm : ((u / 1000000000) % 1000000000) = IntKind.u32.wrap ((u / 1000000000) % 1000000000)) (oT 1 (oO (Xae (x := u) (y := 1000000000) (by omega) (by omega) (by omega)) (oO (Xae (x := (u / 1000000000)) (y := 1000000000) (by omega) (by omega) (by omega)) (oO ((K6 (by omega) (by omega)).symm : ((u / 1000000000) / 1000000000) = IntKind.u32.wrap ((u / 1000000000) / 1000000000)) (oT 2 (oA [ku (u % 1000000000), kw (u % 1000000000), ku (u / 1000000000), ku ((u / 1000000000) % 1000000000), kw ((u / 1000000000) % 1000000000), ku (u / 1000000000), ku ((u / 1000000000) / 1000000000), kw ((u / 1000000000) / 1000000000)] oN))))))))))))) oN)) ?_
 refine Xio [.own 14 1] [tv 2 (.own 14 1), (.o 14, ⟨1, false, .sl 1 [kw (u % 1000000000), kw ((u / 1000000000) % 1000000000), kw ((u / 1000000000) / 1000000000)]⟩)] (by kernel_rfl) (by kernel_rfl) ?_
 refine Xg ?_
 exact X7i ((Xj [u % 1000000000, (u / 1000000000) % 1000000000, (u / 1000000000) / 1000000000])) (congrArg Xj (by simp only [Lm.dg]; congr 3; omega))
theorem Xgz (x : Int) (hx : X66 x ≤ 2 := by omega) : CS Tryz.prog 285 [Xf x] (.tup [.int .u64 (x.natAbs : Int), .bool true]) := by
 have hg := Lm.G_digs x.natAbs
 have hv := Lm.V_digs x.natAbs
 have d0 := Lm.G_get hg 0
 have d1 := Lm.G_get hg 1
 unfold X66 at hx
 refine cO 30 Tryz.func285 ?_
 refine rt [tv 1 (pb 1), tv 2 (ku 0), tv 3 (.bool false), bv 1 (Xf x)] (oT 3 oN) ?_
 refine Xe ?_
 refine rt [tv 1 (pb 1), tv 2 (ku 0), tv 3 (.bool false), tv 6 (ki (((Lm.digs (Int.natAbs x)).length : Nat) : Int)), bv 1 (Xf x)] (oT 2 (oO (aI trivial (Yx _ : (((Lm.digs (Int.natAbs x)).length : Nat) : Int) = (((uw (Lm.digs (Int.natAbs x))).length : Nat) : Int))) (oA [.tup [ki (((Lm.digs (Int.natAbs x)).length : Nat) : Int)]] oN))) ?_
 refine X6 ?_
 refine rt [tv 1 (pb 1), tv 2 (ku 0), tv 3 (.bool false), tv 6 (ki (((Lm.digs (Int.natAbs x)).length : Nat) : Int)), tv 7 (.bool (decide ((((Lm.digs (Int.natAbs x)).length : Nat) : Int) = 0))), bv 1 (Xf x)] (oO (oB (decide ((((Lm.digs (Int.natAbs x)).length : Nat) : Int) = 0))) (oT 1 (oA [cT (decide ((((Lm.digs (Int.natAbs x)).length : Nat) : Int) = 0))] oN))) ?_
 refine cB (decide ((((Lm.digs (Int.natAbs x)).length : Nat) : Int) = 0)) (fun h1 => ?_) (fun h1 => ?_)
 ·
  have h1' := of_decide_eq_true h1
  refine rt [tv 2 (ku 0), tv 3 (.bool true)] (oT 2 oN) ?_
  refine Xg ?_
  have hl := Lm.V_zero (l := Lm.digs x.natAbs) (by omega)
  exact X7i ((.tup [ku 0, .bool true])) (by rw [← hv, hl])
 ·
  have h1' := of_decide_eq_false h1
  refine rt [tv 1 (pb 1), tv 2 (ku 0), tv 3 (.bool false), tv 6 (ki (((Lm.digs (Int.natAbs x)).length : Nat) : Int)), tv 9 (.bool (decide ((((Lm.digs (Int.natAbs x)).length : Nat) : Int) = 1))), bv 1 (Xf x)] (oO (oB (decide ((((Lm.digs (Int.natAbs x)).length : Nat) : Int) = 1))) (oT 1 (oA [cT (decide ((((Lm.digs (Int.natAbs x)).length : Nat) : Int) = 1))] oN))) ?_
  refine cB (decide ((((Lm.digs (Int.natAbs x)).length : Nat) : Int) = 1)) (fun h2 => ?_) (fun h2 => ?_)
  ·
   have h2' := of_decide_eq_true h2
   refine rt [tv 2 (ku ((Lm.digs (Int.natAbs x)).getD 0 0)), tv 3 (.bool true)] (oT 2 (oO (J0 0 (by omega) (Zj (by (try simp only [List.length_set, List.length_append, List.length_cons, List.length_nil, List.length_replicate]); omega)) : (0 : Int) ≤ 0 ∧ (uw (Lm.digs (Int.natAbs x)))[Int.toNat 0]? = some (kw ((Lm.digs (Int.natAbs x)).getD 0 0))) (oT 1 (oO ((Jj (by omega) (by omega)).symm : ((Lm.digs (Int.natAbs x)).getD 0 0) = IntKind.u64.wrap ((Lm.digs (Int.natAbs x)).getD 0 0)) (oT 2 (oA [kw ((Lm.digs (Int.natAbs x)).getD 0 0), ku ((Lm.digs (Int.natAbs x)).getD 0 0)] oN)))))) ?_
   refine Xg ?_
   have hl := Lm.V_one (l := Lm.digs x.natAbs) (by omega)
   exact X7i ((.tup [ku ((Lm.digs (Int.natAbs x)).getD 0 0), .bool true])) (by rw [← hv, hl])
  ·
   have h2' := of_decide_eq_false h2
   refine rt [tv 1 (pb 1), tv 2 (ku 0), tv 3 (.bool false), tv 16 (.bool (decide ((((Lm.digs (Int.natAbs x)).length : Nat) : Int) = 2))), bv 1 (Xf x)] (oO (oB (decide ((((Lm.digs (Int.natAbs x)).length : Nat) : Int) = 2))) (oT 1 (oA [cT (decide ((((Lm.digs (Int.natAbs x)).length : Nat) : Int) = 2))] oN))) ?_
   refine cB (decide ((((Lm.digs (Int.natAbs x)).length : Nat) : Int) = 2)) (fun h3 => ?_) (fun h3 => ?_)
   ·
    have h3' := of_decide_eq_true h3
    refine rt [tv 2 (ku ((((Lm.digs (Int.natAbs x)).getD 1 0) * 1000000000) + ((Lm.digs (Int.natAbs x)).getD 0 0))), tv 3 (.bool true)] (oT 2 (oO (J0 1 (by omega) (Zj (by (try simp only [List.length_set, List.length_append, List.length_cons, List.length_nil, List.length_replicate]); omega)) : (0 : Int) ≤ 1 ∧ (uw (Lm.digs (Int.natAbs x)))[Int.toNat 1]? = some (kw ((Lm.digs (Int.natAbs x)).getD 1 0))) (oT 1 (oO ((Jj (by omega) (by omega)).symm : ((Lm.digs (Int.natAbs x)).getD 1 0) = IntKind.u64.wrap ((Lm.digs (Int.natAbs x)).getD 1 0)) (oO (Xaf (x := ((Lm.digs (Int.natAbs x)).getD 1 0)) (y := 1000000000) (by omega) (by omega)) (oT 2 (oO (J0 0 (by omega) (Zj (by (try simp only [List.length_set, List.length_append, List.length_cons, List.length_nil, List.length_replicate]); omega)) : (0 : Int) ≤ 0 ∧ (uw (Lm.digs (Int.natAbs x)))[Int.toNat 0]? = some (kw ((Lm.digs (Int.natAbs x)).getD 0 0))) (oT 1 (oO ((Jj (by omega) (by omega)).symm : ((Lm.digs (Int.natAbs x)).getD 0 0) = IntKind.u64.wrap ((Lm.digs (Int.natAbs x)).getD 0 0)) (oO (Jp (x := (((Lm.digs (Int.natAbs x)).getD 1 0) * 1000000000)) (y := ((Lm.digs (Int.natAbs x)).getD 0 0)) (by omega) (by omega)) (oT 2 (oA [kw ((Lm.digs (Int.natAbs x)).getD 1 0), ku ((Lm.digs (Int.natAbs x)).getD 1 0), ku (((Lm.digs (Int.natAbs x)).getD 1 0) * 1000000000), kw ((Lm.digs (Int.natAbs x)).getD 0 0), ku ((Lm.digs (Int.natAbs x)).getD 0 0), ku ((((Lm.digs (Int.natAbs x)).getD 1 0) * 1000000000) + ((Lm.digs (Int.natAbs x)).getD 0 0))] oN)))))))))))) ?_
    refine Xg ?_
    have hl := Lm.V_two (l := Lm.digs x.natAbs) (by omega)
    exact X7i ((.tup [ku ((((Lm.digs (Int.natAbs x)).getD 1 0) * 1000000000) + ((Lm.digs (Int.natAbs x)).getD 0 0)), .bool true])) (by rw [← hv, hl]; congr 3; omega)
   ·
    have h3' := of_decide_eq_false h3
    refine Xn ?_
    refine rt [tv 2 (ku 0), tv 3 (.bool false)] (oT 2 oN) ?_
    refine Xg ?_
    exact X7i ((.tup [ku 0, .bool false])) (by exfalso; omega)
theorem Xeu (x : Int) (hx : 2 < X66 x := by omega) : CS Tryz.prog 285 [Xf x] (.tup [.int .u64 0, .bool false]) := by
 have hg := Lm.G_digs x.natAbs
 have hv := Lm.V_digs x.natAbs
 have d0 := Lm.G_get hg 0
 have d1 := Lm.G_get hg 1
 unfold X66 at hx
 refine cO 30 Tryz.func285 ?_
 refine rt [tv 1 (pb 1), tv 2 (ku 0), tv 3 (.bool false), bv 1 (Xf x)] (oT 3 oN) ?_
 refine Xe ?_
 refine rt [tv 1 (pb 1), tv 2 (ku 0), tv 3 (.bool false), tv 6 (ki (((Lm.digs (Int.natAbs x)).length : Nat) : Int)), bv 1 (Xf x)] (oT 2 (oO (aI trivial (Yx _ : (((Lm.digs (Int.natAbs x)).length : Nat) : Int) = (((uw (Lm.digs (Int.natAbs x))).length : Nat) : Int))) (oA [.tup [ki (((Lm.digs (Int.natAbs x)).length : Nat) : Int)]] oN))) ?_
 refine X6 ?_
 refine rt [tv 1 (pb 1), tv 2 (ku 0), tv 3 (.bool false), tv 6 (ki (((Lm.digs (Int.natAbs x)).length : Nat) : Int)), tv 7 (.bool (decide ((((Lm.digs (Int.natAbs x)).length : Nat) : Int) = 0))), bv 1 (Xf x)] (oO (oB (decide ((((Lm.digs (Int.natAbs x)).length : Nat) : Int) = 0))) (oT 1 (oA [cT (decide ((((Lm.digs (Int.natAbs x)).length : Nat) : Int) = 0))] oN))) ?_
 refine cB (decide ((((Lm.digs (Int.natAbs x)).length : Nat) : Int) = 0)) (fun h1 => ?_) (fun h1 => ?_)
 ·
  have h1' := of_decide_eq_true h1
  refine rt [tv 2 (ku 0), tv 3 (.bool true)] (oT 2 oN) ?_
  refine Xg ?_
  exact X7i ((.tup [ku 0, .bool true])) (by exfalso; omega)
 ·
  have h1' := of_decide_eq_false h1
  refine rt [tv 1 (pb 1), tv 2 (ku 0), tv 3 (.bool false), tv 6 (ki (((Lm.digs (Int.natAbs x)).length : Nat) : Int)), tv 9 (.bool (decide ((((Lm.digs (Int.natAbs x)).length : Nat) : Int) = 1))), bv 1 (Xf x)] (oO (oB (decide ((((Lm.digs (Int.natAbs x)).length : Nat) : Int) = 1))) (oT 1 (oA [cT (decide ((((Lm.digs (Int.natAbs x)).length : Nat) : Int) = 1))] oN))) ?_
  refine cB (decide ((((Lm.digs (Int.natAbs x)).length : Nat) : Int) = 1)) (fun h2 => ?_) (fun h2 => ?_)
  ·
   have h2' := of_decide_eq_true h2
   refine rt [tv 2 (ku ((Lm.digs (Int.natAbs x)).getD 0 0)), tv 3 (.bool true)] (oT 2 (oO (J0 0 (by omega) (Zj (by (try simp only [List.length_set, List.length_append, List.length_cons, List.length_nil, List.length_replicate]); omega)) : (0 : Int) ≤ 0 ∧ (uw (Lm.digs (Int.natAbs x)))[Int.toNat 0]? = some (kw ((Lm.digs (Int.natAbs x)).getD 0 0))) (oT 1 (oO ((Jj (by omega) (by omega)).symm : ((Lm.digs (Int.natAbs x)).getD 0 0) = IntKind.u64.wrap ((Lm.digs (Int.natAbs x)).getD 0 0)) (oT 2 (oA [kw ((Lm.digs (Int.natAbs x)).getD 0 0), ku ((Lm.digs (Int.natAbs x)).getD 0 0)] oN)))))) ?_
   refine Xg ?_
   exact X7i ((.tup [ku ((Lm.digs (Int.natAbs x)).getD 0 0), .bool true])) (by exfalso; omega)
  ·
   have h2' := of_decide_eq_false h2
   refine rt [tv 1 (pb 1), tv 2 (ku 0), tv 3 (.bool false), tv 16 (.bool (decide ((((Lm.digs (Int.natAbs x)).length : Nat) : Int) = 2))), bv 1 (Xf x)] (oO (oB (decide ((((Lm.digs (Int.natAbs x)).length : Nat) : Int) = 2))) (oT 1 (oA [cT (decide ((((Lm.digs (Int.natAbs x)).length : Nat) : Int) = 2))] oN))) ?_
   refine cB (decide ((((Lm.digs (Int.natAbs x)).length : Nat) : Int) = 2)) (fun h3 => ?_) (fun h3 => ?_)
   ·
    have h3' := of_decide_eq_true h3
    refine rt [tv 2 (ku ((((Lm.digs (Int.natAbs x)).getD 1 0) * 1000000000) + ((Lm.digs (Int.natAbs x)).getD 0 0))), tv 3 (.bool true)] (oT 2 (oO (J0 1 (by omega) (Zj (by (try simp only [List.length_set, List.length_append, List.length_cons, List.length_nil, List.length_replicate]); omega)) : (0 : Int) ≤ 1 ∧ (uw (Lm.digs (Int.natAbs x)))[Int.toNat 1]? = some (kw ((Lm.digs (Int.natAbs x)).getD 1 0))) (oT 1 (oO ((Jj (by omega) (by omega)).symm : ((Lm.digs (Int.natAbs x)).getD 1 0) = IntKind.u64.wrap ((Lm.digs (Int.natAbs x)).getD 1 0)) (oO (Xaf (x := ((Lm.digs (Int.natAbs x)).getD 1 0)) (y := 1000000000) (by omega) (by omega)) (oT 2 (oO (J0 0 (by omega) (Zj (by (try simp only [List.length_set, List.length_append, List.length_cons, List.length_nil, List.length_replicate]); omega)) : (0 : Int) ≤ 0 ∧ (uw (Lm.digs (Int.natAbs x)))[Int.toNat 0]? = some (kw ((Lm.digs (Int.natAbs x)).getD 0 0))) (oT 1 (oO ((Jj (by omega) (by omega)).symm : ((Lm.digs (Int.natAbs x)).getD 0 0) = IntKind.u64.wrap ((Lm.digs (Int.natAbs x)).getD 0 0)) (oO (Jp (x := (((Lm.digs (Int.natAbs x)).getD 1 0) * 1000000000)) (y := ((Lm.digs (Int.natAbs x)).getD 0 0)) (by omega) (by omega)) (oT 2 (oA [kw ((Lm.digs (Int.natAbs x)).getD 1 0), ku ((Lm.digs (Int.natAbs x)).getD 1 0), ku (((Lm.digs (Int.natAbs x)).getD 1 0) * 1000000000), kw ((Lm.digs (Int.natAbs x)).getD 0 0), ku ((Lm.digs (Int.natAbs x)).getD 0 0), ku ((((Lm.digs (Int.natAbs x)).getD 1 0) * 1000000000) + ((Lm.digs (Int.natAbs x)).getD 0 0))] oN)))))))))))) ?_
    refine Xg ?_
    exact X7i ((.tup [ku ((((Lm.digs (Int.natAbs x)).getD 1 0) * 1000000000) + ((Lm.digs (Int.natAbs x)).getD 0 0)), .bool true])) (by exfalso; omega)
   ·
    have h3' := of_decide_eq_false h3
    refine Xn ?_
    refine rt [tv 2 (ku 0), tv 3 (.bool false)] (oT 2 oN) ?_
    refine Xg ?_
    exact X7i ((.tup [ku 0, .bool false])) (rfl)
theorem Xhw (a : List Int) (b : Int) (ga : Lm.G a) (hb0 : 0 < b := by omega) (hb1 : b < 1000000000 := by omega) (hs : a.length ≤ 4398046511104 := by omega) : CS Tryz.prog 298 [Xj a, kw b] (.tup [Xj (Lm.dg a.length (Lm.V a / b)), Xj [Lm.V a % b]]) := by
 refine cO 44 Tryz.func298 ?_
 refine sh 3 [tv 0 (Xj a), tv 1 (kw b), tv 4 .nil, tv 5 .nil, tv 6 (.own 12 1), tv 7 (ku 0), ov 12 (Xj (List.replicate a.length 0))] (oS (oT 2 oN) (oS (oT 1 (oO (aI trivial (Yx _ : ((a.length : Nat) : Int) = (((uw a).length : Nat) : Int))) (oO (aI (show (0 : Int) ≤ ((a.length : Nat) : Int) ∧ (((a.length : Nat) : Int) : Int) ≤ ((a.length : Nat) : Int) ∧ 4 * Int.toNat ((a.length : Nat) : Int) ≤ 281474976710656 by omega) (Xic a.length (by omega) : (uw (List.replicate a.length 0)) = List.replicate (Int.toNat ((a.length : Nat) : Int)) (kw 0))) (oT 1 oN)))) (oS (oT 1 (oA [.tup [ki ((a.length : Nat) : Int)], .tup [.sl 1 (uw (List.replicate a.length 0))]] oN)) oN))) ?_
 refine Xe ?_
 refine rt [tv 0 (Xj a), tv 1 (kw b), tv 4 .nil, tv 5 .nil, tv 6 (.own 12 1), tv 7 (ku 0), tv 8 (ki (((a.length : Nat) : Int) - 1)), ov 12 (Xj (List.replicate a.length 0))] (oT 1 (oO (aI trivial (Yx _ : ((a.length : Nat) : Int) = (((uw a).length : Nat) : Int))) (oO (Yw (x := ((a.length : Nat) : Int)) (y := 1) (by omega) (by omega)) (oT 1 (oA [.tup [ki ((a.length : Nat) : Int)], ki (((a.length : Nat) : Int) - 1)] oN))))) ?_
 refine X6 ?_
 refine Z0 (fun n0 l0 => ∃ (i : Nat) (r : Int) (out : List Int), (i ≤ a.length ∧ Lm.G out ∧ out.length = a.length ∧ 0 ≤ r ∧ r < b ∧ Lm.V (a.drop i) = Lm.V (out.drop i) * b + r) ∧ i = n0 ∧ l0 = [tv 0 (Xj a), tv 1 (kw b), tv 4 .nil, tv 5 .nil, tv 6 (.own 12 1), tv 7 (ku r), tv 8 (ki (((i : Nat) : Int) - 1)), ov 12 (Xj out)]) (n := a.length) (by kernel_rfl) ⟨a.length, 0, List.replicate a.length 0, ⟨Nat.le_refl _, Lm.G_zeros _, by simp, by omega, by omega, by rw [List.drop_length, List.drop_of_length_le (by simp)]; simp⟩, rfl, (by kernel_rfl)⟩ ?_
 rintro n0 l0 ⟨i, r, out, ⟨hi1, hi2, hi3, hi4, hi5, hi6⟩, rfl, rfl⟩
 have hx := Lm.G_get ga (i - 1)
 have hd := Lm.div_small hi4 hi5 hx.1 hx.2 rfl
 refine Xe ?_
 refine rt [tv 0 (Xj a), tv 1 (kw b), tv 4 .nil, tv 5 .nil, tv 6 (.own 12 1), tv 7 (ku r), tv 8 (ki (((i : Nat) : Int) - 1)), tv 17 (.bool (decide (0 ≤ (((i : Nat) : Int) - 1)))), ov 12 (Xj out)] (oT 1 (oO (oB (decide (0 ≤ (((i : Nat) : Int) - 1)))) (oA [cT (decide (0 ≤ (((i : Nat) : Int) - 1)))] oN))) ?_
 refine cB (decide (0 ≤ (((i : Nat) : Int) - 1))) (fun h1 => ?_) (fun h1 => ?_)
 ·
  have h1' := of_decide_eq_true h1
  refine Xn ?_
  refine Xe ?_
  refine X6 ?_
  refine rt [tv 0 (Xj a), tv 1 (kw b), tv 4 .nil, tv 5 .nil, tv 6 (.own 12 1), tv 7 (ku r), tv 8 (ki (((i : Nat) : Int) - 1)), tv 9 (ku ((r * 1000000000) + a.getD (i - 1) 0)), ov 12 (Xj out)] (oT 1 (oO (Xaf (x := r) (y := 1000000000) (by omega) (by omega)) (oT 2 (oO (J0 (i - 1) (by omega) (Zj (by (try simp only [List.length_set, List.length_append, List.length_cons, List.length_nil, List.length_replicate]); omega)) : (0 : Int) ≤ (((i : Nat) : Int) - 1) ∧ (uw a)[Int.toNat (((i : Nat) : Int) - 1)]? = some (kw (a.getD (i - 1) 0))) (oT 1 (oO ((Jj (by omega) (by omega)).symm : (a.getD (i - 1) 0) = IntKind.u64.wrap (a.getD (i - 1) 0)) (oO (Jp (x := (r * 1000000000)) (y := (a.getD (i - 1) 0)) (by omega) (by omega)) (oT 1 (oA [ku (r * 1000000000), kw (a.getD (i - 1) 0), ku (a.getD (i - 1) 0), ku ((r * 1000000000) + a.getD (i - 1) 0)] oN))))))))) ?_
  refine rh [tv 0 (Xj a), tv 1 (kw b), tv 4 .nil, tv 5 .nil, tv 6 (.own 12 1), tv 7 (ku (((r * 1000000000) + a.getD (i - 1) 0) % b)), tv 8 (ki (((i : Nat) : Int) - 1)), ov 12 (Xj (out.set (i - 1) (((r * 1000000000) + a.getD (i - 1) 0) / b)))] (oT 4 (oO ((Jj (by omega) (by omega)).symm : b = IntKind.u64.wrap b) (oO (Xae (x := ((r * 1000000000) + a.getD (i - 1) 0)) (y := b) (by omega) (by omega) (by omega)) (oO ((K6 (by omega) (by omega)).symm : (((r * 1000000000) + a.getD (i - 1) 0) / b) = IntKind.u32.wrap (((r * 1000000000) + a.getD (i - 1) 0) / b)) (oT 2 (oO ((Jj (by omega) (by omega)).symm : b = IntKind.u64.wrap b) (oO (Xa0 (x := ((r * 1000000000) + a.getD (i - 1) 0)) (y := b) (by omega) (by omega) trivial) (oO (Xb9 (i - 1) (by omega) (by simp only [J1]; (try simp only [List.length_set, List.length_append, List.length_cons, List.length_nil, List.length_replicate]); omega) : (0 : Int) ≤ (((i : Nat) : Int) - 1) ∧ Int.toNat (((i : Nat) : Int) - 1) < (uw out).length) (oO (aI (Xns (i - 1) (by omega) (Zj (by (try simp only [List.length_set, List.length_append, List.length_cons, List.length_nil, List.length_replicate]); omega)) : (uw out)[Int.toNat (((i : Nat) : Int) - 1)]? = some (kw (out.getD (i - 1) 0))) (Xj6 (i - 1) (by omega) (Xbt _ _ _) : (uw (out.set (i - 1) (((r * 1000000000) + a.getD (i - 1) 0) / b))) = (uw out).set (Int.toNat (((i : Nat) : Int) - 1)) (kw (((r * 1000000000) + a.getD (i - 1) 0) / b)))) (oT 1 (oA [ku b, ku (((r * 1000000000) + a.getD (i - 1) 0) / b), kw (((r * 1000000000) + a.getD (i - 1) 0) / b), ku b, ku (((r * 1000000000) + a.getD (i - 1) 0) % b), .tup [.sl 1 (uw (out.set (i - 1) (((r * 1000000000) + a.getD (i - 1) 0) / b)))], kw (out.getD (i - 1) 0)] oN))))))))))) ?_
  refine rh [tv 0 (Xj a), tv 1 (kw b), tv 4 .nil, tv 5 .nil, tv 6 (.own 12 1), tv 7 (ku (((r * 1000000000) + a.getD (i - 1) 0) % b)), tv 8 (ki ((((i - 1) : Nat) : Int) - 1)), ov 12 (Xj (out.set (i - 1) (((r * 1000000000) + a.getD (i - 1) 0) / b)))] (oT 1 (oO (Xax (Yw (by omega) (by omega)) (by omega) : Jx .sub .i64 (((i : Nat) : Int) - 1) 1 = some ((((i - 1) : Nat) : Int) - 1) ∧ ((BinOp.sub = .quo ∨ BinOp.sub = .rem) → 1 ≠ (0 : Int))) (oT 1 (oA [ki ((((i - 1) : Nat) : Int) - 1)] oN)))) ?_
  have hst := Lm.bw_step hi6 rfl (v := Lm.V (a.drop (i - 1))) (x := a.getD (i - 1) 0) (by rw [Lm.getD_drop a (i - 1) (by omega), Lm.V_cons, show i - 1 + 1 = i by omega])
  exact ⟨i - 1, [tv 0 (Xj a), tv 1 (kw b), tv 4 .nil, tv 5 .nil, tv 6 (.own 12 1), tv 7 (ku (((r * 1000000000) + a.getD (i - 1) 0) % b)), tv 8 (ki ((((i - 1) : Nat) : Int) - 1)), ov 12 (Xj (out.set (i - 1) (((r * 1000000000) + a.getD (i - 1) 0) / b)))], (by omega), rfl, (by kernel_rfl), i - 1, ((r * 1000000000) + a.getD (i - 1) 0) % b, out.set (i - 1) (((r * 1000000000) + a.getD (i - 1) 0) / b), ⟨by omega, Lm.G_set hi2 _ (by omega) (by omega), by simp [hi3], by omega, by omega, by rw [Lm.drop_set _ _ (by omega), Lm.V_cons, show i - 1 + 1 = i by omega]; exact hst⟩, rfl, (by kernel_rfl)⟩
 ·
  have h1' := of_decide_eq_false h1
  refine Z3 ?_
  refine rt [tv 4 (.own 12 1), tv 5 (.own 43 1), ov 12 (Xj out), ov 43 (.sl 1 [kw r])] (oT 2 (oO ((K6 (by omega) (by omega)).symm : r = IntKind.u32.wrap r) (oT 3 (oA [kw r] oN)))) ?_
  refine Xio [.own 12 1, .own 43 1] [tv 4 (.own 12 1), tv 5 (.own 43 1), (.o 12, ⟨1, false, Xj out⟩), (.o 43, ⟨1, false, .sl 1 [kw r]⟩)] (by kernel_rfl) (by kernel_rfl) ?_
  refine Xg ?_
  have hz : i = 0 := by omega
  subst hz
  simp only [List.drop_zero] at hi6
  obtain ⟨hq, hr⟩ := Lm.divmod_uniq hi6 hi4 hi5
  exact X7i ((.tup [Xj out, Xj [r]])) (by rw [Lm.eq_dg hi2 hi3 hq, hr])
open Go Go.RowKit
theorem Xew (a v : List Int) (m : Int) (lo n : Nat) (ga : Lm.G a) (gv : Lm.G v) (hl : lo + n ≤ a.length) (hn : n = v.length + 1) (hm0 : 0 ≤ m) (hm1 : m < 1000000000) (hv : Lm.V a < Lm.P (lo + n)) (hs : a.length ≤ 4398046511104) : CW Tryz.prog 299 1 lo n (uw a) [Xj v, ku m] (uw (Lm.dg a.length ((Lm.V a - Lm.P lo * (Lm.V v * m)) % Lm.P (lo + n)))) (.bool (decide ((Lm.V a - Lm.P lo * (Lm.V v * m)) < 0))) := by
 refine X4n (N := 62) X6y Tryz.func299 rfl rfl rfl rfl rfl rfl (Xo6 _) (Xo6 _) ?_
 refine sh 2 [tv 0 (.win 62 1 1 lo n), tv 1 (Xj v), tv 2 (ku m), tv 6 (.bool false), tv 7 (ku 0), tv 8 (ku 0), ov 62 (Xj a)] (oS (oT 1 oN) (oS (oT 2 oN) oN)) ?_
 refine Xe ?_
 refine rt [tv 0 (.win 62 1 1 lo n), tv 1 (Xj v), tv 2 (ku m), tv 6 (.bool false), tv 7 (ku 0), tv 8 (ku 0), tv 14 (ki ((n : Nat) : Int)), tv 15 (ki 0), ov 62 (Xj a)] (oT 3 (oA [.rptr .none] oN)) ?_
 refine X6 ?_
 refine Z0 (fun n0 l0 => ∃ (i : Nat) (c : Int) (bw : Int) (u2 : List Int), (i ≤ n ∧ 0 ≤ c ∧ c < 1000000000 ∧ 0 ≤ bw ∧ bw ≤ 1 ∧ Lm.G u2 ∧ u2.length = a.length ∧ u2.drop (lo + n) = a.drop (lo + n) ∧ Lm.V u2 - Lm.P (lo + i) * (c + bw) = Lm.V a - Lm.P lo * (Lm.V (v.take i) * m)) ∧ (n - i) = n0 ∧ l0 = [tv 0 (.win 62 1 1 lo n), tv 1 (Xj v), tv 2 (ku m), tv 6 (.bool false), tv 7 (ku c), tv 8 (ku bw), tv 14 (ki ((n : Nat) : Int)), tv 15 (ki ((i : Nat) : Int)), ov 62 (Xj u2)]) (n := (n - 0)) (by kernel_rfl) ⟨0, 0, 0, a, ⟨by omega, by omega, by omega, by omega, by omega, ga, rfl, rfl, by simp [Lm.V]⟩, rfl, (by kernel_rfl)⟩ ?_
 rintro n0 l0 ⟨i, c, bw, u2, ⟨hi1, hi2, hi3, hb0, hb1, hi4, hi5, hi6, hi8⟩, rfl, rfl⟩
 have hx := Lm.G_get hi4 (lo + i)
 have hy := Lm.G_get gv i
 have hy0 := Lm.getD_out v (i := i)
 have hym : v.length ≤ i → v.getD i 0 * m = 0 := fun h => by rw [Lm.getD_out v h, Int.zero_mul]
 have hmf := Lm.mul_fits ⟨hi2, hi3⟩ hy ⟨hm0, hm1⟩ ⟨hi2, hi3⟩
 refine rt [tv 0 (.win 62 1 1 lo n), tv 1 (Xj v), tv 2 (ku m), tv 6 (.bool false), tv 7 (ku c), tv 8 (ku bw), tv 14 (ki ((n : Nat) : Int)), tv 15 (ki ((i : Nat) : Int)), tv 16 (.bool (decide (((i : Nat) : Int) < ((n : Nat) : Int)))), ov 62 (Xj u2)] (oO (oB (decide (((i : Nat) : Int) < ((n : Nat) : Int)))) (oA [cT (decide (((i : Nat) : Int) < ((n : Nat) : Int)))] oN)) ?_
 refine Xe (cB (decide (((i : Nat) : Int) < ((n : Nat) : Int))) (fun h1 => ?_) (fun h1 => ?_))
 ·
  have h1' := of_decide_eq_true h1
  refine Xn ?_
  refine Xe ?_
  refine X6 ?_
  refine sh 2 [tv 0 (.win 62 1 1 lo n), tv 1 (Xj v), tv 2 (ku m), tv 6 (.bool false), tv 7 (ku c), tv 8 (ku bw), tv 9 (ki ((i : Nat) : Int)), tv 10 (ku c), tv 14 (ki ((n : Nat) : Int)), tv 15 (ki ((i : Nat) : Int)), ov 62 (Xj u2)] (oS (oT 2 oN) (oS (oT 2 oN) oN)) ?_
  refine Xe ?_
  refine rt [tv 0 (.win 62 1 1 lo n), tv 1 (Xj v), tv 2 (ku m), tv 6 (.bool false), tv 7 (ku c), tv 8 (ku bw), tv 9 (ki ((i : Nat) : Int)), tv 10 (ku c), tv 14 (ki ((n : Nat) : Int)), tv 15 (ki ((i : Nat) : Int)), tv 22 (.bool (decide (((i : Nat) : Int) < ((v.length : Nat) : Int)))), ov 62 (Xj u2)] (oT 2 (oO (aI trivial (Yx _ : ((v.length : Nat) : Int) = (((uw v).length : Nat) : Int))) (oO (oB (decide (((i : Nat) : Int) < ((v.length : Nat) : Int)))) (oA [.tup [ki ((v.length : Nat) : Int)], cT (decide (((i : Nat) : Int) < ((v.length : Nat) : Int)))] oN)))) ?_
  refine cB (decide (((i : Nat) : Int) < ((v.length : Nat) : Int))) (fun h2 => ?_) (fun h2 => ?_)
  ·
   have h2' := of_decide_eq_true h2
   refine rh [tv 0 (.win 62 1 1 lo n), tv 1 (Xj v), tv 2 (ku m), tv 6 (.bool false), tv 7 (ku c), tv 8 (ku bw), tv 9 (ki ((i : Nat) : Int)), tv 10 (ku (c + (v.getD i 0 * m))), tv 14 (ki ((n : Nat) : Int)), tv 15 (ki ((i : Nat) : Int)), ov 62 (Xj u2)] (oT 3 (oO (J0 i (by omega) (Zj (by (try simp only [List.length_set, List.length_append, List.length_cons, List.length_nil, List.length_replicate]); omega)) : (0 : Int) ≤ ((i : Nat) : Int) ∧ (uw v)[Int.toNat ((i : Nat) : Int)]? = some (kw (v.getD i 0))) (oT 1 (oO ((Jj (by omega) (by omega)).symm : (v.getD i 0) = IntKind.u64.wrap (v.getD i 0)) (oT 1 (oO (Xaf (x := (v.getD i 0)) (y := m) (by omega) (by omega)) (oO (Jp (x := c) (y := (v.getD i 0 * m)) (by omega) (by omega)) (oT 1 (oA [kw (v.getD i 0), ku (v.getD i 0), ku (v.getD i 0 * m), ku (c + (v.getD i 0 * m))] oN))))))))) ?_
   refine sh 4 [tv 0 (.win 62 1 1 lo n), tv 1 (Xj v), tv 2 (ku m), tv 6 (.bool false), tv 7 (ku ((c + (v.getD i 0 * m)) / 1000000000)), tv 8 (ku 0), tv 9 (ki ((i : Nat) : Int)), tv 11 (ku (((c + (v.getD i 0 * m)) % 1000000000) + bw)), tv 12 (ku (u2.getD (lo + i) 0)), tv 14 (ki ((n : Nat) : Int)), tv 15 (ki ((i : Nat) : Int)), ov 62 (Xj u2)] (oS (oT 1 (oO (Xae (x := (c + (v.getD i 0 * m))) (y := 1000000000) (by omega) (by omega) (by omega)) (oT 1 oN))) (oS (oT 1 (oO (Xa0 (x := (c + (v.getD i 0 * m))) (y := 1000000000) (by omega) (by omega) trivial) (oT 1 (oO (Jp (x := ((c + (v.getD i 0 * m)) % 1000000000)) (y := bw) (by omega) (by omega)) (oT 1 oN))))) (oS (oT 1 oN) (oS (oT 2 (oO (Xb9 i (by omega) (by omega) : (0 : Int) ≤ ((i : Nat) : Int) ∧ Int.toNat ((i : Nat) : Int) < n) (oO (Zj (by (try simp only [List.length_set, List.length_append, List.length_cons, List.length_nil, List.length_replicate]); omega) : (uw u2)[lo + i]? = some (kw (u2.getD (lo + i) 0))) (oO ((Jj (by omega) (by omega)).symm : (u2.getD (lo + i) 0) = IntKind.u64.wrap (u2.getD (lo + i) 0)) (oT 1 (oA [ku ((c + (v.getD i 0 * m)) / 1000000000), ku ((c + (v.getD i 0 * m)) % 1000000000), ku (((c + (v.getD i 0 * m)) % 1000000000) + bw), .rptr .none, kw (u2.getD (lo + i) 0), ku (u2.getD (lo + i) 0)] oN)))))) oN)))) ?_
   refine Xe ?_
   refine rt [tv 0 (.win 62 1 1 lo n), tv 1 (Xj v), tv 2 (ku m), tv 6 (.bool false), tv 7 (ku ((c + (v.getD i 0 * m)) / 1000000000)), tv 8 (ku 0), tv 9 (ki ((i : Nat) : Int)), tv 11 (ku (((c + (v.getD i 0 * m)) % 1000000000) + bw)), tv 12 (ku (u2.getD (lo + i) 0)), tv 14 (ki ((n : Nat) : Int)), tv 15 (ki ((i : Nat) : Int)), tv 45 (.bool (decide (u2.getD (lo + i) 0 < (((c + (v.getD i 0 * m)) % 1000000000) + bw)))), ov 62 (Xj u2)] (oT 2 (oO (oB (decide (u2.getD (lo + i) 0 < (((c + (v.getD i 0 * m)) % 1000000000) + bw)))) (oA [cT (decide (u2.getD (lo + i) 0 < (((c + (v.getD i 0 * m)) % 1000000000) + bw)))] oN))) ?_
   refine cB (decide (u2.getD (lo + i) 0 < (((c + (v.getD i 0 * m)) % 1000000000) + bw))) (fun h3 => ?_) (fun h3 => ?_)
   ·
    have h3' := of_decide_eq_true h3
    refine rh [tv 0 (.win 62 1 1 lo n), tv 1 (Xj v), tv 2 (ku m), tv 6 (.bool false), tv 7 (ku ((c + (v.getD i 0 * m)) / 1000000000)), tv 8 (ku 1), tv 9 (ki ((i : Nat) : Int)), tv 11 (ku (((c + (v.getD i 0 * m)) % 1000000000) + bw)), tv 12 (ku (u2.getD (lo + i) 0 + 1000000000)), tv 14 (ki ((n : Nat) : Int)), tv 15 (ki ((i : Nat) : Int)), ov 62 (Xj u2)] (oT 1 (oO (Jp (x := (u2.getD (lo + i) 0)) (y := 1000000000) (by omega) (by omega)) (oT 2 (oA [ku (u2.getD (lo + i) 0 + 1000000000)] oN)))) ?_
    refine rh [tv 0 (.win 62 1 1 lo n), tv 1 (Xj v), tv 2 (ku m), tv 6 (.bool false), tv 7 (ku ((c + (v.getD i 0 * m)) / 1000000000)), tv 8 (ku 1), tv 14 (ki ((n : Nat) : Int)), tv 15 (ki ((i : Nat) : Int)), ov 62 (Xj (u2.set (lo + i) ((u2.getD (lo + i) 0 + 1000000000) - (((c + (v.getD i 0 * m)) % 1000000000) + bw))))] (oT 4 (oO (Xcw (x := (u2.getD (lo + i) 0 + 1000000000)) (y := (((c + (v.getD i 0 * m)) % 1000000000) + bw)) (by omega) (by omega)) (oO ((K6 (by omega) (by omega)).symm : ((u2.getD (lo + i) 0 + 1000000000) - (((c + (v.getD i 0 * m)) % 1000000000) + bw)) = IntKind.u32.wrap ((u2.getD (lo + i) 0 + 1000000000) - (((c + (v.getD i 0 * m)) % 1000000000) + bw))) (oO (Xb9 i (by omega) (by omega) : (0 : Int) ≤ ((i : Nat) : Int) ∧ Int.toNat ((i : Nat) : Int) < n) (oO (aI (Zj (by (try simp only [List.length_set, List.length_append, List.length_cons, List.length_nil, List.length_replicate]); omega) : (uw u2)[lo + i]? = some (kw (u2.getD (lo + i) 0))) (Xbt _ _ _ : (uw (u2.set (lo + i) ((u2.getD (lo + i) 0 + 1000000000) - (((c + (v.getD i 0 * m)) % 1000000000) + bw)))) = (uw u2).set (lo + i) (kw ((u2.getD (lo + i) 0 + 1000000000) - (((c + (v.getD i 0 * m)) % 1000000000) + bw))))) (oA [ku ((u2.getD (lo + i) 0 + 1000000000) - (((c + (v.getD i 0 * m)) % 1000000000) + bw)), kw ((u2.getD (lo + i) 0 + 1000000000) - (((c + (v.getD i 0 * m)) % 1000000000) + bw)), .rptr .none, .tup [.sl 1 (uw (u2.set (lo + i) ((u2.getD (lo + i) 0 + 1000000000) - (((c + (v.getD i 0 * m)) % 1000000000) + bw))))], kw (u2.getD (lo + i) 0)] oN)))))) ?_
    refine rh [tv 0 (.win 62 1 1 lo n), tv 1 (Xj v), tv 2 (ku m), tv 6 (.bool false), tv 7 (ku ((c + (v.getD i 0 * m)) / 1000000000)), tv 8 (ku 1), tv 14 (ki ((n : Nat) : Int)), tv 15 (ki ((i + 1 : Nat) : Int)), ov 62 (Xj (u2.set (lo + i) ((u2.getD (lo + i) 0 + 1000000000) - (((c + (v.getD i 0 * m)) % 1000000000) + bw))))] (oO (X3 (x := ((i : Nat) : Int)) (y := 1) (by omega) (by omega)) (oT 1 (oA [ki ((i + 1 : Nat) : Int)] oN))) ?_
    have hvt := Lm.V_take_next v i
    have hP : Lm.P (lo + i) = Lm.P lo * Lm.P i := Lm.P_add lo i
    exact ⟨n - (i + 1), [tv 0 (.win 62 1 1 lo n), tv 1 (Xj v), tv 2 (ku m), tv 6 (.bool false), tv 7 (ku ((c + (v.getD i 0 * m)) / 1000000000)), tv 8 (ku 1), tv 14 (ki ((n : Nat) : Int)), tv 15 (ki ((i + 1 : Nat) : Int)), ov 62 (Xj (u2.set (lo + i) ((u2.getD (lo + i) 0 + 1000000000) - (((c + (v.getD i 0 * m)) % 1000000000) + bw))))], (by omega), rfl, (by kernel_rfl), i + 1, (c + (v.getD i 0 * m)) / 1000000000, 1, u2.set (lo + i) ((u2.getD (lo + i) 0 + 1000000000) - (((c + (v.getD i 0 * m)) % 1000000000) + bw)), ⟨by omega, by omega, by omega, by omega, by omega, Lm.G_set hi4 _ (by omega) (by omega), by simp [hi5], by rw [List.drop_set_of_lt (by omega)]; exact hi6, by rw [← Nat.add_assoc, Lm.P_succ]; exact (Lm.msub_step (z := v.getD i 0 * m) hi8 (by omega) (Lm.V_set _ _ _ (by omega))).trans (by rw [hvt, hP]; grind)⟩, rfl, (by kernel_rfl)⟩
   ·
    have h3' := of_decide_eq_false h3
    refine Xn ?_
    refine rh [tv 0 (.win 62 1 1 lo n), tv 1 (Xj v), tv 2 (ku m), tv 6 (.bool false), tv 7 (ku ((c + (v.getD i 0 * m)) / 1000000000)), tv 8 (ku 0), tv 14 (ki ((n : Nat) : Int)), tv 15 (ki ((i : Nat) : Int)), ov 62 (Xj (u2.set (lo + i) (u2.getD (lo + i) 0 - (((c + (v.getD i 0 * m)) % 1000000000) + bw))))] (oT 4 (oO (Xcw (x := (u2.getD (lo + i) 0)) (y := (((c + (v.getD i 0 * m)) % 1000000000) + bw)) (by omega) (by omega)) (oO ((K6 (by omega) (by omega)).symm : (u2.getD (lo + i) 0 - (((c + (v.getD i 0 * m)) % 1000000000) + bw)) = IntKind.u32.wrap (u2.getD (lo + i) 0 - (((c + (v.getD i 0 * m)) % 1000000000) + bw))) (oO (Xb9 i (by omega) (by omega) : (0 : Int) ≤ ((i : Nat) : Int) ∧ Int.toNat ((i : Nat) : Int) < n) (oO (aI (Zj (by (try simp only [List.length_set, List.length_append, List.length_cons, List.length_nil, List.length_replicate]); omega) : (uw u2)[lo + i]? = some (kw (u2.getD (lo + i) 0))) (Xbt _ _ _ : (uw (u2.set (lo + i) (u2.getD (lo + i) 0 - (((c + (v.getD i 0 * m)) % 1000000000) + bw)))) = (uw u2).set (lo + i) (kw (u2.getD (lo + i) 0 - (((c + (v.getD i 0 * m)) % 1000000000) + bw))))) (oA [ku (u2.getD (lo + i) 0 - (((c + (v.getD i 0 * m)) % 1000000000) + bw)), kw (u2.getD (lo + i) 0 - (((c + (v.getD i 0 * m)) % 1000000000) + bw)), .rptr .none, .tup [.sl 1 (uw (u2.set (lo + i) (u2.getD (lo + i) 0 - (((c + (v.getD i 0 * m)) % 1000000000) + bw))))], kw (u2.getD (lo + i) 0)] oN)))))) ?_
    refine rh [tv 0 (.win 62 1 1 lo n), tv 1 (Xj v), tv 2 (ku m), tv 6 (.bool false), tv 7 (ku ((c + (v.getD i 0 * m)) / 1000000000)), tv 8 (ku 0), tv 14 (ki ((n : Nat) : Int)), tv 15 (ki ((i + 1 : Nat) : Int)), ov 62 (Xj (u2.set (lo + i) (u2.getD (lo + i) 0 - (((c + (v.getD i 0 * m)) % 1000000000) + bw))))] (oO (X3 (x := ((i : Nat) : Int)) (y := 1) (by omega) (by omega)) (oT 1 (oA [ki ((i + 1 : Nat) : Int)] oN))) ?_
    have hvt := Lm.V_take_next v i
    have hP : Lm.P (lo + i) = Lm.P lo * Lm.P i := Lm.P_add lo i
    exact ⟨n - (i + 1), [tv 0 (.win 62 1 1 lo n), tv 1 (Xj v), tv 2 (ku m), tv 6 (.bool false), tv 7 (ku ((c + (v.getD i 0 * m)) / 1000000000)), tv 8 (ku 0), tv 14 (ki ((n : Nat) : Int)), tv 15 (ki ((i + 1 : Nat) : Int)), ov 62 (Xj (u2.set (lo + i) (u2.getD (lo + i) 0 - (((c + (v.getD i 0 * m)) % 1000000000) + bw))))], (by omega), rfl, (by kernel_rfl), i + 1, (c + (v.getD i 0 * m)) / 1000000000, 0, u2.set (lo + i) (u2.getD (lo + i) 0 - (((c + (v.getD i 0 * m)) % 1000000000) + bw)), ⟨by omega, by omega, by omega, by omega, by omega, Lm.G_set hi4 _ (by omega) (by omega), by simp [hi5], by rw [List.drop_set_of_lt (by omega)]; exact hi6, by rw [← Nat.add_assoc, Lm.P_succ]; exact (Lm.msub_step (z := v.getD i 0 * m) hi8 (by omega) (Lm.V_set _ _ _ (by omega))).trans (by rw [hvt, hP]; grind)⟩, rfl, (by kernel_rfl)⟩
  ·
   have h2' := of_decide_eq_false h2
   refine Xn ?_
   refine sh 4 [tv 0 (.win 62 1 1 lo n), tv 1 (Xj v), tv 2 (ku m), tv 6 (.bool false), tv 7 (ku (c / 1000000000)), tv 8 (ku 0), tv 9 (ki ((i : Nat) : Int)), tv 11 (ku ((c % 1000000000) + bw)), tv 12 (ku (u2.getD (lo + i) 0)), tv 14 (ki ((n : Nat) : Int)), tv 15 (ki ((i : Nat) : Int)), ov 62 (Xj u2)] (oS (oT 1 (oO (Xae (x := c) (y := 1000000000) (by omega) (by omega) (by omega)) (oT 1 oN))) (oS (oT 1 (oO (Xa0 (x := c) (y := 1000000000) (by omega) (by omega) trivial) (oT 1 (oO (Jp (x := (c % 1000000000)) (y := bw) (by omega) (by omega)) (oT 1 oN))))) (oS (oT 1 oN) (oS (oT 2 (oO (Xb9 i (by omega) (by omega) : (0 : Int) ≤ ((i : Nat) : Int) ∧ Int.toNat ((i : Nat) : Int) < n) (oO (Zj (by (try simp only [List.length_set, List.length_append, List.length_cons, List.length_nil, List.length_replicate]); omega) : (uw u2)[lo + i]? = some (kw (u2.getD (lo + i) 0))) (oO ((Jj (by omega) (by omega)).symm : (u2.getD (lo + i) 0) = IntKind.u64.wrap (u2.getD (lo + i) 0)) (oT 1 (oA [ku (c / 1000000000), ku (c % 1000000000), ku ((c % 1000000000) + bw), .rptr .none, kw (u2.getD (lo + i) 0), ku (u2.getD (lo + i) 0)] oN)))))) oN)))) ?_
   refine Xe ?_
   refine rt [tv 0 (.win 62 1 1 lo n), tv 1 (Xj v), tv 2 (ku m), tv 6 (.bool false), tv 7 (ku (c / 1000000000)), tv 8 (ku 0), tv 9 (ki ((i : Nat) : Int)), tv 11 (ku ((c % 1000000000) + bw)), tv 12 (ku (u2.getD (lo + i) 0)), tv 14 (ki ((n : Nat) : Int)), tv 15 (ki ((i : Nat) : Int)), tv 45 (.bool (decide (u2.getD (lo + i) 0 < ((c % 1000000000) + bw)))), ov 62 (Xj u2)] (oT 2 (oO (oB (decide (u2.getD (lo + i) 0 < ((c % 1000000000) + bw)))) (oA [cT (decide (u2.getD (lo + i) 0 < ((c % 1000000000) + bw)))] oN))) ?_
   refine cB (decide (u2.getD (lo + i) 0 < ((c % 1000000000) + bw))) (fun h4 => ?_) (fun h4 => ?_)
   ·
    have h4' := of_decide_eq_true h4
    refine rh [tv 0 (.win 62 1 1 lo n), tv 1 (Xj v), tv 2 (ku m), tv 6 (.bool false), tv 7 (ku (c / 1000000000)), tv 8 (ku 1), tv 9 (ki ((i : Nat) : Int)), tv 11 (ku ((c % 1000000000) + bw)), tv 12 (ku (u2.getD (lo + i) 0 + 1000000000)), tv 14 (ki ((n : Nat) : Int)), tv 15 (ki ((i : Nat) : Int)), ov 62 (Xj u2)] (oT 1 (oO (Jp (x := (u2.getD (lo + i) 0)) (y := 1000000000) (by omega) (by omega)) (oT 2 (oA [ku (u2.getD (lo + i) 0 + 1000000000)] oN)))) ?_
    refine rh [tv 0 (.win 62 1 1 lo n), tv 1 (Xj v), tv 2 (ku m), tv 6 (.bool false), tv 7 (ku (c / 1000000000)), tv 8 (ku 1), tv 14 (ki ((n : Nat) : Int)), tv 15 (ki ((i : Nat) : Int)), ov 62 (Xj (u2.set (lo + i) ((u2.getD (lo + i) 0 + 1000000000) - ((c % 1000000000) + bw))))] (oT 4 (oO (Xcw (x := (u2.getD (lo + i) 0 + 1000000000)) (y := ((c % 1000000000) + bw)) (by omega) (by omega)) (oO ((K6 (by omega) (by omega)).symm : ((u2.getD (lo + i) 0 + 1000000000) - ((c % 1000000000) + bw)) = IntKind.u32.wrap ((u2.getD (lo + i) 0 + 1000000000) - ((c % 1000000000) + bw))) (oO (Xb9 i (by omega) (by omega) : (0 : Int) ≤ ((i : Nat) : Int) ∧ Int.toNat ((i : Nat) : Int) < n) (oO (aI (Zj (by (try simp only [List.length_set, List.length_append, List.length_cons, List.length_nil, List.length_replicate]); omega) : (uw u2)[lo + i]? = some (kw (u2.getD (lo + i) 0))) (Xbt _ _ _ : (uw (u2.set (lo + i) ((u2.getD (lo + i) 0 + 1000000000) - ((c % 1000000000) + bw)))) = (uw u2).set (lo + i) (kw ((u2.getD (lo + i) 0 + 1000000000) - ((c % 1000000000) + bw))))) (oA [ku ((u2.getD (lo + i) 0 + 1000000000) - ((c % 1000000000) + bw)), kw ((u2.getD (lo + i) 0 + 1000000000) - ((c % 1000000000) + bw)), .rptr .none, .tup [.sl 1 (uw (u2.set (lo + i) ((u2.getD (lo + i) 0 + 1000000000) - ((c % 1000000000) + bw))))], kw (u2.getD (lo + i) 0)] oN)))))) ?_
    refine rh [tv 0 (.win 62 1 1 lo n), tv 1 (Xj v), tv 2 (ku m), tv 6 (.bool false), tv 7 (ku (c / 1000000000)), tv 8 (ku 1), tv 14 (ki ((n : Nat) : Int)), tv 15 (ki ((i + 1 : Nat) : Int)), ov 62 (Xj (u2.set (lo + i) ((u2.getD (lo + i) 0 + 1000000000) - ((c % 1000000000) + bw))))] (oO (X3 (x := ((i : Nat) : Int)) (y := 1) (by omega) (by omega)) (oT 1 (oA [ki ((i + 1 : Nat) : Int)] oN))) ?_
    have hvt := Lm.V_take_next v i
    have hP : Lm.P (lo + i) = Lm.P lo * Lm.P i := Lm.P_add lo i
    exact ⟨n - (i + 1), [tv 0 (.win 62 1 1 lo n), tv 1 (Xj v), tv 2 (ku m), tv 6 (.bool false), tv 7 (ku (c / 1000000000)), tv 8 (ku 1), tv 14 (ki ((n : Nat) : Int)), tv 15 (ki ((i + 1 : Nat) : Int)), ov 62 (Xj (u2.set (lo + i) ((u2.getD (lo + i) 0 + 1000000000) - ((c % 1000000000) + bw))))], (by omega), rfl, (by kernel_rfl), i + 1, c / 1000000000, 1, u2.set (lo + i) ((u2.getD (lo + i) 0 + 1000000000) - ((c % 1000000000) + bw)), ⟨by omega, by omega, by omega, by omega, by omega, Lm.G_set hi4 _ (by omega) (by omega), by simp [hi5], by rw [List.drop_set_of_lt (by omega)]; exact hi6, by rw [← Nat.add_assoc, Lm.P_succ]; exact (Lm.msub_step (z := v.getD i 0 * m) hi8 (by omega) (Lm.V_set _ _ _ (by omega))).trans (by rw [hvt, hP]; grind)⟩, rfl, (by kernel_rfl)⟩
   ·
    have h4' := of_decide_eq_false h4
    refine Xn ?_
    refine rh [tv 0 (.win 62 1 1 lo n), tv 1 (Xj v), tv 2 (ku m), tv 6 (.bool false), tv 7 (ku (c / 1000000000)), tv 8 (ku 0), tv 14 (ki ((n : Nat) : Int)), tv 15 (ki ((i : Nat) : Int)), ov 62 (Xj (u2.set (lo + i) (u2.getD (lo + i) 0 - ((c % 1000000000) + bw))))] (oT 4 (oO (Xcw (x := (u2.getD (lo + i) 0)) (y := ((c % 1000000000) + bw)) (by omega) (by omega)) (oO ((K6 (by omega) (by omega)).symm : (u2.getD (lo + i) 0 - ((c % 1000000000) + bw)) = IntKind.u32.wrap (u2.getD (lo + i) 0 - ((c % 1000000000) + bw))) (oO (Xb9 i (by omega) (by omega) : (0 : Int) ≤ ((i : Nat) : Int) ∧ Int.toNat ((i : Nat) : Int) < n) (oO (aI (Zj (by (try simp only [List.length_set, List.length_append, List.length_cons, List.length_nil, List.length_replicate]); omega) : (uw u2)[lo + i]? = some (kw (u2.getD (lo + i) 0))) (Xbt _ _ _ : (uw (u2.set (lo + i) (u2.getD (lo + i) 0 - ((c % 1000000000) + bw)))) = (uw u2).set (lo + i) (kw (u2.getD (lo + i) 0 - ((c % 1000000000) + bw))))) (oA [ku (u2.getD (lo + i) 0 - ((c % 1000000000) + bw)), kw (u2.getD (lo + i) 0 - ((c % 1000000000) + bw)), .rptr .none, .tup [.sl 1 (uw (u2.set (lo + i) (u2.getD (lo + i) 0 - ((c % 1000000000) + bw))))], kw (u2.getD (lo + i) 0)] oN)))))) ?_
    refine rh [tv 0 (.win 62 1 1 lo n), tv 1 (Xj v), tv 2 (ku m), tv 6 (.bool false), tv 7 (ku (c / 1000000000)), tv 8 (ku 0), tv 14 (ki ((n : Nat) : Int)), tv 15 (ki ((i + 1 : Nat) : Int)), ov 62 (Xj (u2.set (lo + i) (u2.getD (lo + i) 0 - ((c % 1000000000) + bw))))] (oO (X3 (x := ((i : Nat) : Int)) (y := 1) (by omega) (by omega)) (oT 1 (oA [ki ((i + 1 : Nat) : Int)] oN))) ?_
    have hvt := Lm.V_take_next v i
    have hP : Lm.P (lo + i) = Lm.P lo * Lm.P i := Lm.P_add lo i
    exact ⟨n - (i + 1), [tv 0 (.win 62 1 1 lo n), tv 1 (Xj v), tv 2 (ku m), tv 6 (.bool false), tv 7 (ku (c / 1000000000)), tv 8 (ku 0), tv 14 (ki ((n : Nat) : Int)), tv 15 (ki ((i + 1 : Nat) : Int)), ov 62 (Xj (u2.set (lo + i) (u2.getD (lo + i) 0 - ((c % 1000000000) + bw))))], (by omega), rfl, (by kernel_rfl), i + 1, c / 1000000000, 0, u2.set (lo + i) (u2.getD (lo + i) 0 - ((c % 1000000000) + bw)), ⟨by omega, by omega, by omega, by omega, by omega, Lm.G_set hi4 _ (by omega) (by omega), by simp [hi5], by rw [List.drop_set_of_lt (by omega)]; exact hi6, by rw [← Nat.add_assoc, Lm.P_succ]; exact (Lm.msub_step (z := v.getD i 0 * m) hi8 (by omega) (Lm.V_set _ _ _ (by omega))).trans (by rw [hvt, hP]; grind)⟩, rfl, (by kernel_rfl)⟩
 ·
  have h1' := of_decide_eq_false h1
  refine Z3 ?_
  refine Xe ?_
  rcases X7 (decide (0 < bw)) with h5 | h5
  ·
   have h5' := of_decide_eq_true h5
   refine rh [tv 6 (.bool true), ov 62 (Xj u2)] (oT 1 (oO (aI trivial (h5 : (decide (0 < bw)) = true)) (oT 1 (oO (gn [false]) (oO (gn [true]) (oT 2 (oA [cT true, cT (decide (0 < c))] oN))))))) ?_
   refine Xg ?_
   have hin : i = n := by omega
   subst hin
   rw [Lm.V_take_all v (by omega)] at hi8
   have hlt := Lm.V_lt_drop ga hi4 hi5 hi6 hv
   have hE : Lm.V u2 - Lm.P (lo + i) * (c + bw) = Lm.V a - Lm.P lo * (Lm.V v * m) := by rw [hi8]
   have h0 := (Lm.V_bound hi4).1
   have hm := Lm.mod_of hE h0 hlt
   have hng := Lm.neg_of hE h0 hlt (by omega)
   exact ⟨Xyt (r := (.bool true)) (by kernel_rfl) (congrArg AV.bool (decide_eq_true (hng.1 (by omega))).symm), Xxe (v := (Xj u2)) (by kernel_rfl) (congrArg Xj (Lm.eq_dg hi4 hi5 hm))⟩
  ·
   have h5' := of_decide_eq_false h5
   refine rh [tv 6 (.bool (decide (0 < c))), ov 62 (Xj u2)] (oT 1 (oO (aI trivial (h5 : (decide (0 < bw)) = false)) (oT 1 (oO (Xh 1 trivial) (oO (Xh 1 (oB (decide (0 < c)))) (oT 2 (oA [cT false, cT (decide (0 < c))] oN))))))) ?_
   refine Xg ?_
   have hin : i = n := by omega
   subst hin
   rw [Lm.V_take_all v (by omega)] at hi8
   have hlt := Lm.V_lt_drop ga hi4 hi5 hi6 hv
   have hE : Lm.V u2 - Lm.P (lo + i) * (c + bw) = Lm.V a - Lm.P lo * (Lm.V v * m) := by rw [hi8]
   have h0 := (Lm.V_bound hi4).1
   have hm := Lm.mod_of hE h0 hlt
   have hng := Lm.neg_of hE h0 hlt (by omega)
   exact ⟨Xyt (r := (.bool (decide (0 < c)))) (by kernel_rfl) (congrArg AV.bool (decide_eq_decide.2 ⟨fun h => hng.1 (by omega), fun h => by have := hng.2 h; omega⟩)), Xxe (v := (Xj u2)) (by kernel_rfl) (congrArg Xj (Lm.eq_dg hi4 hi5 hm))⟩
theorem Xe7 (a v : List Int) (lo n : Nat) (ga : Lm.G a) (gv : Lm.G v) (hl : lo + n ≤ a.length) (hn : n = v.length + 1) (hv : Lm.V a < Lm.P (lo + n)) (hs : a.length ≤ 4398046511104) : CW Tryz.prog 300 1 lo n (uw a) [Xj v] (uw (Lm.dg a.length ((Lm.V a + Lm.P lo * Lm.V v) % Lm.P (lo + n)))) (.tup []) := by
 refine X4n (N := 37) X6y Tryz.func300 rfl rfl rfl rfl rfl rfl (Xo6 _) (Xo6 _) ?_
 refine sh 2 [tv 0 (.win 37 1 1 lo n), tv 1 (Xj v), tv 4 (kw 0), tv 8 (ki ((n : Nat) : Int)), tv 9 (ki 0), ov 37 (Xj a)] (oS (oT 1 oN) (oS (oT 3 (oA [.rptr .none] oN)) oN)) ?_
 refine X6 ?_
 refine Z0 (fun n0 l0 => ∃ (i : Nat) (c : Int) (u2 : List Int), (i ≤ n ∧ 0 ≤ c ∧ c ≤ 1 ∧ Lm.G u2 ∧ u2.length = a.length ∧ u2.drop (lo + n) = a.drop (lo + n) ∧ Lm.V u2 + Lm.P (lo + i) * c = Lm.V a + Lm.P lo * Lm.V (v.take i)) ∧ (n - i) = n0 ∧ l0 = [tv 0 (.win 37 1 1 lo n), tv 1 (Xj v), tv 4 (kw c), tv 8 (ki ((n : Nat) : Int)), tv 9 (ki ((i : Nat) : Int)), ov 37 (Xj u2)]) (n := (n - 0)) (by kernel_rfl) ⟨0, 0, a, ⟨by omega, by omega, by omega, ga, rfl, rfl, by simp [Lm.V]⟩, rfl, (by kernel_rfl)⟩ ?_
 rintro n0 l0 ⟨i, c, u2, ⟨hi1, hi2, hi3, hi4, hi5, hi6, hi8⟩, rfl, rfl⟩
 have hx := Lm.G_get hi4 (lo + i)
 have hy := Lm.G_get gv i
 have hy0 := Lm.getD_out v (i := i)
 refine rt [tv 0 (.win 37 1 1 lo n), tv 1 (Xj v), tv 4 (kw c), tv 8 (ki ((n : Nat) : Int)), tv 9 (ki ((i : Nat) : Int)), tv 10 (.bool (decide (((i : Nat) : Int) < ((n : Nat) : Int)))), ov 37 (Xj u2)] (oO (oB (decide (((i : Nat) : Int) < ((n : Nat) : Int)))) (oA [cT (decide (((i : Nat) : Int) < ((n : Nat) : Int)))] oN)) ?_
 refine Xe (cB (decide (((i : Nat) : Int) < ((n : Nat) : Int))) (fun h1 => ?_) (fun h1 => ?_))
 ·
  have h1' := of_decide_eq_true h1
  refine Xn ?_
  refine Xe ?_
  refine X6 ?_
  refine sh 2 [tv 0 (.win 37 1 1 lo n), tv 1 (Xj v), tv 4 (kw c), tv 5 (ki ((i : Nat) : Int)), tv 6 (kw (u2.getD (lo + i) 0 + c)), tv 8 (ki ((n : Nat) : Int)), tv 9 (ki ((i : Nat) : Int)), ov 37 (Xj u2)] (oS (oT 2 oN) (oS (oT 2 (oO (Xb9 i (by omega) (by omega) : (0 : Int) ≤ ((i : Nat) : Int) ∧ Int.toNat ((i : Nat) : Int) < n) (oO (Zj (by (try simp only [List.length_set, List.length_append, List.length_cons, List.length_nil, List.length_replicate]); omega) : (uw u2)[lo + i]? = some (kw (u2.getD (lo + i) 0))) (oT 1 (oO (Xa4 (x := (u2.getD (lo + i) 0)) (y := c) (by omega) (by omega)) (oT 1 (oA [.rptr .none, kw (u2.getD (lo + i) 0), kw (u2.getD (lo + i) 0 + c)] oN))))))) oN)) ?_
  refine Xe ?_
  refine rt [tv 0 (.win 37 1 1 lo n), tv 1 (Xj v), tv 4 (kw c), tv 5 (ki ((i : Nat) : Int)), tv 6 (kw (u2.getD (lo + i) 0 + c)), tv 8 (ki ((n : Nat) : Int)), tv 9 (ki ((i : Nat) : Int)), tv 21 (.bool (decide (((i : Nat) : Int) < ((v.length : Nat) : Int)))), ov 37 (Xj u2)] (oT 2 (oO (aI trivial (Yx _ : ((v.length : Nat) : Int) = (((uw v).length : Nat) : Int))) (oO (oB (decide (((i : Nat) : Int) < ((v.length : Nat) : Int)))) (oA [.tup [ki ((v.length : Nat) : Int)], cT (decide (((i : Nat) : Int) < ((v.length : Nat) : Int)))] oN)))) ?_
  refine cB (decide (((i : Nat) : Int) < ((v.length : Nat) : Int))) (fun h2 => ?_) (fun h2 => ?_)
  ·
   have h2' := of_decide_eq_true h2
   refine rh [tv 0 (.win 37 1 1 lo n), tv 1 (Xj v), tv 4 (kw c), tv 5 (ki ((i : Nat) : Int)), tv 6 (kw ((u2.getD (lo + i) 0 + c) + v.getD i 0)), tv 8 (ki ((n : Nat) : Int)), tv 9 (ki ((i : Nat) : Int)), ov 37 (Xj u2)] (oT 3 (oO (J0 i (by omega) (Zj (by (try simp only [List.length_set, List.length_append, List.length_cons, List.length_nil, List.length_replicate]); omega)) : (0 : Int) ≤ ((i : Nat) : Int) ∧ (uw v)[Int.toNat ((i : Nat) : Int)]? = some (kw (v.getD i 0))) (oT 1 (oO (Xa4 (x := (u2.getD (lo + i) 0 + c)) (y := (v.getD i 0)) (by omega) (by omega)) (oT 1 (oA [kw (v.getD i 0), kw ((u2.getD (lo + i) 0 + c) + v.getD i 0)] oN)))))) ?_
   refine rt [tv 0 (.win 37 1 1 lo n), tv 1 (Xj v), tv 4 (kw 0), tv 5 (ki ((i : Nat) : Int)), tv 6 (kw ((u2.getD (lo + i) 0 + c) + v.getD i 0)), tv 8 (ki ((n : Nat) : Int)), tv 9 (ki ((i : Nat) : Int)), ov 37 (Xj u2)] (oT 1 oN) ?_
   refine Xe ?_
   refine rt [tv 0 (.win 37 1 1 lo n), tv 1 (Xj v), tv 4 (kw 0), tv 5 (ki ((i : Nat) : Int)), tv 6 (kw ((u2.getD (lo + i) 0 + c) + v.getD i 0)), tv 8 (ki ((n : Nat) : Int)), tv 9 (ki ((i : Nat) : Int)), tv 29 (.bool (decide (1000000000 ≤ ((u2.getD (lo + i) 0 + c) + v.getD i 0)))), ov 37 (Xj u2)] (oT 1 (oO (oB (decide (1000000000 ≤ ((u2.getD (lo + i) 0 + c) + v.getD i 0)))) (oA [cT (decide (1000000000 ≤ ((u2.getD (lo + i) 0 + c) + v.getD i 0)))] oN))) ?_
   refine cB (decide (1000000000 ≤ ((u2.getD (lo + i) 0 + c) + v.getD i 0))) (fun h3 => ?_) (fun h3 => ?_)
   ·
    have h3' := of_decide_eq_true h3
    refine rh [tv 0 (.win 37 1 1 lo n), tv 1 (Xj v), tv 4 (kw 1), tv 5 (ki ((i : Nat) : Int)), tv 6 (kw (((u2.getD (lo + i) 0 + c) + v.getD i 0) - 1000000000)), tv 8 (ki ((n : Nat) : Int)), tv 9 (ki ((i : Nat) : Int)), ov 37 (Xj u2)] (oT 1 (oO (Xa6 (x := ((u2.getD (lo + i) 0 + c) + v.getD i 0)) (y := 1000000000) (by omega) (by omega)) (oT 2 (oA [kw (((u2.getD (lo + i) 0 + c) + v.getD i 0) - 1000000000)] oN)))) ?_
    refine rh [tv 0 (.win 37 1 1 lo n), tv 1 (Xj v), tv 4 (kw 1), tv 8 (ki ((n : Nat) : Int)), tv 9 (ki ((i : Nat) : Int)), ov 37 (Xj (u2.set (lo + i) (((u2.getD (lo + i) 0 + c) + v.getD i 0) - 1000000000)))] (oT 3 (oO (Xb9 i (by omega) (by omega) : (0 : Int) ≤ ((i : Nat) : Int) ∧ Int.toNat ((i : Nat) : Int) < n) (oO (aI (Zj (by (try simp only [List.length_set, List.length_append, List.length_cons, List.length_nil, List.length_replicate]); omega) : (uw u2)[lo + i]? = some (kw (u2.getD (lo + i) 0))) (Xbt _ _ _ : (uw (u2.set (lo + i) (((u2.getD (lo + i) 0 + c) + v.getD i 0) - 1000000000))) = (uw u2).set (lo + i) (kw (((u2.getD (lo + i) 0 + c) + v.getD i 0) - 1000000000)))) (oA [.rptr .none, .tup [.sl 1 (uw (u2.set (lo + i) (((u2.getD (lo + i) 0 + c) + v.getD i 0) - 1000000000)))], kw (u2.getD (lo + i) 0)] oN)))) ?_
    refine rh [tv 0 (.win 37 1 1 lo n), tv 1 (Xj v), tv 4 (kw 1), tv 8 (ki ((n : Nat) : Int)), tv 9 (ki ((i + 1 : Nat) : Int)), ov 37 (Xj (u2.set (lo + i) (((u2.getD (lo + i) 0 + c) + v.getD i 0) - 1000000000)))] (oO (X3 (x := ((i : Nat) : Int)) (y := 1) (by omega) (by omega)) (oT 1 (oA [ki ((i + 1 : Nat) : Int)] oN))) ?_
    have hvt := Lm.V_take_next v i
    have hP : Lm.P (lo + i) = Lm.P lo * Lm.P i := Lm.P_add lo i
    exact ⟨n - (i + 1), [tv 0 (.win 37 1 1 lo n), tv 1 (Xj v), tv 4 (kw 1), tv 8 (ki ((n : Nat) : Int)), tv 9 (ki ((i + 1 : Nat) : Int)), ov 37 (Xj (u2.set (lo + i) (((u2.getD (lo + i) 0 + c) + v.getD i 0) - 1000000000)))], (by omega), rfl, (by kernel_rfl), i + 1, 1, u2.set (lo + i) (((u2.getD (lo + i) 0 + c) + v.getD i 0) - 1000000000), ⟨by omega, by omega, by omega, Lm.G_set hi4 _ (by omega) (by omega), by simp [hi5], by rw [List.drop_set_of_lt (by omega)]; exact hi6, by rw [← Nat.add_assoc, Lm.P_succ]; exact (Lm.madd_step (z := v.getD i 0) hi8 (by omega) (Lm.V_set _ _ _ (by omega))).trans (by rw [hvt, hP]; grind)⟩, rfl, (by kernel_rfl)⟩
   ·
    have h3' := of_decide_eq_false h3
    refine Xn ?_
    refine rh [tv 0 (.win 37 1 1 lo n), tv 1 (Xj v), tv 4 (kw 0), tv 8 (ki ((n : Nat) : Int)), tv 9 (ki ((i : Nat) : Int)), ov 37 (Xj (u2.set (lo + i) ((u2.getD (lo + i) 0 + c) + v.getD i 0)))] (oT 3 (oO (Xb9 i (by omega) (by omega) : (0 : Int) ≤ ((i : Nat) : Int) ∧ Int.toNat ((i : Nat) : Int) < n) (oO (aI (Zj (by (try simp only [List.length_set, List.length_append, List.length_cons, List.length_nil, List.length_replicate]); omega) : (uw u2)[lo + i]? = some (kw (u2.getD (lo + i) 0))) (Xbt _ _ _ : (uw (u2.set (lo + i) ((u2.getD (lo + i) 0 + c) + v.getD i 0))) = (uw u2).set (lo + i) (kw ((u2.getD (lo + i) 0 + c) + v.getD i 0)))) (oA [.rptr .none, .tup [.sl 1 (uw (u2.set (lo + i) ((u2.getD (lo + i) 0 + c) + v.getD i 0)))], kw (u2.getD (lo + i) 0)] oN)))) ?_
    refine rh [tv 0 (.win 37 1 1 lo n), tv 1 (Xj v), tv 4 (kw 0), tv 8 (ki ((n : Nat) : Int)), tv 9 (ki ((i + 1 : Nat) : Int)), ov 37 (Xj (u2.set (lo + i) ((u2.getD (lo + i) 0 + c) + v.getD i 0)))] (oO (X3 (x := ((i : Nat) : Int)) (y := 1) (by omega) (by omega)) (oT 1 (oA [ki ((i + 1 : Nat) : Int)] oN))) ?_
    have hvt := Lm.V_take_next v i
    have hP : Lm.P (lo + i) = Lm.P lo * Lm.P i := Lm.P_add lo i
    exact ⟨n - (i + 1), [tv 0 (.win 37 1 1 lo n), tv 1 (Xj v), tv 4 (kw 0), tv 8 (ki ((n : Nat) : Int)), tv 9 (ki ((i + 1 : Nat) : Int)), ov 37 (Xj (u2.set (lo + i) ((u2.getD (lo + i) 0 + c) + v.getD i 0)))], (by omega), rfl, (by kernel_rfl), i + 1, 0, u2.set (lo + i) ((u2.getD (lo + i) 0 + c) + v.getD i 0), ⟨by omega, by omega, by omega, Lm.G_set hi4 _ (by omega) (by omega), by simp [hi5], by rw [List.drop_set_of_lt (by omega)]; exact hi6, by rw [← Nat.add_assoc, Lm.P_succ]; exact (Lm.madd_step (z := v.getD i 0) hi8 (by omega) (Lm.V_set _ _ _ (by omega))).trans (by rw [hvt, hP]; grind)⟩, rfl, (by kernel_rfl)⟩
  ·
   have h2' := of_decide_eq_false h2
   refine Xn ?_
   refine rt [tv 0 (.win 37 1 1 lo n), tv 1 (Xj v), tv 4 (kw 0), tv 5 (ki ((i : Nat) : Int)), tv 6 (kw (u2.getD (lo + i) 0 + c)), tv 8 (ki ((n : Nat) : Int)), tv 9 (ki ((i : Nat) : Int)), ov 37 (Xj u2)] (oT 1 oN) ?_
   refine Xe ?_
   refine rt [tv 0 (.win 37 1 1 lo n), tv 1 (Xj v), tv 4 (kw 0), tv 5 (ki ((i : Nat) : Int)), tv 6 (kw (u2.getD (lo + i) 0 + c)), tv 8 (ki ((n : Nat) : Int)), tv 9 (ki ((i : Nat) : Int)), tv 29 (.bool (decide (1000000000 ≤ (u2.getD (lo + i) 0 + c)))), ov 37 (Xj u2)] (oT 1 (oO (oB (decide (1000000000 ≤ (u2.getD (lo + i) 0 + c)))) (oA [cT (decide (1000000000 ≤ (u2.getD (lo + i) 0 + c)))] oN))) ?_
   refine cB (decide (1000000000 ≤ (u2.getD (lo + i) 0 + c))) (fun h4 => ?_) (fun h4 => ?_)
   ·
    have h4' := of_decide_eq_true h4
    refine rh [tv 0 (.win 37 1 1 lo n), tv 1 (Xj v), tv 4 (kw 1), tv 5 (ki ((i : Nat) : Int)), tv 6 (kw ((u2.getD (lo + i) 0 + c) - 1000000000)), tv 8 (ki ((n : Nat) : Int)), tv 9 (ki ((i : Nat) : Int)), ov 37 (Xj u2)] (oT 1 (oO (Xa6 (x := (u2.getD (lo + i) 0 + c)) (y := 1000000000) (by omega) (by omega)) (oT 2 (oA [kw ((u2.getD (lo + i) 0 + c) - 1000000000)] oN)))) ?_
    refine rh [tv 0 (.win 37 1 1 lo n), tv 1 (Xj v), tv 4 (kw 1), tv 8 (ki ((n : Nat) : Int)), tv 9 (ki ((i : Nat) : Int)), ov 37 (Xj (u2.set (lo + i) ((u2.getD (lo + i) 0 + c) - 1000000000)))] (oT 3 (oO (Xb9 i (by omega) (by omega) : (0 : Int) ≤ ((i : Nat) : Int) ∧ Int.toNat ((i : Nat) : Int) < n) (oO (aI (Zj (by (try simp only [List.length_set, List.length_append, List.length_cons, List.length_nil, List.length_replicate]); omega) : (uw u2)[lo + i]? = some (kw (u2.getD (lo + i) 0))) (Xbt _ _ _ : (uw (u2.set (lo + i) ((u2.getD (lo + i) 0 + c) - 1000000000))) = (uw u2).set (lo + i) (kw ((u2.getD (lo + i) 0 + c) - 1000000000)))) (oA [.rptr .none, .tup [.sl 1 (uw (u2.set (lo + i) ((u2.getD (lo + i) 0 + c) - 1000000000)))], kw (u2.getD (lo + i) 0)] oN)))) ?_
    refine rh [tv 0 (.win 37 1 1 lo n), tv 1 (Xj v), tv 4 (kw 1), tv 8 (ki ((n : Nat) : Int)), tv 9 (ki ((i + 1 : Nat) : Int)), ov 37 (Xj (u2.set (lo + i) ((u2.getD (lo + i) 0 + c) - 1000000000)))] (oO (X3 (x := ((i : Nat) : Int)) (y := 1) (by omega) (by omega)) (oT 1 (oA [ki ((i + 1 : Nat) : Int)] oN))) ?_
    have hvt := Lm.V_take_next v i
    have hP : Lm.P (lo + i) = Lm.P lo * Lm.P i := Lm.P_add lo i
    exact ⟨n - (i + 1), [tv 0 (.win 37 1 1 lo n), tv 1 (Xj v), tv 4 (kw 1), tv 8 (ki ((n : Nat) : Int)), tv 9 (ki ((i + 1 : Nat) : Int)), ov 37 (Xj (u2.set (lo + i) ((u2.getD (lo + i) 0 + c) - 1000000000)))], (by omega), rfl, (by kernel_rfl), i + 1, 1, u2.set (lo + i) ((u2.getD (lo + i) 0 + c) - 1000000000), ⟨by omega, by omega, by omega, Lm.G_set hi4 _ (by omega) (by omega), by simp [hi5], by rw [List.drop_set_of_lt (by omega)]; exact hi6, by rw [← Nat.add_assoc, Lm.P_succ]; exact (Lm.madd_step (z := v.getD i 0) hi8 (by omega) (Lm.V_set _ _ _ (by omega))).trans (by rw [hvt, hP]; grind)⟩, rfl, (by kernel_rfl)⟩
   ·
    have h4' := of_decide_eq_false h4
    refine Xn ?_
    refine rh [tv 0 (.win 37 1 1 lo n), tv 1 (Xj v), tv 4 (kw 0), tv 8 (ki ((n : Nat) : Int)), tv 9 (ki ((i : Nat) : Int)), ov 37 (Xj (u2.set (lo + i) (u2.getD (lo + i) 0 + c)))] (oT 3 (oO (Xb9 i (by omega) (by omega) : (0 : Int) ≤ ((i : Nat) : Int) ∧ Int.toNat ((i : Nat) : Int) < n) (oO (aI (Zj (by (try simp only [List.length_set, List.length_append, List.length_cons, List.length_nil, List.length_replicate]); omega) : (uw u2)[lo + i]? = some (kw (u2.getD (lo + i) 0))) (Xbt _ _ _ : (uw (u2.set (lo + i) (u2.getD (lo + i) 0 + c))) = (uw u2).set (lo + i) (kw (u2.getD (lo + i) 0 + c)))) (oA [.rptr .none, .tup [.sl 1 (uw (u2.set (lo + i) (u2.getD (lo + i) 0 + c)))], kw (u2.getD (lo + i) 0)] oN)))) ?_
    refine rh [tv 0 (.win 37 1 1 lo n), tv 1 (Xj v), tv 4 (kw 0), tv 8 (ki ((n : Nat) : Int)), tv 9 (ki ((i + 1 : Nat) : Int)), ov 37 (Xj (u2.set (lo + i) (u2.getD (lo + i) 0 + c)))] (oO (X3 (x := ((i : Nat) : Int)) (y := 1) (by omega) (by omega)) (oT 1 (oA [ki ((i + 1 : Nat) : Int)] oN))) ?_
    have hvt := Lm.V_take_next v i
    have hP : Lm.P (lo + i) = Lm.P lo * Lm.P i := Lm.P_add lo i
    exact ⟨n - (i + 1), [tv 0 (.win 37 1 1 lo n), tv 1 (Xj v), tv 4 (kw 0), tv 8 (ki ((n : Nat) : Int)), tv 9 (ki ((i + 1 : Nat) : Int)), ov 37 (Xj (u2.set (lo + i) (u2.getD (lo + i) 0 + c)))], (by omega), rfl, (by kernel_rfl), i + 1, 0, u2.set (lo + i) (u2.getD (lo + i) 0 + c), ⟨by omega, by omega, by omega, Lm.G_set hi4 _ (by omega) (by omega), by simp [hi5], by rw [List.drop_set_of_lt (by omega)]; exact hi6, by rw [← Nat.add_assoc, Lm.P_succ]; exact (Lm.madd_step (z := v.getD i 0) hi8 (by omega) (Lm.V_set _ _ _ (by omega))).trans (by rw [hvt, hP]; grind)⟩, rfl, (by kernel_rfl)⟩
 ·
  have h1' := of_decide_eq_false h1
  refine Z3 ?_
  have hin : i = n := by omega
  subst hin
  rw [Lm.V_take_all v (by omega)] at hi8
  have hlt := Lm.V_lt_drop ga hi4 hi5 hi6 hv
  have hm := Lm.mod_of (e := (Lm.V a + Lm.P lo * Lm.V v)) (r := Lm.V u2) (m := Lm.P (lo + i)) (c := -c) (by rw [← hi8]; grind) (Lm.V_bound hi4).1 hlt
  exact ⟨Xyt (r := (.tup [])) (by kernel_rfl) (rfl), Xxe (v := (Xj u2)) (by kernel_rfl) (congrArg Xj (Lm.eq_dg hi4 hi5 hm))⟩
end Am
end Go.Proofs.YtmlgfablnbbceaaGreat

