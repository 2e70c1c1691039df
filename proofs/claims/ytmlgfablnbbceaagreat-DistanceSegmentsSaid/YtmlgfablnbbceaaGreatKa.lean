/- What is proved: see the last text of this claim. -/
import Derived.Orders
import Derived.Below
import Derived.Tactics
import Derived.IntWalk
set_option linter.all false
namespace Go.Proofs.YtmlgfablnbbceaaGreat
namespace Am
open Go Go.RowKit

inductive AV where
  | none
  | nil
  | bool (b : Bool)
  | int (k : IntKind) (n : Int)
  | st (fs : List AV)
  | sl (sz : Nat) (rows : List AV)
  | tup (vs : List AV)
  | ptr (d k off : Nat) (path : List Nat)
  | own (g k : Nat)
  | optr (g k sz i off : Nat) (path : List Nat)
  | rptr (v : AV)
  | fn (f : Nat)
  | clo (f : Nat) (caps : List (Nat × Nat))
  | win (g k sz lo n : Nat)

mutual
def AV.size : AV → Nat
  | .st fs => Xmb fs
  | _ => 1
def Xmb : List AV → Nat
  | [] => 0
  | v :: vs => v.size + Xmb vs
end
def AV.isSt : AV → Bool
  | .st _ => true
  | _ => false

mutual
def X6u (S : Nat → Prop) (w : World) : AV → List Value → Prop
  | .nil, cs => cs = [.slice none 0 0]
  | .bool b, cs => cs = [.bool b]
  | .int k n, cs => cs = [.int k n]
  | .st fs, cs => Xeb S w fs cs
  | .sl sz rows, cs => ∃ A c, cs = [.slice A rows.length c] ∧ rows.length ≤ c ∧ (∀ r ∈ rows, r.size = sz) ∧
      (rows = [] ∨ ∃ a mem, A = some a ∧ a.spot = none ∧ S a.block ∧ a.block < w.heap.size ∧ Xeb S w rows mem ∧ ∀ j v, mem[j]? = some v → w.cell? (a.add j) = some v)
  | _, _ => False
def Xeb (S : Nat → Prop) (w : World) : List AV → List Value → Prop
  | [], cs => cs = []
  | v :: vs, cs => ∃ c1 c2, cs = c1 ++ c2 ∧ X6u S w v c1 ∧ Xeb S w vs c2
end
mutual
theorem Xef {S : Nat → Prop} {w : World} : ∀ {v : AV} {cs : List Value}, X6u S w v cs → cs.length = v.size
  | .nil, cs, h => by unfold X6u at h; subst h; rfl
  | .bool b, cs, h => by unfold X6u at h; subst h; rfl
  | .int k n, cs, h => by unfold X6u at h; subst h; rfl
  | .st fs, cs, h => by unfold X6u at h; unfold AV.size; exact Xfz h
  | .sl sz rows, cs, h => by unfold X6u at h; obtain ⟨A, c, rfl, _⟩ := h; rfl
  | .none, cs, h => by simp only [X6u] at h
  | .tup _, cs, h => by simp only [X6u] at h
  | .ptr .., cs, h => by simp only [X6u] at h
  | .own .., cs, h => by simp only [X6u] at h
  | .optr .., cs, h => by simp only [X6u] at h
  | .rptr _, cs, h => by simp only [X6u] at h
  | .fn _, cs, h => by simp only [X6u] at h
  | .clo .., cs, h => by simp only [X6u] at h
  | .win .., cs, h => by simp only [X6u] at h
theorem Xfz {S : Nat → Prop} {w : World} : ∀ {vs : List AV} {cs : List Value}, Xeb S w vs cs → cs.length = Xmb vs
  | [], cs, h => by unfold Xeb at h; subst h; rfl
  | v :: vs, cs, h => by
    unfold Xeb at h; obtain ⟨c1, c2, rfl, h1, h2⟩ := h
    rw [List.length_append, Xef h1, Xfz h2]; rfl
end
def X0k (v : Value) : Prop := (∀ cs, v ≠ .agg cs) ∧ ∀ vs, v ≠ .tuple vs

mutual
theorem Xr2 {S : Nat → Prop} {w : World} : ∀ {v : AV} {cs : List Value}, X6u S w v cs → ∀ u ∈ cs, X0k u
  | .nil, cs, h => by unfold X6u at h; subst h; simp [X0k]
  | .bool b, cs, h => by unfold X6u at h; subst h; simp [X0k]
  | .int k n, cs, h => by unfold X6u at h; subst h; simp [X0k]
  | .st fs, cs, h => by unfold X6u at h; exact Xrv h
  | .sl sz rows, cs, h => by unfold X6u at h; obtain ⟨A, c, rfl, _⟩ := h; simp [X0k]
  | .none, cs, h => by simp only [X6u] at h
  | .tup _, cs, h => by simp only [X6u] at h
  | .ptr .., cs, h => by simp only [X6u] at h
  | .own .., cs, h => by simp only [X6u] at h
  | .optr .., cs, h => by simp only [X6u] at h
  | .rptr _, cs, h => by simp only [X6u] at h
  | .fn _, cs, h => by simp only [X6u] at h
  | .clo .., cs, h => by simp only [X6u] at h
  | .win .., cs, h => by simp only [X6u] at h
theorem Xrv {S : Nat → Prop} {w : World} : ∀ {vs : List AV} {cs : List Value}, Xeb S w vs cs → ∀ u ∈ cs, X0k u
  | [], cs, h => by unfold Xeb at h; subst h; intro u hu; cases hu
  | v :: vs, cs, h => by
    unfold Xeb at h; obtain ⟨c1, c2, rfl, h1, h2⟩ := h
    intro u hu
    rcases List.mem_append.1 hu with hu | hu
    · exact Xr2 h1 u hu
    · exact Xrv h2 u hu
end
theorem Xrp {w w' : World} {b : Nat} (h : w'.heap[b]? = w.heap[b]?) {a : Addr} (ha : a.block = b) : w'.cell? a = w.cell? a := by
  unfold World.cell?; rw [ha, h]
theorem Xek (a : Addr) (n : Nat) : (a.add n).block = a.block := by unfold Addr.add; split <;> rfl
theorem Xcs {a : Addr} (h : a.spot = none) (n : Nat) : a.add n = ⟨a.block, a.off + n, none⟩ := by
  cases a; simp only at h; subst h; unfold Addr.add; split
  · rename_i h; subst h; rfl
  · rfl
theorem X0w (a : Addr) (h : a.spot = none) (m n : Nat) : (a.add m).add n = a.add (m + n) := by
  rw [Xcs h, Xcs h, Xcs rfl, Nat.add_assoc]

mutual
theorem Xcx {S S' : Nat → Prop} {w w' : World} (h : ∀ b, S b → b < w.heap.size → S' b ∧ w'.heap[b]? = w.heap[b]?) (hs : w.heap.size ≤ w'.heap.size) :
    ∀ {v : AV} {cs : List Value}, X6u S w v cs → X6u S' w' v cs
  | .nil, cs, k => by unfold X6u at *; exact k
  | .bool b, cs, k => by unfold X6u at *; exact k
  | .int _ _, cs, k => by unfold X6u at *; exact k
  | .st fs, cs, k => by unfold X6u at *; exact Xf7 h hs k
  | .sl sz rows, cs, k => by
    unfold X6u at *
    obtain ⟨A, c, rfl, hc, hz, k⟩ := k
    refine ⟨A, c, rfl, hc, hz, k.imp id ?_⟩
    rintro ⟨a, mem, rfl, h1, h2, h3, h4, h5⟩
    obtain ⟨h6, h7⟩ := h a.block h2 h3
    exact ⟨a, mem, rfl, h1, h6, by omega, Xf7 h hs h4, fun j v hj => by rw [Xrp h7 (Xek a j)]; exact h5 j v hj⟩
  | .none, cs, k => by simp only [X6u] at k
  | .tup _, cs, k => by simp only [X6u] at k
  | .ptr .., cs, k => by simp only [X6u] at k
  | .own .., cs, k => by simp only [X6u] at k
  | .optr .., cs, k => by simp only [X6u] at k
  | .rptr _, cs, k => by simp only [X6u] at k
  | .fn _, cs, h => by simp only [X6u] at h
  | .clo .., cs, h => by simp only [X6u] at h
  | .win .., cs, h => by simp only [X6u] at h
theorem Xf7 {S S' : Nat → Prop} {w w' : World} (h : ∀ b, S b → b < w.heap.size → S' b ∧ w'.heap[b]? = w.heap[b]?) (hs : w.heap.size ≤ w'.heap.size) :
    ∀ {vs : List AV} {cs : List Value}, Xeb S w vs cs → Xeb S' w' vs cs
  | [], cs, k => by unfold Xeb at *; exact k
  | v :: vs, cs, k => by
    unfold Xeb at *; obtain ⟨c1, c2, rfl, k1, k2⟩ := k
    exact ⟨c1, c2, rfl, Xcx h hs k1, Xf7 h hs k2⟩
end
theorem Xlf {S : Nat → Prop} {w : World} {xs ys : List AV} {cs ds : List Value} (h : Xeb S w xs cs) (k : Xeb S w ys ds) : Xeb S w (xs ++ ys) (cs ++ ds) := by
  induction xs generalizing cs with
  | nil => unfold Xeb at h; subst h; exact k
  | cons x xs ih =>
    unfold Xeb at h; obtain ⟨c1, c2, rfl, h1, h2⟩ := h
    rw [List.cons_append]; unfold Xeb
    exact ⟨c1, c2 ++ ds, by rw [List.append_assoc], h1, ih h2⟩
theorem Xkm {S : Nat → Prop} {w : World} {xs ys : List AV} {cs : List Value} (h : Xeb S w (xs ++ ys) cs) : ∃ c1 c2, cs = c1 ++ c2 ∧ Xeb S w xs c1 ∧ Xeb S w ys c2 := by
  induction xs generalizing cs with
  | nil => exact ⟨[], cs, rfl, by unfold Xeb; rfl, h⟩
  | cons x xs ih =>
    rw [List.cons_append] at h; unfold Xeb at h
    obtain ⟨c1, c2, rfl, h1, h2⟩ := h
    obtain ⟨d1, d2, rfl, h3, h4⟩ := ih h2
    exact ⟨c1 ++ d1, d2, by rw [List.append_assoc], by unfold Xeb; exact ⟨c1, d1, rfl, h1, h3⟩, h4⟩
theorem Xt9 (xs ys : List AV) : Xmb (xs ++ ys) = Xmb xs + Xmb ys := by
  induction xs with
  | nil => simp [Xmb]
  | cons x xs ih => simp only [List.cons_append, Xmb, ih]; omega
theorem Xfm {rows : List AV} {sz : Nat} (h : ∀ r ∈ rows, r.size = sz) : Xmb rows = rows.length * sz := by
  induction rows with
  | nil => simp [Xmb]
  | cons x xs ih =>
    simp only [Xmb]; rw [h x (by simp), ih (fun r hr => h r (by simp [hr])), List.length_cons, Nat.add_mul, Nat.one_mul, Nat.add_comm]

def AV.get (v : AV) : List Nat → AV
  | [] => v
  | i :: p => match v with
    | .st fs => (fs.getD i .none).get p
    | _ => .none
def AV.at (v : AV) : List Nat → Nat
  | [] => 0
  | i :: p => match v with
    | .st fs => Xmb (fs.take i) + (fs.getD i .none).at p
    | _ => 0
def AV.put (v : AV) (x : AV) : List Nat → AV
  | [] => x
  | i :: p => match v with
    | .st fs => .st (fs.set i ((fs.getD i .none).put x p))
    | _ => .none

theorem Xso {fs : List AV} {i : Nat} (h : i < fs.length) : fs = fs.take i ++ (fs.getD i .none :: fs.drop (i + 1)) := by
  have h1 : fs.getD i .none = fs[i] := by simp [List.getD, h]
  rw [h1, ← List.drop_eq_getElem_cons h, List.take_append_drop]

theorem Xwd {S : Nat → Prop} {w : World} {cs : List Value} : ¬ X6u S w .none cs := by simp only [X6u, not_false_iff]

theorem Xi5 {S : Nat → Prop} {w : World} : ∀ (p : List Nat) {v : AV} {cs : List Value}, X6u S w v cs → v.get p ≠ .none →
    ∃ c1 c2 c3, cs = c1 ++ c2 ++ c3 ∧ c1.length = v.at p ∧ X6u S w (v.get p) c2
  | [], v, cs, h, _ => ⟨[], cs, [], by simp, rfl, h⟩
  | i :: p, v, cs, h, hn => by
    cases v with
    | st fs =>
      simp only [AV.get, AV.at] at *
      by_cases hi : i < fs.length
      · have h' := h
        unfold X6u at h'
        rw [Xso hi] at h'
        obtain ⟨c1, c2, rfl, h1, h2⟩ := Xkm h'
        unfold Xeb at h2
        obtain ⟨d1, d2, rfl, h3, h4⟩ := h2
        obtain ⟨e1, e2, e3, rfl, h5, h6⟩ := Xi5 p h3 hn
        refine ⟨c1 ++ e1, e2, e3 ++ d2, by simp [List.append_assoc], ?_, h6⟩
        rw [List.length_append, h5, Xfz h1]
      · have : fs.getD i .none = .none := by simp [List.getD, List.getElem?_eq_none (Nat.le_of_not_lt hi)]
        rw [this] at hn
        exfalso; apply hn; cases p <;> simp [AV.get]
    | _ => simp [AV.get] at hn

theorem Xyg {S : Nat → Prop} {w : World} {x : AV} {xs : List Value} (hx : X6u S w x xs) : ∀ (p : List Nat) {v : AV} {cs : List Value}, X6u S w v cs → v.get p ≠ .none → x.size = (v.get p).size →
    ∀ c1 c2 c3, cs = c1 ++ c2 ++ c3 → c1.length = v.at p → c2.length = x.size → X6u S w (v.put x p) (c1 ++ xs ++ c3)
  | [], v, cs, h, _, hsz => fun c1 c2 c3 hcs h1 h2 => by
    simp only [AV.at, AV.get, AV.put] at *
    have l := Xef h
    rw [hcs] at l
    simp only [List.length_append] at l
    have e1 : c1 = [] := List.eq_nil_of_length_eq_zero h1
    have e3 : c3 = [] := List.eq_nil_of_length_eq_zero (by omega)
    subst e1 e3; simpa using hx
  | i :: p, v, cs, h, hn, hsz => fun c1 c2 c3 hcs h1 h2 => by
    cases v with
    | st fs =>
      simp only [AV.get, AV.at, AV.put] at *
      by_cases hi : i < fs.length
      · have h' := h
        unfold X6u at h'
        rw [Xso hi] at h'
        obtain ⟨d1, d2, hd, k1, k2⟩ := Xkm h'
        unfold Xeb at k2
        obtain ⟨e1, e2, rfl, k3, k4⟩ := k2
        obtain ⟨g1, g2, g3, hg, k5, k6⟩ := Xi5 p k3 hn
        have l1 := Xfz k1
        have l2 := Xef k6
        have e0 : c1 ++ (c2 ++ c3) = (d1 ++ g1) ++ (g2 ++ (g3 ++ e2)) := by
          rw [← List.append_assoc, ← hcs, hd, hg]; simp [List.append_assoc]
        obtain ⟨q1, q2⟩ := List.append_inj e0 (by rw [List.length_append]; omega)
        obtain ⟨q3, q4⟩ := List.append_inj q2 (by omega)
        have := Xyg hx p k3 hn hsz g1 g2 g3 hg k5 (by omega)
        unfold X6u
        have e5 : fs.set i ((fs.getD i .none).put x p) = fs.take i ++ ((fs.getD i .none).put x p :: fs.drop (i + 1)) := by
          rw [List.set_eq_take_append_cons_drop, if_pos hi]
        rw [e5, q1, q4]
        have : Xeb S w ((fs.getD i .none).put x p :: fs.drop (i + 1)) ((g1 ++ xs ++ g3) ++ e2) := by
          unfold Xeb; exact ⟨_, _, rfl, this, k4⟩
        have := Xlf k1 this
        simpa [List.append_assoc] using this
      · have : fs.getD i .none = .none := by simp [List.getD, List.getElem?_eq_none (Nat.le_of_not_lt hi)]
        rw [this] at hn
        exfalso; apply hn; cases p <;> simp [AV.get]
    | _ => simp [AV.get] at hn
open Go Go.RowKit

inductive Loc where
  | t (n : Nat)
  | b (d : Nat)
  | o (g : Nat)
def Loc.beq : Loc → Loc → Bool
  | .t m, .t n => Nat.beq m n
  | .b m, .b n => Nat.beq m n
  | .o m, .o n => Nat.beq m n
  | _, _ => false
theorem Loc.beq_iff {x y : Loc} : x.beq y = true ↔ x = y := by
  cases x <;> cases y <;> simp [Loc.beq, Nat.beq_eq_true_eq]
structure LV where
  k : Nat
  live : Bool
  v : AV
abbrev X7l := Loc → LV
def X7z (e : X7l) (l : Loc) (x : LV) : X7l := fun l' => if l'.beq l = true then x else e l'
def Xa8 (e : X7l) : List (Loc × LV) → X7l
  | [] => e
  | (l, x) :: us => Xa8 (X7z e l x) us
theorem Xbj (e : X7l) (l : Loc) (x : LV) : X7z e l x l = x := by unfold X7z; rw [if_pos (Loc.beq_iff.2 rfl)]
theorem Xbx (e : X7l) {l l' : Loc} (x : LV) (h : l' ≠ l) : X7z e l x l' = e l' := by unfold X7z; rw [if_neg (fun k => h (Loc.beq_iff.1 k))]

def J7 : Value → Option Nat
  | .slice (some a) _ _ => some a.block
  | _ => Option.none

structure Cx where
  S : Nat → Prop
  base : Nat
  w0 : World
  N : Nat
  X : Nat → Prop
  K : Option (Nat × Nat × Value)
def Cx.B (C : Cx) (b : Nat) : Prop := C.base ≤ b ∨ C.X b
structure BelX (X : Nat → Prop) (n : Nat) (w w' : World) : Prop where
  os : w'.os = w.os
  tape : w'.tape = w.tape
  output : w'.output = w.output
  size : w.heap.size ≤ w'.heap.size
  block : ∀ k, k < n → ¬ X k → w'.heap[k]? = w.heap[k]?
theorem BelX.trans {X : Nat → Prop} {n : Nat} {a b c : World} (h : BelX X n a b) (k : BelX X n b c) : BelX X n a c :=
  ⟨k.os.trans h.os, k.tape.trans h.tape, k.output.trans h.output, Nat.le_trans h.size k.size, fun i hi hx => (k.block i hi hx).trans (h.block i hi hx)⟩
theorem BelX.of {X : Nat → Prop} {n : Nat} {a b : World} (h : Below n a b) : BelX X n a b := ⟨h.os, h.tape, h.output, h.size, fun k hk _ => h.block k hk⟩

def Xn9 (β : Nat → Nat) (ω : Nat → Value) (e : X7l) (b : Nat) : Prop :=
  (∃ d, (e (.b d)).v ≠ .none ∧ (e (.b d)).live = true ∧ β d = b) ∨ (∃ g, (e (.o g)).v ≠ .none ∧ (e (.o g)).live = true ∧ J7 (ω g) = some b)
def Sh (C : Cx) (β : Nat → Nat) (ω : Nat → Value) (e : X7l) (b : Nat) : Prop := (C.S b ∨ C.B b) ∧ ¬ Xn9 β ω e b

def Xgb (S : Nat → Prop) (w : World) : AV → Value → Prop
  | .st fs, v => ∃ cs, v = .agg cs ∧ Xeb S w fs cs.toList
  | av, v => X6u S w av [v]
def Xlk (S : Nat → Prop) (w : World) : List AV → List Value → Prop
  | [], vs => vs = []
  | a :: as, vs => ∃ v rest, vs = v :: rest ∧ Xgb S w a v ∧ Xlk S w as rest
def X0a (w : World) (a : Addr) (mem : List Value) : Prop := ∀ (j : Nat) (u : Value), mem[j]? = some u → w.cell? (a.add j) = some u

def Xky (S : Nat → Prop) (w : World) (β : Nat → Nat) (ω : Nat → Value) (e : X7l) : AV → Value → Prop
  | .none, _ => True
  | .tup vs, v => ∃ arr : Array Value, v = .tuple arr ∧ Xlk S w vs arr.toList
  | .ptr d k off _, v => k ≤ (e (.b d)).k ∧ (k = (e (.b d)).k → v = .pointer (some ⟨β d, off, none⟩))
  | .own g k, v => k ≤ (e (.o g)).k ∧ (k = (e (.o g)).k → v = ω g)
  | .optr g k sz i off _, v => k ≤ (e (.o g)).k ∧ (k = (e (.o g)).k → ∃ blk, J7 (ω g) = some blk ∧ v = .pointer (some ⟨blk, i * sz + off, none⟩))
  | .rptr x, v => ∃ a mem, v = .pointer (some a) ∧ a.spot = none ∧ S a.block ∧ a.block < w.heap.size ∧ X6u S w x mem ∧ X0a w a mem
  | .win g k sz lo n, v => k ≤ (e (.o g)).k ∧ (k = (e (.o g)).k → ∃ blk c, J7 (ω g) = some blk ∧ v = .slice (some ⟨blk, lo * sz, none⟩) n c ∧ n ≤ c)
  | .fn f, v => v = .func (.func f) #[] #[]
  | .clo f caps, v => ∃ arr : Array Value, v = .func (.func f) #[] arr ∧ (∀ dk ∈ caps, dk.2 ≤ (e (.b dk.1)).k) ∧ ((∀ dk ∈ caps, dk.2 = (e (.b dk.1)).k) → arr.toList = caps.map fun dk => .pointer (some ⟨β dk.1, 0, none⟩))
  | av, v => Xgb S w av v

def Xhc (S : Nat → Prop) (base : Nat → Prop) (w : World) (sz : Nat) (rows : List AV) (v : Value) : Prop :=
  ∃ A c, v = .slice A rows.length c ∧ rows.length ≤ c ∧ (∀ r ∈ rows, r.size = sz) ∧
    ((A = Option.none ∧ c = 0) ∨ ∃ blk cs T, A = some ⟨blk, 0, Option.none⟩ ∧ base blk ∧ blk < w.heap.size ∧ w.heap[blk]? = some (.cells cs T (0, 0)) ∧ cs.size = c * sz ∧ Xeb S w rows (cs.toList.take (rows.length * sz)))

def X7s (S : Nat → Prop) (base : Nat → Prop) (w : World) (ω : Nat → Value) (g : Nat) (x : LV) : Prop :=
  match x.v with
  | .sl sz rows => if x.live = true then Xhc S base w sz rows (ω g) else X6u S w (.sl sz rows) [ω g]
  | .none => True
  | _ => False

structure R (C : Cx) (β : Nat → Nat) (ω : Nat → Value) (e : X7l) (a : Act) (w : World) : Prop where
  n : a.tmps.size = C.N
  df : a.defers = []
  bel : BelX C.X C.base C.w0 w
  hb : C.base ≤ w.heap.size
  sb : ∀ b, C.S b → b < C.base
  tm : ∀ t, (e (.t t)).live = false → Xky (Sh C β ω e) w β ω e (e (.t t)).v (a.tmps.getD t undef)
  tu : ∀ t, (e (.t t)).live = true → a.tmps.getD t undef = undef
  bx : ∀ d, (e (.b d)).v ≠ .none → C.base ≤ β d ∧ β d < w.heap.size ∧ ∃ cs T, w.heap[β d]? = some (.cells cs T (0, 0)) ∧ X6u (Sh C β ω e) w (e (.b d)).v cs.toList
  bi : ∀ d d', (e (.b d)).v ≠ .none → (e (.b d')).v ≠ .none → β d = β d' → d = d'
  ow : ∀ g, X7s (Sh C β ω e) C.B w ω g (e (.o g))
  oi : ∀ g g' b, (e (.o g)).v ≠ .none → (e (.o g')).v ≠ .none → (e (.o g)).live = true → (e (.o g')).live = true → J7 (ω g) = some b → J7 (ω g') = some b → g = g'
  ob : ∀ g d, (e (.o g)).v ≠ .none → (e (.o g)).live = true → (e (.b d)).v ≠ .none → J7 (ω g) ≠ some (β d)
  kx : ∀ g k u, C.K = some (g, k, u) → k ≤ (e (.o g)).k ∧ ((e (.o g)).k = k → ω g = u)

theorem Xzs {w w' : World} {a : Addr} {mem : List Value} (h : w'.heap[a.block]? = w.heap[a.block]?) (k : X0a w a mem) : X0a w' a mem :=
  fun j u hj => by rw [Xrp h (Xek a j)]; exact k j u hj
theorem Xb2 {S S' : Nat → Prop} {w w' : World} (h : ∀ b, S b → b < w.heap.size → S' b ∧ w'.heap[b]? = w.heap[b]?) (hs : w.heap.size ≤ w'.heap.size) {x : AV} {v : Value} (k : Xgb S w x v) : Xgb S' w' x v := by
  unfold Xgb at *
  split at k
  · obtain ⟨cs, h1, h2⟩ := k; exact ⟨cs, h1, Xf7 h hs h2⟩
  · exact Xcx h hs k
theorem Xkt {S S' : Nat → Prop} {w w' : World} (h : ∀ b, S b → b < w.heap.size → S' b ∧ w'.heap[b]? = w.heap[b]?) (hs : w.heap.size ≤ w'.heap.size) : ∀ {xs : List AV} {vs : List Value}, Xlk S w xs vs → Xlk S' w' xs vs
  | [], _, k => k
  | x :: xs, vs, k => by
    obtain ⟨v, rest, h1, h2, h3⟩ := k
    exact ⟨v, rest, h1, Xb2 h hs h2, Xkt h hs h3⟩

def Gen (β β' : Nat → Nat) (ω ω' : Nat → Value) (e e' : X7l) : Prop :=
  (∀ d, ((e' (.b d)).k = (e (.b d)).k ∧ β' d = β d) ∨ (e (.b d)).k < (e' (.b d)).k) ∧
  (∀ g, ((e' (.o g)).k = (e (.o g)).k ∧ ω' g = ω g) ∨ (e (.o g)).k < (e' (.o g)).k)
theorem Gen.refl (β : Nat → Nat) (ω : Nat → Value) (e : X7l) : Gen β β ω ω e e := ⟨fun _ => .inl ⟨rfl, rfl⟩, fun _ => .inl ⟨rfl, rfl⟩⟩

theorem Xo7 {S S' : Nat → Prop} {w w' : World} {β β' : Nat → Nat} {ω ω' : Nat → Value} {e e' : X7l} (h : ∀ b, S b → b < w.heap.size → S' b ∧ w'.heap[b]? = w.heap[b]?) (hs : w.heap.size ≤ w'.heap.size)
    (hg : Gen β β' ω ω' e e') {x : AV} {v : Value} (k : Xky S w β ω e x v) : Xky S' w' β' ω' e' x v := by
  cases x with
  | none => trivial
  | tup vs => obtain ⟨arr, h1, h2⟩ := k; exact ⟨arr, h1, Xkt h hs h2⟩
  | ptr d n off p =>
    obtain ⟨h1, h2⟩ := k
    rcases hg.1 d with ⟨g1, g2⟩ | g1
    · exact ⟨by omega, fun hk => by rw [g2]; exact h2 (by omega)⟩
    · exact ⟨by omega, fun hk => by omega⟩
  | own g n =>
    obtain ⟨h1, h2⟩ := k
    rcases hg.2 g with ⟨g1, g2⟩ | g1
    · exact ⟨by omega, fun hk => by rw [g2]; exact h2 (by omega)⟩
    · exact ⟨by omega, fun hk => by omega⟩
  | optr g n sz i off p =>
    obtain ⟨h1, h2⟩ := k
    rcases hg.2 g with ⟨g1, g2⟩ | g1
    · exact ⟨by omega, fun hk => by rw [g2]; exact h2 (by omega)⟩
    · exact ⟨by omega, fun hk => by omega⟩
  | win g n sz lo m =>
    obtain ⟨h1, h2⟩ := k
    rcases hg.2 g with ⟨g1, g2⟩ | g1
    · exact ⟨by omega, fun hk => by rw [g2]; exact h2 (by omega)⟩
    · exact ⟨by omega, fun hk => by omega⟩
  | rptr x =>
    obtain ⟨a, mem, h1, h2, h3, h4, h5, h6⟩ := k
    obtain ⟨g1, g2⟩ := h a.block h3 h4
    exact ⟨a, mem, h1, h2, g1, by omega, Xcx h hs h5, Xzs g2 h6⟩
  | fn f => exact k
  | clo f caps =>
    obtain ⟨arr, h1, h2, h3⟩ := k
    refine ⟨arr, h1, fun dk hdk => ?_, fun hall => ?_⟩
    · rcases hg.1 dk.1 with ⟨g1, g2⟩ | g1
      · have := h2 dk hdk; omega
      · have := h2 dk hdk; omega
    · have key : ∀ dk ∈ caps, dk.2 = (e (.b dk.1)).k ∧ β' dk.1 = β dk.1 := fun dk hdk => by
        have h4 := hall dk hdk
        have h5 := h2 dk hdk
        rcases hg.1 dk.1 with ⟨g1, g2⟩ | g1
        · exact ⟨by omega, g2⟩
        · omega
      rw [h3 (fun dk hdk => (key dk hdk).1)]
      exact List.map_congr_left fun dk hdk => by rw [(key dk hdk).2]
  | nil => exact Xb2 (x := .nil) h hs k
  | bool b => exact Xb2 (x := .bool b) h hs k
  | int kk n => exact Xb2 (x := .int kk n) h hs k
  | st fs => exact Xb2 (x := .st fs) h hs k
  | sl sz rows => exact Xb2 (x := .sl sz rows) h hs k

theorem Xp0 {S S' : Nat → Prop} {base : Nat → Prop} {w w' : World} (h : ∀ b, S b → b < w.heap.size → S' b ∧ w'.heap[b]? = w.heap[b]?) (hs : w.heap.size ≤ w'.heap.size) {sz : Nat} {rows : List AV} {v : Value}
    (hv : ∀ b, J7 v = some b → w'.heap[b]? = w.heap[b]?) (k : Xhc S base w sz rows v) : Xhc S' base w' sz rows v := by
  obtain ⟨A, c, rfl, h1, h2, h3⟩ := k
  refine ⟨A, c, rfl, h1, h2, h3.imp id ?_⟩
  rintro ⟨blk, cs, T, rfl, h4, h5, h6, h7, h8⟩
  exact ⟨blk, cs, T, rfl, h4, by omega, by rw [hv blk rfl]; exact h6, h7, Xf7 h hs h8⟩

theorem Xk1 {C : Cx} {β β' : Nat → Nat} {ω ω' : Nat → Value} {e e' : X7l} {a a' : Act} {w w' : World} (h : R C β ω e a w)
    (hn : a'.tmps.size = C.N) (hd : a'.defers = []) (hbel : BelX C.X C.base w w') (hs : w.heap.size ≤ w'.heap.size) (hg : Gen β β' ω ω' e e')
    (sh : ∀ b, Sh C β ω e b → b < w.heap.size → Sh C β' ω' e' b ∧ w'.heap[b]? = w.heap[b]?)
    (tm : ∀ t, (e' (.t t) = e (.t t) ∧ a'.tmps.getD t undef = a.tmps.getD t undef) ∨ (((e' (.t t)).live = false → Xky (Sh C β' ω' e') w' β' ω' e' (e' (.t t)).v (a'.tmps.getD t undef)) ∧ ((e' (.t t)).live = true → a'.tmps.getD t undef = undef)))
    (bx : ∀ d, (e' (.b d)).v ≠ .none → ((e' (.b d)).v = (e (.b d)).v ∧ β' d = β d ∧ w'.heap[β d]? = w.heap[β d]?) ∨
      (C.base ≤ β' d ∧ β' d < w'.heap.size ∧ ∃ cs T, w'.heap[β' d]? = some (.cells cs T (0, 0)) ∧ X6u (Sh C β' ω' e') w' (e' (.b d)).v cs.toList))
    (bi : ∀ d d', (e' (.b d)).v ≠ .none → (e' (.b d')).v ≠ .none → β' d = β' d' → d = d')
    (ow : ∀ g, ((e' (.o g)).v = (e (.o g)).v ∧ (e' (.o g)).live = (e (.o g)).live ∧ ω' g = ω g ∧ ((e' (.o g)).live = true → ∀ b, J7 (ω g) = some b → w'.heap[b]? = w.heap[b]?)) ∨ X7s (Sh C β' ω' e') C.B w' ω' g (e' (.o g)))
    (oi : ∀ g g' b, (e' (.o g)).v ≠ .none → (e' (.o g')).v ≠ .none → (e' (.o g)).live = true → (e' (.o g')).live = true → J7 (ω' g) = some b → J7 (ω' g') = some b → g = g')
    (ob : ∀ g d, (e' (.o g)).v ≠ .none → (e' (.o g)).live = true → (e' (.b d)).v ≠ .none → J7 (ω' g) ≠ some (β' d)) : R C β' ω' e' a' w' where
  n := hn
  df := hd
  bel := h.bel.trans hbel
  hb := Nat.le_trans h.hb hs
  sb := h.sb
  tm t hl := by
    rcases tm t with ⟨h1, h2⟩ | h1
    · rw [h1] at hl ⊢; rw [h2]; exact Xo7 sh hs hg (h.tm t hl)
    · exact h1.1 hl
  tu t hl := by
    rcases tm t with ⟨h1, h2⟩ | h1
    · rw [h1] at hl; rw [h2]; exact h.tu t hl
    · exact h1.2 hl
  bx d hv := by
    rcases bx d hv with ⟨h1, h2, h3⟩ | h1
    · rw [h1] at hv ⊢
      obtain ⟨k1, k2, cs, T, k3, k4⟩ := h.bx d hv
      rw [h2]
      exact ⟨k1, by omega, cs, T, by rw [h3]; exact k3, Xcx sh hs k4⟩
    · exact h1
  bi := bi
  ow g := by
    rcases ow g with ⟨h1, h2, h3, h4⟩ | h1
    · have := h.ow g
      unfold X7s at *
      rw [h1, h2, h3]
      rw [h2] at h4
      split at this
      · split at this
        · rename_i hl; rw [if_pos hl]; exact Xp0 sh hs (h4 hl) this
        · rename_i hl; rw [if_neg hl]; exact Xcx sh hs this
      · trivial
      · exact this
    · exact h1
  oi := oi
  ob := ob
  kx g k u hK := by
    obtain ⟨h1, h2⟩ := h.kx g k u hK
    rcases hg.2 g with ⟨g1, g2⟩ | g1
    · exact ⟨by omega, fun hk => by rw [g2]; exact h2 (by omega)⟩
    · exact ⟨by omega, fun hk => by omega⟩

theorem Xvp {C : Cx} {β : Nat → Nat} {ω : Nat → Value} {e : X7l} {a : Act} {w : World} (h : R C β ω e a w) {d : Nat} (hd : d < C.N) {x : LV} {v : Value}
    (hv : (x.live = false → Xky (Sh C β ω e) w β ω e x.v v) ∧ (x.live = true → v = undef)) : R C β ω (X7z e (.t d) x) (a.put (some d) v) w := by
  have eb : ∀ d', X7z e (.t d) x (.b d') = e (.b d') := fun d' => Xbx _ _ (by simp)
  have eo : ∀ g, X7z e (.t d) x (.o g) = e (.o g) := fun g => Xbx _ _ (by simp)
  have hp : ∀ b, Xn9 β ω (X7z e (.t d) x) b ↔ Xn9 β ω e b := fun b => by unfold Xn9; simp only [eb, eo]
  have hsh : ∀ b, Sh C β ω (X7z e (.t d) x) b ↔ Sh C β ω e b := fun b => by unfold Sh; rw [hp]
  have hg : Gen β β ω ω e (X7z e (.t d) x) := ⟨fun d' => .inl ⟨by rw [eb], rfl⟩, fun g => .inl ⟨by rw [eo], rfl⟩⟩
  refine Xk1 h ?_ ?_ (BelX.of (Below.refl _ _)) (Nat.le_refl _) hg (fun b hb _ => ⟨(hsh b).2 hb, rfl⟩) (fun t => ?_) (fun d' hd' => .inl ⟨by rw [eb], rfl, rfl⟩) ?_ (fun g => .inl ⟨by rw [eo], by rw [eo], rfl, fun _ _ _ => rfl⟩) ?_ ?_
  · simp [Act.put, h.n]
  · simp [Act.put, h.df]
  · by_cases ht : t = d
    · subst ht
      right
      rw [Xbj]
      have : (a.put (some t) v).tmps.getD t undef = v := by
        have : t < a.tmps.size := by rw [h.n]; exact hd
        simp [Act.put, Array.getD, this]
      rw [this]
      exact ⟨fun hl => Xo7 (fun b hb _ => ⟨(hsh b).2 hb, rfl⟩) (Nat.le_refl _) hg (hv.1 hl), hv.2⟩
    · left
      refine ⟨by rw [Xbx _ _ (by simpa using ht)], ?_⟩
      simp [Act.put, Array.getElem?_setIfInBounds_ne (Ne.symm ht)]
  · simp only [eb]; exact h.bi
  · simp only [eo]; exact h.oi
  · simp only [eo, eb]; exact h.ob

theorem Xy9 {C : Cx} {β : Nat → Nat} {ω : Nat → Value} {e : X7l} {a : Act} {w w' : World} (h : R C β ω e a w) (hw : Below w.heap.size w w') : R C β ω e a w' := by
  have Xoz : ∀ g b, (e (.o g)).v ≠ .none → (e (.o g)).live = true → J7 (ω g) = some b → b < w.heap.size := by
    intro g b hv hl hb
    have := h.ow g
    unfold X7s at this
    split at this
    · rw [if_pos hl] at this
      obtain ⟨A, c, h1, _, _, h2 | ⟨blk, cs, T, rfl, _, h3, _⟩⟩ := this
      · rw [h1, h2.1] at hb; simp [J7] at hb
      · rw [h1] at hb; simp only [J7, Option.some.injEq] at hb; omega
    · rename_i hn; exact absurd hn hv
    · exact this.elim
  refine Xk1 h h.n h.df ⟨hw.os, hw.tape, hw.output, hw.size, fun k hk _ => hw.block k (Nat.lt_of_lt_of_le hk h.hb)⟩ hw.size (Gen.refl _ _ _) (fun b hb hlt => ⟨hb, hw.block b hlt⟩) (fun t => .inl ⟨rfl, rfl⟩)
    (fun d hd => .inl ⟨rfl, rfl, hw.block _ (h.bx d hd).2.1⟩) h.bi (fun g => ?_) h.oi h.ob
  by_cases hv : (e (.o g)).v = .none
  · right; unfold X7s; rw [hv]; trivial
  · exact .inl ⟨rfl, rfl, rfl, fun hl b hb => hw.block b (Xoz g b hv hl hb)⟩
theorem X4g {C : Cx} {β : Nat → Nat} {ω : Nat → Value} {e : X7l} {a : Act} {w : World} (h : R C β ω e a w) {b : Nat} (hb : w.heap.size ≤ b) : Sh C β ω e b := by
  refine ⟨.inr (.inl (Nat.le_trans h.hb hb)), ?_⟩
  rintro (⟨d, h1, h2, rfl⟩ | ⟨g, h1, h2, h3⟩)
  · have := (h.bx d h1).2.1; omega
  · have := h.ow g
    unfold X7s at this
    split at this
    · rw [if_pos h2] at this
      obtain ⟨A, c, h4, _, _, h5 | ⟨blk, cs, T, rfl, _, h6, _⟩⟩ := this
      · rw [h4, h5.1] at h3; simp [J7] at h3
      · rw [h4] at h3; simp only [J7, Option.some.injEq] at h3; omega
    · rename_i hn; exact absurd hn h1
    · exact this.elim
open Go Go.RowKit

structure Wr (b : Nat) (w w' : World) : Prop where
  os : w'.os = w.os
  tape : w'.tape = w.tape
  output : w'.output = w.output
  size : w'.heap.size = w.heap.size
  rest : ∀ k, k ≠ b → w'.heap[k]? = w.heap[k]?
theorem Wr.refl (b : Nat) (w : World) : Wr b w w := ⟨rfl, rfl, rfl, rfl, fun _ _ => rfl⟩
theorem Wr.trans {b : Nat} {x y z : World} (h : Wr b x y) (k : Wr b y z) : Wr b x z :=
  ⟨k.os.trans h.os, k.tape.trans h.tape, k.output.trans h.output, k.size.trans h.size, fun i hi => (k.rest i hi).trans (h.rest i hi)⟩
theorem Wr.belx {b n : Nat} {X : Nat → Prop} {w w' : World} (h : Wr b w w') (hn : n ≤ b ∨ X b) : BelX X n w w' :=
  ⟨h.os, h.tape, h.output, Nat.le_of_eq h.size.symm, fun k hk hx => h.rest k (by
    intro hc; subst hc
    rcases hn with hn | hn
    · omega
    · exact hx hn)⟩
theorem Xxo {w : World} {b off : Nat} {cs : Array Value} {T : Nat} (h : w.heap[b]? = some (.cells cs T (0, 0))) (u : Value) :
    (w.setCell ⟨b, off, none⟩ u).heap[b]? = some (.cells (cs.setIfInBounds off u) T (0, 0)) ∧ Wr b w (w.setCell ⟨b, off, none⟩ u) := by
  have hb : b < w.heap.size := (Array.getElem?_eq_some_iff.1 h).1
  refine ⟨?_, rfl, rfl, rfl, by simp [World.setCell], fun k hk => ?_⟩
  · simp only [World.setCell]
    rw [Array.getElem?_modify]; simp [h]
  · simp only [World.setCell]
    rw [Array.getElem?_modify]; simp [Ne.symm hk]

theorem Xz4 {P : Program} {α : Type} {w : World} {b off : Nat} {cs : Array Value} {T : Nat} (h : w.heap[b]? = some (.cells cs T (0, 0))) (ho : off < cs.size) {u : Value} (hu : X0k u) (k : Sem α) :
    (Sem.store .plain ⟨b, off, none⟩ u k).run P w = k.run P (w.setCell ⟨b, off, none⟩ u) := by
  have hc : ∃ x, w.cell? ⟨b, off, none⟩ = some x := by
    refine ⟨cs[off], ?_⟩
    simp [World.cell?, h, ho]
  obtain ⟨x, hx⟩ := hc
  have hf : w.frozen? ⟨b, off, none⟩ = false := by
    simp [World.frozen?, h]
  cases u with
  | agg cs => exact absurd rfl (hu.1 cs)
  | tuple vs => exact absurd rfl (hu.2 vs)
  | _ => simp only [Sem.run, hx, hf]; rfl

theorem Xht {P : Program} {b T : Nat} : ∀ (us : List Value) (w : World) (cs : Array Value) (off i : Nat), w.heap[b]? = some (.cells cs T (0, 0)) → off + i + us.length ≤ cs.size → (∀ u ∈ us, X0k u) →
    ∃ w' cs', (storeCells ⟨b, off, none⟩ us i).run P w = .ok () w' ∧ Wr b w w' ∧ w'.heap[b]? = some (.cells cs' T (0, 0)) ∧ cs'.size = cs.size ∧
      cs'.toList = cs.toList.take (off + i) ++ us ++ cs.toList.drop (off + i + us.length)
  | [], w, cs, off, i, h, _, _ => ⟨w, cs, rfl, Wr.refl _ _, h, rfl, by simp⟩
  | u :: us, w, cs, off, i, h, hl, hu => by
    have ho : off + i < cs.size := by simp only [List.length_cons] at hl; omega
    obtain ⟨h1, h2⟩ := Xxo h (off := off + i) u
    obtain ⟨w', cs', k1, k2, k3, k4, k5⟩ := Xht (P := P) us _ _ off (i + 1) h1 (by simp only [List.length_cons] at hl; simp; omega) (fun x hx => hu x (by simp [hx]))
    refine ⟨w', cs', ?_, h2.trans k2, k3, by simpa using k4, ?_⟩
    · have e1 : storeCells ⟨b, off, none⟩ (u :: us) i = Sem.store .plain ((⟨b, off, none⟩ : Addr).add i) u (storeCells ⟨b, off, none⟩ us (i + 1)) := rfl
      rw [e1, Xcs rfl, Xz4 h ho (hu u (by simp))]
      exact k1
    · rw [k5]
      have e2 : (cs.setIfInBounds (off + i) u).toList = cs.toList.set (off + i) u := by simp
      rw [e2]
      have hlen : off + i < cs.toList.length := by simpa using ho
      rw [show off + (i + 1) = off + i + 1 from rfl, List.take_set, List.drop_set_of_lt (by omega)]
      rw [List.take_add_one, List.set_append_right _ _ (by simp; omega)]
      simp only [List.length_take, List.length_cons]
      have e3 : off + i - min (off + i) cs.toList.length = 0 := by omega
      have e4 : off + i + 1 + us.length = off + i + (us.length + 1) := by omega
      rw [e3, e4, List.getElem?_eq_getElem hlen]
      simp

theorem Xnz {P : Program} {w : World} {a : Addr} {mem : List Value} (h : X0a w a mem) : ∀ (n i : Nat) (acc : Array Value), i + n = mem.length →
    ∃ arr : Array Value, (loadCellsFrom a i n acc).run P w = .ok arr w ∧ arr.toList = acc.toList ++ mem.drop i
  | 0, i, acc, hi => ⟨acc, rfl, by rw [List.drop_of_length_le (by omega)]; simp⟩
  | n + 1, i, acc, hi => by
    have hl : i < mem.length := by omega
    have h1 := h i mem[i] (List.getElem?_eq_getElem hl)
    obtain ⟨arr, k1, k2⟩ := Xnz (P := P) h n (i + 1) (acc.push mem[i]) (by omega)
    refine ⟨arr, ?_, ?_⟩
    · have e1 : loadCellsFrom a i (n + 1) acc = Sem.load .plain (a.add i) fun v => loadCellsFrom a (i + 1) n (acc.push v) := rfl
      rw [e1]; simp only [Sem.run, h1]; exact k1
    · rw [k2, List.drop_eq_getElem_cons hl]; simp
theorem Xi4 {P : Program} {w : World} {a : Addr} {mem : List Value} (h : X0a w a mem) {n : Nat} (hn : n = mem.length) :
    ∃ arr : Array Value, (loadCells a n).run P w = .ok arr w ∧ arr.toList = mem := by
  obtain ⟨arr, k1, k2⟩ := Xnz (P := P) h n 0 #[] (by omega)
  exact ⟨arr, k1, by simpa using k2⟩

theorem Xfs {w : World} {b T off : Nat} {cs : Array Value} {f : Nat × Nat} (h : w.heap[b]? = some (.cells cs T f)) {c1 c2 c3 : List Value} (hc : cs.toList = c1 ++ c2 ++ c3) (ho : c1.length = off) : X0a w ⟨b, off, none⟩ c2 := by
  intro j u hj
  rw [Xcs rfl]
  simp only [World.cell?, h]
  have : cs.toList[off + j]? = some u := by
    have hl : j < c2.length := (List.getElem?_eq_some_iff.1 hj).1
    rw [hc, List.append_assoc, List.getElem?_append_right (by omega), List.getElem?_append_left (by omega), ← ho, Nat.add_sub_cancel_left]
    exact hj
  simpa using this

def World.add (w : World) (o : Obj) : World := { w with heap := w.heap.push o }
theorem Xh6 (w : World) (o : Obj) : Below w.heap.size w (Am.World.add w o) :=
  ⟨rfl, rfl, rfl, by show _ ≤ (w.heap.push o).size; rw [Array.size_push]; omega, fun k hk => by show (w.heap.push o)[k]? = _; rw [Array.getElem?_push, if_neg (Nat.ne_of_lt hk)]⟩
theorem Xwq (w : World) (o : Obj) : (Am.World.add w o).heap[w.heap.size]? = some o := by show (w.heap.push o)[w.heap.size]? = _; rw [Array.getElem?_push, if_pos rfl]
theorem Xos (w : World) (o : Obj) : (Am.World.add w o).heap.size = w.heap.size + 1 := Array.size_push _
def Xuq {α : Type} (f : Nat → α) (d : Nat) (x : α) : Nat → α := fun i => if i = d then x else f i
theorem Xb1 {α : Type} (f : Nat → α) (d : Nat) (x : α) : Xuq f d x d = x := by simp [Xuq]
theorem Xee {α : Type} (f : Nat → α) {d i : Nat} (x : α) (h : i ≠ d) : Xuq f d x i = f i := by simp [Xuq, h]

section
variable {C : Cx} {β : Nat → Nat} {ω : Nat → Value} {e : X7l} {a : Act} {w : World}

theorem Xoz (h : R C β ω e a w) {g b : Nat} (hv : (e (.o g)).v ≠ .none) (hl : (e (.o g)).live = true) (hb : J7 (ω g) = some b) : C.B b ∧ b < w.heap.size := by
  have := h.ow g
  unfold X7s at this
  split at this
  · rw [if_pos hl] at this
    obtain ⟨A, c, h1, _, _, h2 | ⟨blk, cs, T, rfl, h0, h3, _⟩⟩ := this
    · rw [h1, h2.1] at hb; simp [J7] at hb
    · rw [h1] at hb; simp only [J7, Option.some.injEq] at hb; subst hb; exact ⟨h0, h3⟩
  · rename_i hn; exact absurd hn hv
  · exact this.elim

theorem X5l (h : R C β ω e a w) (d : Nat) {v : AV} {cs : Array Value} (T : Nat) (hv : X6u (Sh C β ω e) w v cs.toList) :
    R C (Xuq β d w.heap.size) ω (X7z e (.b d) ⟨(e (.b d)).k + 1, true, v⟩) a (Am.World.add w (.cells cs T)) := by
  have hb := Xh6 w (.cells cs T)
  have hne : v ≠ .none := fun hn => by rw [hn] at hv; exact Xwd hv
  have et : ∀ t, X7z e (.b d) ⟨(e (.b d)).k + 1, true, v⟩ (.t t) = e (.t t) := fun t => Xbx _ _ (by simp)
  have eo : ∀ g, X7z e (.b d) ⟨(e (.b d)).k + 1, true, v⟩ (.o g) = e (.o g) := fun g => Xbx _ _ (by simp)
  have eb : ∀ d', d' ≠ d → X7z e (.b d) ⟨(e (.b d)).k + 1, true, v⟩ (.b d') = e (.b d') := fun d' hd => Xbx _ _ (by simpa using hd)
  have ed : X7z e (.b d) ⟨(e (.b d)).k + 1, true, v⟩ (.b d) = ⟨(e (.b d)).k + 1, true, v⟩ := Xbj _ _ _
  generalize he' : X7z e (.b d) ⟨(e (.b d)).k + 1, true, v⟩ = e' at *
  have hg : Gen β (Xuq β d w.heap.size) ω ω e e' := by
    refine ⟨fun d' => ?_, fun g => .inl ⟨by rw [eo], rfl⟩⟩
    by_cases hd : d' = d
    · subst hd; right; rw [ed]; exact Nat.lt_succ_self _
    · left; rw [eb d' hd, Xee _ _ hd]; exact ⟨rfl, rfl⟩
  have sh : ∀ b, Sh C β ω e b → b < w.heap.size → Sh C (Xuq β d w.heap.size) ω e' b := by
    rintro b ⟨h1, h2⟩ hlt
    refine ⟨h1, ?_⟩
    rintro (⟨d', k1, k2, k3⟩ | ⟨g, k1, k2, k3⟩)
    · by_cases hd : d' = d
      · subst hd; rw [Xb1] at k3; omega
      · rw [eb d' hd] at k1 k2; rw [Xee _ _ hd] at k3
        exact h2 (.inl ⟨d', k1, k2, k3⟩)
    · rw [eo] at k1 k2; exact h2 (.inr ⟨g, k1, k2, k3⟩)
  refine Xk1 h h.n h.df ⟨hb.os, hb.tape, hb.output, hb.size, fun k hk _ => hb.block k (Nat.lt_of_lt_of_le hk h.hb)⟩ hb.size hg (fun b h1 h2 => ⟨sh b h1 h2, hb.block b h2⟩) (fun t => .inl ⟨et t, rfl⟩) (fun d' hd' => ?_) ?_ (fun g => ?_) ?_ ?_
  · by_cases hd : d' = d
    · subst hd; right; rw [Xb1, ed]
      exact ⟨h.hb, by rw [Xos]; omega, cs, T, Xwq _ _, Xcx (fun b h1 h2 => ⟨sh b h1 h2, hb.block b h2⟩) hb.size hv⟩
    · left; rw [eb d' hd] at hd' ⊢; rw [Xee _ _ hd]
      exact ⟨rfl, rfl, hb.block _ (h.bx d' hd').2.1⟩
  · intro d1 d2 h1 h2 h3
    by_cases hd1 : d1 = d <;> by_cases hd2 : d2 = d
    · rw [hd1, hd2]
    · subst hd1; rw [Xb1, Xee _ _ hd2] at h3; rw [eb d2 hd2] at h2
      have := (h.bx d2 h2).2.1; omega
    · subst hd2; rw [Xb1, Xee _ _ hd1] at h3; rw [eb d1 hd1] at h1
      have := (h.bx d1 h1).2.1; omega
    · rw [Xee _ _ hd1, Xee _ _ hd2] at h3; rw [eb d1 hd1] at h1; rw [eb d2 hd2] at h2
      exact h.bi d1 d2 h1 h2 h3
  · by_cases hvn : (e (.o g)).v = .none
    · right; unfold X7s; rw [eo, hvn]; trivial
    · left; rw [eo]; exact ⟨rfl, rfl, rfl, fun hl b hbk => hb.block b (Xoz h hvn hl hbk).2⟩
  · simp only [eo]; exact h.oi
  · intro g d' h1 h2 h3
    rw [eo] at h1 h2
    by_cases hd : d' = d
    · subst hd; rw [Xb1]; intro hbk; have := (Xoz h h1 h2 hbk).2; omega
    · rw [Xee _ _ hd]; rw [eb d' hd] at h3; exact h.ob g d' h1 h2 h3

theorem Xzp (h : R C β ω e a w) {d : Nat} (hd : (e (.b d)).v ≠ .none) (hl : (e (.b d)).live = true) {w' : World} (hw : Wr (β d) w w') {v : AV} {cs : Array Value} {T : Nat}
    (hc : w'.heap[β d]? = some (.cells cs T (0, 0))) (hv : X6u (Sh C β ω e) w v cs.toList) : R C β ω (X7z e (.b d) ⟨(e (.b d)).k, true, v⟩) a w' := by
  have hne : v ≠ .none := fun hn => by rw [hn] at hv; exact Xwd hv
  have et : ∀ t, X7z e (.b d) ⟨(e (.b d)).k, true, v⟩ (.t t) = e (.t t) := fun t => Xbx _ _ (by simp)
  have eo : ∀ g, X7z e (.b d) ⟨(e (.b d)).k, true, v⟩ (.o g) = e (.o g) := fun g => Xbx _ _ (by simp)
  have eb : ∀ d', d' ≠ d → X7z e (.b d) ⟨(e (.b d)).k, true, v⟩ (.b d') = e (.b d') := fun d' hd => Xbx _ _ (by simpa using hd)
  have ed : X7z e (.b d) ⟨(e (.b d)).k, true, v⟩ (.b d) = ⟨(e (.b d)).k, true, v⟩ := Xbj _ _ _
  generalize he' : X7z e (.b d) ⟨(e (.b d)).k, true, v⟩ = e' at *
  have ne : ∀ d', (e' (.b d')).v ≠ .none → (e (.b d')).v ≠ .none := fun d' hn => by
    by_cases hx : d' = d
    · subst hx; exact hd
    · rw [eb d' hx] at hn; exact hn
  have hg : Gen β β ω ω e e' := by
    refine ⟨fun d' => .inl ⟨?_, rfl⟩, fun g => .inl ⟨by rw [eo], rfl⟩⟩
    by_cases hx : d' = d
    · subst hx; rw [ed]
    · rw [eb d' hx]
  have hp : ∀ b, Xn9 β ω e' b ↔ Xn9 β ω e b := by
    intro b; unfold Xn9; simp only [eo]
    constructor
    · rintro (⟨d', k1, k2, k3⟩ | k)
      · by_cases hx : d' = d
        · subst hx; exact .inl ⟨d', hd, hl, k3⟩
        · rw [eb d' hx] at k1 k2; exact .inl ⟨d', k1, k2, k3⟩
      · exact .inr k
    · rintro (⟨d', k1, k2, k3⟩ | k)
      · by_cases hx : d' = d
        · subst hx; exact .inl ⟨d', by rw [ed]; exact hne, by rw [ed], k3⟩
        · exact .inl ⟨d', by rw [eb d' hx]; exact k1, by rw [eb d' hx]; exact k2, k3⟩
      · exact .inr k
  have nsh : ∀ b, Sh C β ω e b → b ≠ β d := by
    rintro b ⟨_, h2⟩ rfl; exact h2 (.inl ⟨d, hd, hl, rfl⟩)
  have sh : ∀ b, Sh C β ω e b → b < w.heap.size → Sh C β ω e' b ∧ w'.heap[b]? = w.heap[b]? := fun b hb _ => ⟨⟨hb.1, by rw [hp]; exact hb.2⟩, hw.rest b (nsh b hb)⟩
  obtain ⟨hb1, hb2, _⟩ := h.bx d hd
  refine Xk1 h h.n h.df (hw.belx (.inl hb1)) (Nat.le_of_eq hw.size.symm) hg sh (fun t => .inl ⟨et t, rfl⟩) (fun d' hd' => ?_) (fun d1 d2 h1 h2 => h.bi d1 d2 (ne d1 h1) (ne d2 h2)) (fun g => ?_) ?_ ?_
  · by_cases hx : d' = d
    · subst hx; right; rw [ed]
      exact ⟨hb1, by rw [hw.size]; exact hb2, cs, T, hc, Xcx sh (Nat.le_of_eq hw.size.symm) hv⟩
    · left; rw [eb d' hx] at hd' ⊢
      exact ⟨rfl, rfl, hw.rest _ (fun hk => hx (h.bi d' d hd' hd hk))⟩
  · by_cases hvn : (e (.o g)).v = .none
    · right; unfold X7s; rw [eo, hvn]; trivial
    · left; rw [eo]; exact ⟨rfl, rfl, rfl, fun hl' b hbk => hw.rest b (fun hk => h.ob g d hvn hl' hd (by rw [hbk, hk]))⟩
  · simp only [eo]; exact h.oi
  · intro g d' h1 h2 h3; rw [eo] at h1 h2; exact h.ob g d' h1 h2 (ne d' h3)
end
open Go Go.RowKit
section
variable {C : Cx} {β : Nat → Nat} {ω : Nat → Value} {e : X7l} {a : Act} {w : World}

def X7g (ω : Nat → Value) (e : X7l) (g b : Nat) : Prop := (e (.o g)).v ≠ .none ∧ (e (.o g)).live = true ∧ J7 (ω g) = some b

theorem Xm2 (h : R C β ω e a w) {g k : Nat} {X73 : Value} {w' : World} (hk : (k = (e (.o g)).k ∧ X73 = ω g) ∨ (e (.o g)).k < k) (hs : w.heap.size ≤ w'.heap.size) (hbel : BelX C.X C.base w w')
    (hun : ∀ b, b < w.heap.size → ¬ X7g ω e g b → w'.heap[b]? = w.heap[b]?) (hblk : ∀ b, J7 X73 = some b → w.heap.size ≤ b ∨ X7g ω e g b)
    {sz c : Nat} {rows : List AV} {A : Option Addr} (hval : X73 = .slice A rows.length c) (hc : rows.length ≤ c) (hz : ∀ r ∈ rows, r.size = sz)
    (hA : (A = Option.none ∧ c = 0) ∨ ∃ blk cs T, A = some ⟨blk, 0, Option.none⟩ ∧ C.B blk ∧ blk < w'.heap.size ∧ w'.heap[blk]? = some (.cells cs T (0, 0)) ∧ cs.size = c * sz ∧ Xeb (Sh C β ω e) w rows (cs.toList.take (rows.length * sz))) :
    R C β (Xuq ω g X73) (X7z e (.o g) ⟨k, true, .sl sz rows⟩) a w' := by
  have et : ∀ t, X7z e (.o g) ⟨k, true, .sl sz rows⟩ (.t t) = e (.t t) := fun t => Xbx _ _ (by simp)
  have eb : ∀ d, X7z e (.o g) ⟨k, true, .sl sz rows⟩ (.b d) = e (.b d) := fun d => Xbx _ _ (by simp)
  have eo : ∀ g', g' ≠ g → X7z e (.o g) ⟨k, true, .sl sz rows⟩ (.o g') = e (.o g') := fun g' hg => Xbx _ _ (by simpa using hg)
  have eg : X7z e (.o g) ⟨k, true, .sl sz rows⟩ (.o g) = ⟨k, true, .sl sz rows⟩ := Xbj _ _ _
  generalize he' : X7z e (.o g) ⟨k, true, .sl sz rows⟩ = e' at *
  have hg : Gen β β ω (Xuq ω g X73) e e' := by
    refine ⟨fun d => .inl ⟨by rw [eb], rfl⟩, fun g' => ?_⟩
    by_cases hx : g' = g
    · subst hx; rw [eg, Xb1]; exact hk.imp (fun h => ⟨h.1, h.2⟩) id
    · left; rw [eo g' hx, Xee _ _ hx]; exact ⟨rfl, rfl⟩
  have hadne : ∀ g' b, g' ≠ g → X7g ω e g' b → ¬ X7g ω e g b := fun g' b hx h1 h2 => hx (h.oi g' g b h1.1 h2.1 h1.2.1 h2.2.1 h1.2.2 h2.2.2)
  have sh0 : ∀ b, Sh C β ω e b → ¬ X7g ω e g b := fun b hb hh => hb.2 (.inr ⟨g, hh⟩)
  have sh : ∀ b, Sh C β ω e b → b < w.heap.size → Sh C β (Xuq ω g X73) e' b ∧ w'.heap[b]? = w.heap[b]? := by
    refine fun b hb hlt => ⟨⟨hb.1, ?_⟩, hun b hlt (sh0 b hb)⟩
    rintro (⟨d, k1, k2, k3⟩ | ⟨g', k1, k2, k3⟩)
    · rw [eb] at k1 k2; exact hb.2 (.inl ⟨d, k1, k2, k3⟩)
    · by_cases hx : g' = g
      · subst hx; rw [Xb1] at k3
        rcases hblk b k3 with q | q
        · omega
        · exact sh0 b hb q
      · rw [eo g' hx] at k1 k2; rw [Xee _ _ hx] at k3; exact hb.2 (.inr ⟨g', k1, k2, k3⟩)
  refine Xk1 h h.n h.df hbel hs hg sh (fun t => .inl ⟨et t, rfl⟩) (fun d hd => ?_) ?_ (fun g' => ?_) ?_ ?_
  · rw [eb] at hd ⊢
    exact .inl ⟨rfl, rfl, hun _ (h.bx d hd).2.1 (fun hh => h.ob g d hh.1 hh.2.1 hd hh.2.2)⟩
  · simp only [eb]; exact h.bi
  · by_cases hx : g' = g
    · subst hx; right
      unfold X7s
      rw [eg, Xb1]
      simp only [if_true]
      refine ⟨A, c, hval, hc, hz, hA.imp id ?_⟩
      rintro ⟨blk, cs, T, h1, h2, h3, h4, h5, h6⟩
      exact ⟨blk, cs, T, h1, h2, h3, h4, h5, Xf7 sh hs h6⟩
    · by_cases hvn : (e (.o g')).v = .none
      · right; unfold X7s; rw [eo g' hx, hvn]; trivial
      · left; rw [eo g' hx, Xee _ _ hx]
        exact ⟨rfl, rfl, rfl, fun hl b hbk => hun b (Xoz h hvn hl hbk).2 (hadne g' b hx ⟨hvn, hl, hbk⟩)⟩
  · intro g1 g2 b h1 h2 h3 h3' h4 h5
    by_cases hx1 : g1 = g <;> by_cases hx2 : g2 = g
    · rw [hx1, hx2]
    · subst hx1; rw [Xb1] at h4; rw [Xee _ _ hx2] at h5; rw [eo g2 hx2] at h2 h3'
      rcases hblk b h4 with q | q
      · have := (Xoz h h2 h3' h5).2; omega
      · exact h.oi g1 g2 b q.1 h2 q.2.1 h3' q.2.2 h5
    · subst hx2; rw [Xb1] at h5; rw [Xee _ _ hx1] at h4; rw [eo g1 hx1] at h1 h3
      rcases hblk b h5 with q | q
      · have := (Xoz h h1 h3 h4).2; omega
      · exact h.oi g1 g2 b h1 q.1 h3 q.2.1 h4 q.2.2
    · rw [Xee _ _ hx1] at h4; rw [Xee _ _ hx2] at h5; rw [eo g1 hx1] at h1 h3; rw [eo g2 hx2] at h2 h3'
      exact h.oi g1 g2 b h1 h2 h3 h3' h4 h5
  · intro g' d h1 h2 h3
    rw [eb] at h3
    by_cases hx : g' = g
    · subst hx; rw [Xb1]; intro hb
      rcases hblk _ hb with q | q
      · have := (h.bx d h3).2.1; omega
      · exact h.ob g' d q.1 q.2.1 h3 q.2.2
    · rw [eo g' hx] at h1 h2; rw [Xee _ _ hx]; exact h.ob g' d h1 h2 h3

theorem Xr7 (h : R C β ω e a w) {g sz : Nat} {rows : List AV} (hv : (e (.o g)).v = .sl sz rows) : R C β ω (X7z e (.o g) ⟨(e (.o g)).k, false, .sl sz rows⟩) a w := by
  have et : ∀ t, X7z e (.o g) ⟨(e (.o g)).k, false, .sl sz rows⟩ (.t t) = e (.t t) := fun t => Xbx _ _ (by simp)
  have eb : ∀ d, X7z e (.o g) ⟨(e (.o g)).k, false, .sl sz rows⟩ (.b d) = e (.b d) := fun d => Xbx _ _ (by simp)
  have eo : ∀ g', g' ≠ g → X7z e (.o g) ⟨(e (.o g)).k, false, .sl sz rows⟩ (.o g') = e (.o g') := fun g' hg => Xbx _ _ (by simpa using hg)
  have eg : X7z e (.o g) ⟨(e (.o g)).k, false, .sl sz rows⟩ (.o g) = ⟨(e (.o g)).k, false, .sl sz rows⟩ := Xbj _ _ _
  generalize he' : X7z e (.o g) ⟨(e (.o g)).k, false, .sl sz rows⟩ = e' at *
  have hg : Gen β β ω ω e e' := by
    refine ⟨fun d => .inl ⟨by rw [eb], rfl⟩, fun g' => ?_⟩
    by_cases hx : g' = g
    · subst hx; rw [eg]; exact .inl ⟨rfl, rfl⟩
    · left; rw [eo g' hx]; exact ⟨rfl, rfl⟩
  have sub : ∀ b, Xn9 β ω e' b → Xn9 β ω e b := by
    rintro b (⟨d, k1, k2, k3⟩ | ⟨g', k1, k2, k3⟩)
    · rw [eb] at k1 k2; exact .inl ⟨d, k1, k2, k3⟩
    · by_cases hx : g' = g
      · subst hx; rw [eg] at k2; cases k2
      · rw [eo g' hx] at k1 k2; exact .inr ⟨g', k1, k2, k3⟩
  have sh : ∀ b, Sh C β ω e b → b < w.heap.size → Sh C β ω e' b ∧ w.heap[b]? = w.heap[b]? := fun b hb _ => ⟨⟨hb.1, fun hp => hb.2 (sub b hp)⟩, rfl⟩
  refine Xk1 h h.n h.df (BelX.of (Below.refl _ _)) (Nat.le_refl _) hg sh (fun t => .inl ⟨et t, rfl⟩) (fun d _ => .inl ⟨by rw [eb], rfl, rfl⟩) ?_ (fun g' => ?_) ?_ ?_
  · simp only [eb]; exact h.bi
  · by_cases hx : g' = g
    · subst hx; right
      unfold X7s
      rw [eg]
      simp only [Bool.false_eq_true, if_false]
      have hown := h.ow g'
      unfold X7s at hown
      rw [hv] at hown
      simp only at hown
      split at hown
      · rename_i hl
        obtain ⟨A, c, h1, h2, h3, h4⟩ := hown
        unfold X6u
        refine ⟨A, c, by rw [h1], h2, h3, ?_⟩
        rcases h4 with ⟨h5, h6⟩ | ⟨blk, cs, T, h5, h6, h7, h8, h9, h10⟩
        · left; exact List.eq_nil_of_length_eq_zero (by omega)
        · right
          have hb : J7 (ω g') = some blk := by rw [h1, h5]; rfl
          have hvn : (e (.o g')).v ≠ .none := by rw [hv]; simp
          refine ⟨_, _, h5, rfl, ⟨.inr h6, ?_⟩, h7, Xf7 sh (Nat.le_refl _) h10, ?_⟩
          · rintro (⟨d, k1, k2, k3⟩ | ⟨g2, k1, k2, k3⟩)
            · rw [eb] at k1 k2; exact h.ob g' d hvn hl k1 (by rw [hb, k3])
            · by_cases hx2 : g2 = g'
              · subst hx2; rw [eg] at k2; cases k2
              · rw [eo g2 hx2] at k1 k2; exact hx2 (h.oi g2 g' blk k1 hvn k2 hl k3 hb)
          · exact Xfs h8 (c1 := []) (c3 := cs.toList.drop (rows.length * sz)) (by simp) rfl
      · exact Xcx sh (Nat.le_refl _) hown
    · by_cases hvn : (e (.o g')).v = .none
      · right; unfold X7s; rw [eo g' hx, hvn]; trivial
      · left; rw [eo g' hx]; exact ⟨rfl, rfl, rfl, fun _ _ _ => rfl⟩
  · intro g1 g2 b h1 h2 h3 h3' h4 h5
    have n1 : g1 ≠ g := fun hx => by subst hx; rw [eg] at h3; cases h3
    have n2 : g2 ≠ g := fun hx => by subst hx; rw [eg] at h3'; cases h3'
    rw [eo g1 n1] at h1 h3; rw [eo g2 n2] at h2 h3'
    exact h.oi g1 g2 b h1 h2 h3 h3' h4 h5
  · intro g' d h1 h2 h3
    have n1 : g' ≠ g := fun hx => by subst hx; rw [eg] at h2; cases h2
    rw [eo g' n1] at h1 h2; rw [eb] at h3
    exact h.ob g' d h1 h2 h3

theorem X4q (h : R C β ω e a w) (d : Nat) : R C β ω (X7z e (.b d) ⟨(e (.b d)).k, false, (e (.b d)).v⟩) a w := by
  have et : ∀ t, X7z e (.b d) ⟨(e (.b d)).k, false, (e (.b d)).v⟩ (.t t) = e (.t t) := fun t => Xbx _ _ (by simp)
  have eo : ∀ g, X7z e (.b d) ⟨(e (.b d)).k, false, (e (.b d)).v⟩ (.o g) = e (.o g) := fun g => Xbx _ _ (by simp)
  have ev : ∀ d', (X7z e (.b d) ⟨(e (.b d)).k, false, (e (.b d)).v⟩ (.b d')).v = (e (.b d')).v := fun d' => by
    by_cases hx : d' = d
    · subst hx; rw [Xbj]
    · rw [Xbx _ _ (by simpa using hx)]
  have ek : ∀ d', (X7z e (.b d) ⟨(e (.b d)).k, false, (e (.b d)).v⟩ (.b d')).k = (e (.b d')).k := fun d' => by
    by_cases hx : d' = d
    · subst hx; rw [Xbj]
    · rw [Xbx _ _ (by simpa using hx)]
  have el : ∀ d', (X7z e (.b d) ⟨(e (.b d)).k, false, (e (.b d)).v⟩ (.b d')).live = true → (e (.b d')).live = true := fun d' hl => by
    by_cases hx : d' = d
    · subst hx; rw [Xbj] at hl; cases hl
    · rw [Xbx _ _ (by simpa using hx)] at hl; exact hl
  generalize he' : X7z e (.b d) ⟨(e (.b d)).k, false, (e (.b d)).v⟩ = e' at *
  have hg : Gen β β ω ω e e' := ⟨fun d' => .inl ⟨ek d', rfl⟩, fun g => .inl ⟨by rw [eo], rfl⟩⟩
  have sub : ∀ b, Xn9 β ω e' b → Xn9 β ω e b := by
    rintro b (⟨d', k1, k2, k3⟩ | ⟨g', k1, k2, k3⟩)
    · rw [ev] at k1; exact .inl ⟨d', k1, el d' k2, k3⟩
    · rw [eo] at k1 k2; exact .inr ⟨g', k1, k2, k3⟩
  have sh : ∀ b, Sh C β ω e b → b < w.heap.size → Sh C β ω e' b ∧ w.heap[b]? = w.heap[b]? := fun b hb _ => ⟨⟨hb.1, fun hp => hb.2 (sub b hp)⟩, rfl⟩
  refine Xk1 h h.n h.df (BelX.of (Below.refl _ _)) (Nat.le_refl _) hg sh (fun t => .inl ⟨et t, rfl⟩) (fun d' _ => .inl ⟨ev d', rfl, rfl⟩) ?_ (fun g => .inl ⟨by rw [eo], by rw [eo], rfl, fun _ _ _ => rfl⟩) ?_ ?_
  · intro d1 d2 h1 h2; rw [ev] at h1 h2; exact h.bi d1 d2 h1 h2
  · simp only [eo]; exact h.oi
  · intro g d' h1 h2 h3; rw [eo] at h1 h2; rw [ev] at h3; exact h.ob g d' h1 h2 h3

def AV.noB (d : Nat) : AV → Bool
  | .ptr d' _ _ _ => !(Nat.beq d' d)
  | .clo _ caps => caps.all fun dk => !(Nat.beq dk.1 d)
  | _ => true
def AV.noO (g : Nat) : AV → Bool
  | .own g' _ => !(Nat.beq g' g)
  | .optr g' _ _ _ _ _ => !(Nat.beq g' g)
  | .win g' _ _ _ _ => !(Nat.beq g' g)
  | _ => true

theorem X30 (h : R C β ω e a w) {e' : X7l} (ht : ∀ t, e' (.t t) = e (.t t) ∨ ((e' (.t t)).v = .none ∧ (e' (.t t)).live = false))
    (hb : ∀ d, e' (.b d) = e (.b d) ∨ ((e' (.b d)).v = .none ∧ ∀ t, (e' (.t t)).v.noB d = true)) (ho : ∀ g, e' (.o g) = e (.o g) ∨ ((e' (.o g)).v = .none ∧ ∀ t, (e' (.t t)).v.noO g = true)) (hx : ∀ g k u, C.K = some (g, k, u) → e' (.o g) = e (.o g)) : R C β ω e' a w := by
  have nb : ∀ d, (e' (.b d)).v ≠ .none → e' (.b d) = e (.b d) := fun d hn => (hb d).resolve_right fun k => hn k.1
  have no : ∀ g, (e' (.o g)).v ≠ .none → e' (.o g) = e (.o g) := fun g hn => (ho g).resolve_right fun k => hn k.1
  have sub : ∀ b, Xn9 β ω e' b → Xn9 β ω e b := by
    rintro b (⟨d, k1, k2, k3⟩ | ⟨g, k1, k2, k3⟩)
    · have q := nb d k1; rw [q] at k1 k2; exact .inl ⟨d, k1, k2, k3⟩
    · have q := no g k1; rw [q] at k1 k2; exact .inr ⟨g, k1, k2, k3⟩
  have sh : ∀ b, Sh C β ω e b → b < w.heap.size → Sh C β ω e' b ∧ w.heap[b]? = w.heap[b]? := fun b hb' _ => ⟨⟨hb'.1, fun hp => hb'.2 (sub b hp)⟩, rfl⟩
  -- Xk1 with a Gen that holds only where it matters: done by hand
  have mv : ∀ {x : AV} {v : Value}, (∀ d, x.noB d = false → e' (.b d) = e (.b d)) → (∀ g, x.noO g = false → e' (.o g) = e (.o g)) → Xky (Sh C β ω e) w β ω e x v → Xky (Sh C β ω e') w β ω e' x v := by
    intro x v q1 q2 k
    cases x with
    | none => trivial
    | tup vs => obtain ⟨arr, h1, h2⟩ := k; exact ⟨arr, h1, Xkt sh (Nat.le_refl _) h2⟩
    | ptr d n off p => have := q1 d (by simp [AV.noB, Nat.beq_refl]); obtain ⟨k1, k2⟩ := k; exact ⟨by rw [this]; exact k1, fun hk => k2 (by rw [← this]; exact hk)⟩
    | own g n => have := q2 g (by simp [AV.noO, Nat.beq_refl]); obtain ⟨k1, k2⟩ := k; exact ⟨by rw [this]; exact k1, fun hk => k2 (by rw [← this]; exact hk)⟩
    | optr g n sz i off p => have := q2 g (by simp [AV.noO, Nat.beq_refl]); obtain ⟨k1, k2⟩ := k; exact ⟨by rw [this]; exact k1, fun hk => k2 (by rw [← this]; exact hk)⟩
    | win g n sz lo m => have := q2 g (by simp [AV.noO, Nat.beq_refl]); obtain ⟨k1, k2⟩ := k; exact ⟨by rw [this]; exact k1, fun hk => k2 (by rw [← this]; exact hk)⟩
    | rptr x =>
      obtain ⟨a, mem, h1, h2, h3, h4, h5, h6⟩ := k
      exact ⟨a, mem, h1, h2, (sh a.block h3 h4).1, h4, Xcx sh (Nat.le_refl _) h5, h6⟩
    | fn f => exact k
    | clo f caps =>
      obtain ⟨arr, h1, h2, h3⟩ := k
      have q3 : ∀ dk ∈ caps, e' (.b dk.1) = e (.b dk.1) := fun dk hdk => q1 dk.1 (by
        simp only [AV.noB]
        rw [List.all_eq_false]
        exact ⟨dk, hdk, by simp [Nat.beq_refl]⟩)
      exact ⟨arr, h1, fun dk hdk => by rw [q3 dk hdk]; exact h2 dk hdk, fun hall => h3 (fun dk hdk => by rw [← q3 dk hdk]; exact hall dk hdk)⟩
    | nil => exact Xb2 (x := .nil) sh (Nat.le_refl _) k
    | bool b => exact Xb2 (x := .bool b) sh (Nat.le_refl _) k
    | int kk n => exact Xb2 (x := .int kk n) sh (Nat.le_refl _) k
    | st fs => exact Xb2 (x := .st fs) sh (Nat.le_refl _) k
    | sl sz rows => exact Xb2 (x := .sl sz rows) sh (Nat.le_refl _) k
  refine ⟨h.n, h.df, h.bel, h.hb, h.sb, fun t hlt => ?_, fun t hlt => ?_, fun d hd => ?_, ?_, fun g => ?_, ?_, ?_, fun g k u hK => by rw [hx g k u hK]; exact h.kx g k u hK⟩
  · rcases ht t with q | q
    · rw [q] at hlt ⊢
      refine mv (fun d hd => ?_) (fun g hg => ?_) (h.tm t hlt)
      · rcases hb d with r | r
        · exact r
        · have := r.2 t; rw [q] at this; rw [this] at hd; cases hd
      · rcases ho g with r | r
        · exact r
        · have := r.2 t; rw [q] at this; rw [this] at hg; cases hg
    · rw [q.1]; trivial
  · rcases ht t with q | q
    · rw [q] at hlt; exact h.tu t hlt
    · rw [q.2] at hlt; cases hlt
  · have hq := nb d hd
    rw [hq] at hd ⊢
    obtain ⟨h1, h2, cs, T, h3, h4⟩ := h.bx d hd
    exact ⟨h1, h2, cs, T, h3, Xcx sh (Nat.le_refl _) h4⟩
  · intro d1 d2 h1 h2
    have q1 := nb d1 h1; have q2 := nb d2 h2; rw [q1] at h1; rw [q2] at h2; exact h.bi d1 d2 h1 h2
  · by_cases hn : (e' (.o g)).v = .none
    · unfold X7s; rw [hn]; trivial
    · rw [no g hn]
      have := h.ow g
      unfold X7s at *
      split at this
      · split at this
        · rename_i hl; rw [if_pos hl]; exact Xp0 sh (Nat.le_refl _) (fun _ _ => rfl) this
        · rename_i hl; rw [if_neg hl]; exact Xcx sh (Nat.le_refl _) this
      · trivial
      · exact this
  · intro g1 g2 b h1 h2 h3 h4
    have q1 := no g1 h1; have q2 := no g2 h2; rw [q1] at h1 h3; rw [q2] at h2 h4; exact h.oi g1 g2 b h1 h2 h3 h4
  · intro g d h1 h2 h3
    have q1 := no g h1; have q2 := nb d h3; rw [q1] at h1 h2; rw [q2] at h3; exact h.ob g d h1 h2 h3
end
open Go Go.RowKit

structure Ty where
  size : Nat := 1
  agg : Bool := false
  kind : Nat := 0                      -- 1 struct, 2 slice, 3 array, 4 whole number, 5 bool
  flds : List (Nat × Nat × Nat) := []  -- offset, cells, type
  elem : Nat := 0
  esz : Nat := 0
  eby : Nat := 0
  alen : Nat := 0
  ik : IntKind := .i64
  zero : AV := .none

def X7v (b : Bool) (cs : List Value) : Bool := match cs with
  | [.bool c] => b == c
  | _ => false
theorem X4e {b : Bool} {cs : List Value} (h : X7v b cs = true) : cs = [.bool b] := by
  unfold X7v at h; split at h
  · simp only [beq_iff_eq] at h; rw [h]
  · cases h
def X7u (k : IntKind) (n : Int) (cs : List Value) : Bool := match cs with
  | [.int l m] => decide (k = l) && decide (n = m)
  | _ => false
theorem X38 {k : IntKind} {n : Int} {cs : List Value} (h : X7u k n cs = true) : cs = [.int k n] := by
  unfold X7u at h; split at h
  · simp only [Bool.and_eq_true, decide_eq_true_eq] at h; rw [h.1, h.2]
  · cases h
def X69 (rows : List AV) (cs : List Value) : Bool := match rows, cs with
  | [], [.slice Option.none 0 0] => true
  | _, _ => false
theorem X40 {rows : List AV} {cs : List Value} (h : X69 rows cs = true) : rows = [] ∧ cs = [.slice Option.none 0 0] := by
  unfold X69 at h; split at h
  · exact ⟨rfl, rfl⟩
  · cases h
mutual
def Xkf : AV → List Value → Bool
  | .bool b, cs => X7v b cs
  | .int k n, cs => X7u k n cs
  | .sl _ rows, cs => X69 rows cs
  | .st fs, cs => Xty fs cs
  | _, _ => false
def Xty : List AV → List Value → Bool
  | [], cs => cs.isEmpty
  | v :: vs, cs => Xkf v (cs.take v.size) && Xty vs (cs.drop v.size)
end
mutual
theorem Xwg {S : Nat → Prop} {w : World} : ∀ {v : AV} {cs : List Value}, Xkf v cs = true → X6u S w v cs
  | .bool b, cs, h => by unfold Xkf at h; unfold X6u; exact X4e h
  | .int k n, cs, h => by unfold Xkf at h; unfold X6u; exact X38 h
  | .sl sz rows, cs, h => by
    unfold Xkf at h; obtain ⟨rfl, rfl⟩ := X40 h
    unfold X6u
    refine ⟨Option.none, 0, rfl, Nat.le_refl _, ?_, Or.inl rfl⟩
    intro r hr; cases hr
  | .st fs, cs, h => by unfold Xkf at h; unfold X6u; exact Xwh h
  | .none, cs, h => by simp [Xkf] at h
  | .nil, cs, h => by simp [Xkf] at h
  | .tup _, cs, h => by simp [Xkf] at h
  | .ptr .., cs, h => by simp [Xkf] at h
  | .own .., cs, h => by simp [Xkf] at h
  | .optr .., cs, h => by simp [Xkf] at h
  | .rptr _, cs, h => by simp [Xkf] at h
  | .fn _, cs, h => by simp [Xkf] at h
  | .clo .., cs, h => by simp [Xkf] at h
  | .win .., cs, h => by simp [Xkf] at h
theorem Xwh {S : Nat → Prop} {w : World} : ∀ {vs : List AV} {cs : List Value}, Xty vs cs = true → Xeb S w vs cs
  | [], cs, h => by
    unfold Xty at h; unfold Xeb; simpa using h
  | v :: vs, cs, h => by
    unfold Xty at h
    rw [Bool.and_eq_true] at h
    unfold Xeb
    exact ⟨_, _, (List.take_append_drop v.size cs).symm, Xwg h.1, Xwh h.2⟩
end
def Xnv (P : Program) (fs : List Field) : List (Nat × Nat × Nat) → Bool
  | [] => fs.isEmpty
  | (o, s, t) :: r => match fs with
    | f :: fs => f.offset == o && f.type == t && !(s == 0) && (match P.info? t with | some i => i.size == s | Option.none => false) && Xnv P fs r
    | [] => false
def Xwe (P : Program) (el : Nat) (d : Ty) : Bool :=
  d.elem == el && (match P.info? el with | some i => i.size == d.esz && i.bytes == d.eby && !(d.esz == 0) && !(d.eby == 0) | Option.none => false)
def Xl3 (P : Program) (T : Nat) (d : Ty) : Bool :=
  match P.info? T, P.underlying T with
  | some i, some u => i.size == d.size && (match i.zero with | some z => Xkf d.zero z.cells.toList && (match z with | .agg _ => d.zero.isSt | _ => !d.zero.isSt) | Option.none => false) &&
    (match u with
     | .struct fs => d.agg && d.kind == 1 && Xnv P fs.toList d.flds
     | .array n el => d.agg && d.kind == 3 && d.alen == n && Xwe P el d
     | .slice el => !d.agg && d.kind == 2 && Xwe P el d
     | .int k => !d.agg && d.kind == 4 && decide (d.ik = k)
     | .bool => !d.agg && d.kind == 5
     | _ => !d.agg && d.kind == 0)
  | _, _ => false

def Xdu (L : List (Nat × Ty)) (T : Nat) : Option Ty :=
  match L with
  | [] => Option.none
  | (t, d) :: r => if Nat.beq t T = true then some d else Xdu r T
def Xe4 (P : Program) (L : List (Nat × Ty)) : Prop := L.all (fun x => Xl3 P x.1 x.2) = true
theorem Xau {P : Program} {L : List (Nat × Ty)} (h : Xe4 P L) {T : Nat} {d : Ty} (hd : Xdu L T = some d) : Xl3 P T d = true := by
  unfold Xe4 at h
  induction L with
  | nil => cases hd
  | cons x r ih =>
    rw [List.all_cons, Bool.and_eq_true] at h
    obtain ⟨t, d'⟩ := x
    unfold Xdu at hd
    split at hd
    · rename_i e1; simp only [Option.some.injEq] at hd; subst hd; have e2 := Nat.eq_of_beq_eq_true e1; subst e2; exact h.1
    · exact ih h.2 hd

structure TyIs (P : Program) (T : Nat) (d : Ty) : Prop where
  size : ∀ w, (sizeOf T).run P w = .ok d.size w
  zero : ∀ w, ∃ z, (zeroValue T).run P w = .ok z w ∧ ∀ S w', Xgb S w' d.zero z
  agg : ∀ w, (isAgg T).run P w = .ok d.agg w
theorem Xot {P : Program} {T : Nat} {i : TypeInfo} (h : P.info? T = some i) (w : World) : (typeInfo T).run P w = .ok i w := by
  simp [typeInfo, program, Sem.run, h]
theorem Xag {P : Program} {T : Nat} {u : TypeDesc} (h : P.underlying T = some u) (w : World) : (underlying T).run P w = .ok u w := by
  simp [underlying, program, Sem.run, h]
theorem Xgp {P : Program} {T : Nat} {i : TypeInfo} (h : P.info? T = some i) (w : World) : (sizeOf T).run P w = .ok i.size w := by
  simp [sizeOf, Xot h]
theorem Xv1 {v : Value} (h : ∀ cs, v ≠ .agg cs) : v.cells = #[v] := by
  cases v <;> first | rfl | exact absurd rfl (h _)
theorem Xx9 {P : Program} {T : Nat} {d : Ty} (h : Xl3 P T d = true) : TyIs P T d := by
  unfold Xl3 at h
  split at h
  · rename_i i u hi hu
    simp only [Bool.and_eq_true, beq_iff_eq] at h
    obtain ⟨⟨h1, h2⟩, h3⟩ := h
    refine ⟨fun w => by rw [Xgp hi, h1], fun w => ?_, fun w => ?_⟩
    · split at h2
      · rename_i z hz
        rw [Bool.and_eq_true] at h2
        refine ⟨z, by simp [zeroValue, Xot hi, hz], fun S w' => ?_⟩
        have hr := Xwg (S := S) (w := w') h2.1
        have hs := h2.2
        cases hd : d.zero with
        | st fs =>
          rw [hd] at hr hs
          cases z with
          | agg cs => exact ⟨cs, rfl, by simpa [X6u, Value.cells] using hr⟩
          | _ => simp [AV.isSt] at hs
        | _ =>
          rw [hd] at hr hs
          have hz' : ∀ cs, z ≠ .agg cs := fun cs hc => by rw [hc] at hs; simp [AV.isSt] at hs
          rw [Xv1 hz'] at hr
          exact hr
      · cases h2
    · simp only [isAgg, Sem.run_bind, Xag hu, Result.andThen_ok]
      split at h3 <;> simp only [Bool.and_eq_true, Bool.not_eq_true', beq_iff_eq] at h3 <;> simp_all
  · cases h
open Go Go.RowKit

theorem Xao (e : X7l) (us vs : List (Loc × LV)) : Xa8 e (us ++ vs) = Xa8 (Xa8 e us) vs := by
  induction us generalizing e with
  | nil => rfl
  | cons u us ih => obtain ⟨l, x⟩ := u; exact ih _

def X7r : Value → AV
  | .bool b => .bool b
  | .int k n => .int k n
  | .slice Option.none 0 0 => .nil
  | _ => .none
def X73 (e : X7l) : Operand → AV
  | .tmp t => match (e (.t t)).live with
    | false => (e (.t t)).v
    | true => .none
  | .const c => X7r c
  | .func f => .fn f
  | .global _ => .none
def X70 : AV → Bool
  | .nil | .bool _ | .int _ _ | .st _ | .sl _ _ => true
  | _ => false
def Xuk (e : X7l) : AV → AV
  | .own g k => if Nat.beq k (e (.o g)).k && !(e (.o g)).live then (e (.o g)).v else .none
  | v => v
def X01 (e : X7l) : AV → List (Loc × LV)
  | .own g k => if Nat.beq k (e (.o g)).k && (e (.o g)).live then (match (e (.o g)).v with | .sl sz rows => [(.o g, ⟨(e (.o g)).k, false, .sl sz rows⟩)] | _ => []) else []
  | _ => []
def X6r (e : X7l) : List AV → List (Loc × LV)
  | [] => []
  | v :: vs => X01 e v ++ X6r (Xa8 e (X01 e v)) vs
def X5h (L : List (Nat × Ty)) (T : Nat) : AV → AV
  | .nil => (match Xdu L T with | some d => (if Nat.beq d.kind 2 then .sl d.esz [] else .nil) | Option.none => .nil)
  | v => v
def X7f (L : List (Nat × Ty)) (e : X7l) (T : Nat) (v : AV) : AV := X5h L T (Xuk e v)
def Xda (o : Oper) (v : AV) : List (Loc × LV) := match o.dst with
  | some d => [(.t d, ⟨0, false, v⟩)]
  | Option.none => []

section
variable {P : Program} {L : List (Nat × Ty)} {C : Cx} {β : Nat → Nat} {ω : Nat → Value} {e : X7l} {a : Act} {w : World} {o : Oper} {K : Act → World → Prop} {Q : Exit → Act → World → Prop}

theorem Xbv {v : Value} {w' : World} (h : (execOp a.eval o).run P w = .ok (.value v) w') (hK : K (a.put o.dst v) w') : o.wp P a w K Q := by
  unfold Oper.wp; rw [h]; exact hK
theorem X18 {w' : World} (h : (execOp a.eval o).run P w = .ok .skip w') (hK : K (a.put o.dst undef) w') : o.wp P a w K Q := by
  unfold Oper.wp; rw [h]; exact hK

theorem Xbk {S : Nat → Prop} {x : AV} {v : Value} (hx : X70 x = true) : Xky S w β ω e x v ↔ Xgb S w x v := by
  cases x <;> simp [X70] at hx <;> exact Iff.rfl
theorem X3a {S : Nat → Prop} {x : AV} {v : Value} (h : Xgb S w x v) : X70 x = true := by
  cases x <;> first | rfl | (simp [Xgb, X6u] at h)
theorem Xdm {S : Nat → Prop} {x : AV} {v : Value} (h : Xgb S w x v) : X6u S w x v.cells.toList := by
  unfold Xgb at h
  split at h
  · obtain ⟨cs, rfl, h⟩ := h; unfold X6u; exact h
  · rename_i hn
    have : ∀ cs, v ≠ .agg cs := by
      intro cs hc; subst hc
      have := Xr2 h (.agg cs) (by simp)
      exact this.1 cs rfl
    rw [Xv1 this]; exact h
theorem Xwr {S : Nat → Prop} {x : AV} {cs : Array Value} (hx : x.isSt = true) (h : X6u S w x cs.toList) : Xgb S w x (.agg cs) := by
  cases x <;> simp [AV.isSt] at hx
  rename_i fs
  unfold X6u at h; exact ⟨cs, rfl, h⟩
theorem Xsz {S : Nat → Prop} {x : AV} {v : Value} (hx : x.isSt = false) (h : X6u S w x [v]) : Xgb S w x v := by
  cases x <;> first | exact h | (simp [AV.isSt] at hx)

theorem Xat (h : R C β ω e a w) (x : Operand) : Xky (Sh C β ω e) w β ω e (X73 e x) (a.eval x) := by
  cases x with
  | tmp t =>
    simp only [X73]; split
    · rename_i hl; exact h.tm t hl
    · trivial
  | const c =>
    simp only [X73, Act.eval]
    unfold X7r
    split
    · exact (Xbk rfl).2 (by simp [Xgb, X6u])
    · exact (Xbk rfl).2 (by simp [Xgb, X6u])
    · exact (Xbk rfl).2 (by simp [Xgb, X6u])
    · trivial
  | func f => rfl
  | «global» g => trivial

theorem Xd5 (h : R C β ω e a w) (hN : ∀ d, o.dst = some d → d < C.N) {x : AV} {v : Value} (hv : Xky (Sh C β ω e) w β ω e x v) : R C β ω (Xa8 e (Xda o x)) (a.put o.dst v) w := by
  unfold Xda
  cases hd : o.dst with
  | none => exact h
  | some d => exact Xvp h (hN d hd) ⟨fun _ => hv, fun k => nomatch k⟩

theorem X31 (h : R C β ω e a w) (v : AV) : R C β ω (Xa8 e (X01 e v)) a w := by
  cases v <;> try exact h
  rename_i g k
  simp only [X01]
  split
  · split
    · rename_i hv; exact Xr7 h hv
    · exact h
  · exact h
theorem Xm5 (h : R C β ω e a w) (vs : List AV) : R C β ω (Xa8 e (X6r e vs)) a w := by
  induction vs generalizing e with
  | nil => exact h
  | cons v vs ih => unfold X6r; rw [Xao]; exact ih (X31 h v)
theorem X33 (v : AV) (t : Nat) : Xa8 e (X01 e v) (.t t) = e (.t t) := by
  cases v <;> try rfl
  rename_i g k
  simp only [X01]
  split
  · split
    · simp only [Xa8]
      rw [Xbx _ _ (by simp)]
    · rfl
  · rfl
theorem X5n (vs : List AV) (t : Nat) : ∀ {e : X7l}, Xa8 e (X6r e vs) (.t t) = e (.t t) := by
  induction vs with
  | nil => intro e; rfl
  | cons v vs ih => intro e; unfold X6r; rw [Xao, ih, X33]
theorem Xeg (vs : List AV) (x : Operand) : X73 (Xa8 e (X6r e vs)) x = X73 e x := by
  cases x <;> first | rfl | (simp only [X73]; rw [X5n])

theorem Xm6 (h : R C β ω e a w) {v : AV} {x : Value} (hx : Xky (Sh C β ω e) w β ω e v x) (hd : X70 (Xuk e v) = true) : Xgb (Sh C β ω e) w (Xuk e v) x := by
  cases v with
  | own g k =>
    simp only [Xuk] at hd ⊢
    split at hd
    · rename_i hc
      rw [if_pos hc]
      simp only [Bool.and_eq_true, Bool.not_eq_true'] at hc
      have hk := Nat.eq_of_beq_eq_true hc.1
      have he := hx.2 hk
      rw [he]
      have := h.ow g
      unfold X7s at this
      split at this
      · rename_i sz rows hv
        rw [if_neg (by rw [hc.2]; simp)] at this
        rw [hv]; exact this
      · rename_i hv; rw [hv] at hd; simp [X70] at hd
      · exact this.elim
    · simp [X70] at hd
  | _ => exact (Xbk hd).1 hx
theorem X4t {S : Nat → Prop} {v : AV} {x : Value} {T : Nat} (h : Xgb S w v x) : Xgb S w (X5h L T v) x := by
  cases v <;> try exact h
  simp only [X5h]
  split
  · split
    · have h' : [x] = [Value.slice Option.none 0 0] := by simpa [Xgb, X6u] using h
      simp only [List.cons.injEq, and_true] at h'
      subst h'
      refine Xsz rfl ?_
      unfold X6u
      refine ⟨Option.none, 0, rfl, Nat.le_refl _, ?_, Or.inl rfl⟩
      intro r hr; cases hr
    · exact h
  · exact h
theorem X49 {v : AV} {T : Nat} (h : X70 (X5h L T v) = true) : X70 v = true := by
  cases v <;> first | rfl | exact h
theorem Xrm (h : R C β ω e a w) {v : AV} {x : Value} {T : Nat} (hx : Xky (Sh C β ω e) w β ω e v x) (hd : X70 (X7f L e T v) = true) : Xgb (Sh C β ω e) w (X7f L e T v) x :=
  X4t (Xm6 h hx (X49 hd))

theorem X3k (h : R C β ω e a w) (hN : ∀ d, o.dst = some d → d < C.N) {x : Operand} (ho : o.op = .move x ∨ o.op = .assign x)
    (hK : ∀ a', R C β ω (Xa8 e (Xda o (X73 e x))) a' w → K a' w) : o.wp P a w K Q := by
  have : (execOp a.eval o).run P w = .ok (.value (a.eval x)) w := by
    rcases ho with ho | ho <;> (unfold execOp; rw [ho]; rfl)
  exact Xbv this (hK _ (Xd5 h hN (Xat h x)))
theorem X3u (h : R C β ω e a w) (hN : ∀ d, o.dst = some d → d < C.N) {c x y : Operand} {t : Bool} (ho : o.op = .pick c x y) (hc : X73 e c = .bool t)
    (hK : ∀ a', R C β ω (Xa8 e (Xda o (bif t then X73 e x else X73 e y))) a' w → K a' w) : o.wp P a w K Q := by
  have h1 := Xat h c
  rw [hc] at h1
  have h2 : a.eval c = .bool t := by simpa [Xky, Xgb, X6u] using h1
  have : (execOp a.eval o).run P w = .ok (.value (bif t then a.eval x else a.eval y)) w := by
    unfold execOp; rw [ho]; simp only [h2]; cases t <;> rfl
  refine Xbv this (hK _ (Xd5 h hN ?_))
  cases t
  · exact Xat h y
  · exact Xat h x

theorem Xwb {v : AV} {cs : Array Value} {T : Nat} {d : Nat} (h : R C β ω e a w) (hd : d < C.N) (hv : X6u (Sh C β ω e) w v cs.toList) :
    R C (Xuq β d w.heap.size) ω (Xa8 e [(.b d, ⟨(e (.b d)).k + 1, true, v⟩), (.t d, ⟨0, false, .ptr d ((e (.b d)).k + 1) 0 []⟩)]) (a.put (some d) (.pointer (some ⟨w.heap.size, 0, Option.none⟩))) (Am.World.add w (.cells cs T)) := by
  have h1 := X5l h d T hv
  refine Xvp h1 hd ⟨fun _ => ?_, fun k => nomatch k⟩
  show _ ≤ _ ∧ _
  rw [Xbj, Xb1]
  exact ⟨Nat.le_refl _, fun _ => rfl⟩
theorem Xid (T : Nat) (cs : Array Value) : (newRow T cs).run P w = .ok ⟨w.heap.size, 0, Option.none⟩ (Am.World.add w (.cells cs T)) := rfl
theorem Xrf (T : Nat) (v : Value) : (newVar T v).run P w = .ok ⟨w.heap.size, 0, Option.none⟩ (Am.World.add w (.cells v.cells T)) := rfl

theorem X0b (hL : Xe4 P L) (h : R C β ω e a w) {d T : Nat} {ty : Ty} (hN : d < C.N) (ho : o.op = .alloc T) (hd : o.dst = some d) (hT : Xdu L T = some ty)
    (hK : ∀ β' a' w', R C β' ω (Xa8 e [(.b d, ⟨(e (.b d)).k + 1, true, ty.zero⟩), (.t d, ⟨0, false, .ptr d ((e (.b d)).k + 1) 0 []⟩)]) a' w' → K a' w') : o.wp P a w K Q := by
  obtain ⟨z, hz, hr⟩ := (Xx9 (Xau hL hT)).zero w
  have : (execOp a.eval o).run P w = .ok (.value (.pointer (some ⟨w.heap.size, 0, Option.none⟩))) (Am.World.add w (.cells z.cells T)) := by
    unfold execOp; rw [ho]
    simp only [Instr.alloc, Sem.run_bind, hz, Result.andThen_ok, Xrf, Sem.run_pure]
  refine Xbv this ?_
  rw [hd]
  exact hK _ _ _ (Xwb h hN (Xdm (hr _ _)))

theorem X46 (h : R C β ω e a w) {d T : Nat} (hN : d < C.N) {x : Operand} (ho : o.op = .box T x) (hd : o.dst = some d) {e1 : X7l} (he1 : e1 = Xa8 e (X6r e [X73 e x]))
    (hx : X70 (X7f L e1 T (X73 e x)) = true)
    (hK : ∀ β' a' w', R C β' ω (Xa8 e1 [(.b d, ⟨(e1 (.b d)).k + 1, true, X7f L e1 T (X73 e x)⟩), (.t d, ⟨0, false, .ptr d ((e1 (.b d)).k + 1) 0 []⟩)]) a' w' → K a' w') : o.wp P a w K Q := by
  have h1 : R C β ω e1 a w := by rw [he1]; exact Xm5 h _
  have hv := Xat h1 x
  have e2 : X73 e1 x = X73 e x := by rw [he1]; exact Xeg _ _
  rw [e2] at hv
  have : (execOp a.eval o).run P w = .ok (.value (.pointer (some ⟨w.heap.size, 0, Option.none⟩))) (Am.World.add w (.cells (a.eval x).cells T)) := by
    unfold execOp; rw [ho]
    simp only [Instr.box, Sem.run_bind, Result.andThen_ok, Xrf, Sem.run_pure]
  refine Xbv this ?_
  rw [hd]
  exact hK _ _ _ (Xwb h1 hN (Xdm (Xrm h1 hv hx)))

theorem Xi7 {T : Nat} {ty : Ty} (hty : TyIs P T ty) {S : Nat → Prop} {x : AV} {mem : List Value} {ad : Addr} (hx : X6u S w x mem) (hl : X0a w ad mem) (hsz : x.size = ty.size) (hag : x.isSt = ty.agg) :
    ∃ v, (loadVar T ad).run P w = .ok v w ∧ Xgb S w x v := by
  cases hg : ty.agg with
  | true =>
    obtain ⟨arr, h1, h2⟩ := Xi4 (P := P) hl (n := ty.size) (by rw [Xef hx, hsz])
    refine ⟨.agg arr, ?_, Xwr (by rw [hag, hg]) (by rw [h2]; exact hx)⟩
    simp only [loadVar, Sem.run_bind, hty.agg, hg, Result.andThen_ok, if_true, hty.size, h1, Sem.run_pure]
  | false =>
    have hs : x.isSt = false := by rw [hag, hg]
    have h1 : x.size = 1 := by cases x <;> first | rfl | simp [AV.isSt] at hs
    have h2 := Xef hx
    obtain ⟨v, rfl⟩ : ∃ v, mem = [v] := List.length_eq_one_iff.1 (by omega)
    refine ⟨v, ?_, Xsz hs hx⟩
    have h3 := hl 0 v rfl
    have h4 : ad.add 0 = ad := rfl
    rw [h4] at h3
    simp only [loadVar, Sem.run_bind, hty.agg, hg, Result.andThen_ok, Bool.false_eq_true, if_false]
    show (Sem.load .plain ad .pure).run P w = _
    simp only [Sem.run, h3]
theorem Xnf {T : Nat} {ad : Addr} : (Instr.loadAt T (.pointer (some ad))).run P w = (loadVar T ad).run P w := by
  simp [Instr.loadAt, Instr.sureAddr]

theorem Xvd (hL : Xe4 P L) (h : R C β ω e a w) (hN : ∀ d, o.dst = some d → d < C.N) {T d k off : Nat} {p : List Nat} {ty : Ty} {x : Operand} (ho : o.op = .load T x) (hx : X73 e x = .ptr d k off p) (hT : Xdu L T = some ty)
    (hk : k = (e (.b d)).k) (hat : (e (.b d)).v.at p = off) (hd : X70 ((e (.b d)).v.get p) = true) (hsz : ((e (.b d)).v.get p).size = ty.size) (hag : ((e (.b d)).v.get p).isSt = ty.agg)
    (hK : ∀ a', R C β ω (Xa8 e (Xda o ((e (.b d)).v.get p))) a' w → K a' w) : o.wp P a w K Q := by
  have h1 := Xat h x
  rw [hx] at h1
  have h2 := h1.2 hk
  have hn : (e (.b d)).v.get p ≠ .none := fun hn => by rw [hn] at hd; simp [X70] at hd
  have hn' : (e (.b d)).v ≠ .none := fun hn' => by rw [hn'] at hn; exact hn (by cases p <;> rfl)
  obtain ⟨_, _, cs, T', h3, h4⟩ := h.bx d hn'
  obtain ⟨c1, c2, c3, h5, h6, h7⟩ := Xi5 p h4 hn
  have h8 := Xfs h3 h5 (h6.trans hat)
  obtain ⟨v, h9, h10⟩ := Xi7 (P := P) (Xx9 (Xau hL hT)) h7 h8 hsz hag
  have : (execOp a.eval o).run P w = .ok (.value v) w := by
    unfold execOp; rw [ho]
    simp only [h2, Sem.run_bind, Xnf, h9, Result.andThen_ok, Sem.run_pure]
  exact Xbv this (hK _ (Xd5 h hN ((Xbk hd).2 h10)))

theorem Xfl {S : Nat → Prop} {x : AV} {p : List Nat} (hn : X70 (x.get p) = true) : x.get p ≠ .none := fun h => by rw [h] at hn; simp [X70] at hn

theorem Xxi (hL : Xe4 P L) (h : R C β ω e a w) (hN : ∀ d, o.dst = some d → d < C.N) {T : Nat} {ty : Ty} {x : Operand} {v : AV} (ho : o.op = .load T x) (hx : X73 e x = .rptr v) (hT : Xdu L T = some ty)
    (hd : X70 v = true) (hsz : v.size = ty.size) (hag : v.isSt = ty.agg)
    (hK : ∀ a', R C β ω (Xa8 e (Xda o v)) a' w → K a' w) : o.wp P a w K Q := by
  have h1 := Xat h x
  rw [hx] at h1
  obtain ⟨ad, mem, h2, h3, h4, h5, h6, h7⟩ := h1
  obtain ⟨u, h9, h10⟩ := Xi7 (P := P) (Xx9 (Xau hL hT)) h6 h7 hsz hag
  have : (execOp a.eval o).run P w = .ok (.value u) w := by
    unfold execOp; rw [ho]
    simp only [h2, Sem.run_bind, Xnf, h9, Result.andThen_ok, Sem.run_pure]
  exact Xbv this (hK _ (Xd5 h hN ((Xbk hd).2 h10)))

theorem Xn2 {T : Nat} {ty : Ty} (hty : TyIs P T ty) {b off T' : Nat} {cs : Array Value} {v : Value} (hc : w.heap[b]? = some (.cells cs T' (0, 0))) (hv : ∀ u ∈ v.cells.toList, X0k u) (hs : v.cells.size = ty.size) (hl : off + v.cells.size ≤ cs.size) :
    ∃ w' cs', (storeVar T ⟨b, off, Option.none⟩ v).run P w = .ok () w' ∧ Wr b w w' ∧ w'.heap[b]? = some (.cells cs' T' (0, 0)) ∧ cs'.size = cs.size ∧ cs'.toList = cs.toList.take off ++ v.cells.toList ++ cs.toList.drop (off + v.cells.size) := by
  obtain ⟨w', cs', h1, h2, h3, h4, h5⟩ := Xht (P := P) v.cells.toList w cs off 0 hc (by simpa using hl) hv
  refine ⟨w', cs', ?_, h2, h3, h4, by simpa using h5⟩
  simp only [storeVar, Sem.run_bind, hty.size, Result.andThen_ok, hs, ne_eq, not_true, if_false]
  simpa [hs] using h1
theorem Xqc {T : Nat} {ad : Addr} {v : Value} : (Instr.storeAt T (.pointer (some ad)) v).run P w = (storeVar T ad v).run P w := by
  simp [Instr.storeAt, Instr.sureAddr]

theorem Xnd {S : Nat → Prop} {p : List Nat} {x y : AV} {cs xs : List Value} (hy : X6u S w y xs) (hx : X6u S w x cs) (hn : X70 (x.get p) = true) (hsz : y.size = (x.get p).size) :
    x.at p + y.size ≤ cs.length ∧ X6u S w (x.put y p) (cs.take (x.at p) ++ xs ++ cs.drop (x.at p + y.size)) := by
  obtain ⟨c1, c2, c3, rfl, h6, h7⟩ := Xi5 p hx (Xfl (S := S) hn)
  have h8 := Xyg hy p hx (Xfl (S := S) hn) hsz c1 c2 c3 rfl h6 (by rw [Xef h7, hsz])
  have h9 := Xef h7
  refine ⟨by simp only [List.length_append]; omega, ?_⟩
  have e1 : (c1 ++ c2 ++ c3).take (x.at p) = c1 := by rw [← h6, List.append_assoc, List.take_left]
  have e2 : (c1 ++ c2 ++ c3).drop (x.at p + y.size) = c3 := by
    rw [show x.at p + y.size = (c1 ++ c2).length by rw [List.length_append]; omega, List.drop_left]
  rw [e1, e2]; exact h8

theorem Xs1 (hL : Xe4 P L) (h : R C β ω e a w) (hN : ∀ d, o.dst = some d → d < C.N) {T d k off : Nat} {p : List Nat} {ty : Ty} {x y : Operand} (ho : o.op = .store T x y) (hx : X73 e x = .ptr d k off p) (hT : Xdu L T = some ty)
    {e1 : X7l} (he1 : e1 = Xa8 e (X6r e [X73 e y])) (hd : X70 (X7f L e1 T (X73 e y)) = true)
    (hk : k = (e1 (.b d)).k) (hl : (e1 (.b d)).live = true) (hat : (e1 (.b d)).v.at p = off) (hg : X70 ((e1 (.b d)).v.get p) = true) (hsz : (X7f L e1 T (X73 e y)).size = ((e1 (.b d)).v.get p).size) (hst : (X7f L e1 T (X73 e y)).size = ty.size)
    (hK : ∀ a' w', R C β ω (Xa8 e1 ((.b d, ⟨k, true, (e1 (.b d)).v.put (X7f L e1 T (X73 e y)) p⟩) :: Xda o .none)) a' w' → K a' w') : o.wp P a w K Q := by
  have h1 : R C β ω e1 a w := by rw [he1]; exact Xm5 h _
  have hv := Xat h1 y
  have e2 : X73 e1 y = X73 e y := by rw [he1]; exact Xeg _ _
  rw [e2] at hv
  have hy := Xdm (Xrm h1 hv hd)
  have hp := Xat h1 x
  have e3 : X73 e1 x = X73 e x := by rw [he1]; exact Xeg _ _
  rw [e3, hx] at hp
  have h2 := hp.2 hk
  have hn := Xfl (S := fun _ => True) hg
  have hn' : (e1 (.b d)).v ≠ .none := fun hn' => by rw [hn'] at hn; exact hn (by cases p <;> rfl)
  obtain ⟨_, _, cs, T', h3, h4⟩ := h1.bx d hn'
  obtain ⟨q1, q2⟩ := Xnd hy h4 hg hsz
  have q3 := Xef hy
  have q4 : (a.eval y).cells.size = (X7f L e1 T (X73 e y)).size := by rw [← q3]; simp
  obtain ⟨w', cs', r1, r2, r3, r4, r5⟩ := Xn2 (P := P) (Xx9 (Xau hL hT)) (off := off) h3 (Xr2 hy) (by rw [q4, hst]) (by rw [q4, ← hat]; simpa using q1)
  have : (execOp a.eval o).run P w = .ok .skip w' := by
    unfold execOp; rw [ho]
    simp only [h2, Sem.run_bind, Xqc, r1, Result.andThen_ok, Sem.run_pure]
  refine X18 this (hK _ _ ?_)
  have r6 : R C β ω (X7z e1 (.b d) ⟨(e1 (.b d)).k, true, (e1 (.b d)).v.put (X7f L e1 T (X73 e y)) p⟩) a w' := Xzp h1 hn' hl r2 r3 (by rw [r5, ← hat, q4]; exact q2)
  rw [← hk] at r6
  show R C β ω (Xa8 (X7z e1 (.b d) _) (Xda o .none)) _ _
  exact Xd5 r6 hN trivial
end
open Go Go.RowKit

section
variable {P : Program} {L : List (Nat × Ty)} {C : Cx} {β : Nat → Nat} {ω : Nat → Value} {e : X7l} {a : Act} {w : World} {o : Oper} {K : Act → World → Prop} {Q : Exit → Act → World → Prop}

theorem Xq3 {fs : List Field} : ∀ {l : List (Nat × Nat × Nat)} {fs : List Field} {i ofs s t : Nat}, Xnv P fs l = true → l[i]? = some (ofs, s, t) → ∃ f i', fs[i]? = some f ∧ f.offset = ofs ∧ f.type = t ∧ P.info? t = some i' ∧ i'.size = s ∧ s ≠ 0
  | [], _, i, _, _, _, _, h => by simp at h
  | (o1, s1, t1) :: r, fs, i, ofs, s, t, h, hi => by
    unfold Xnv at h
    cases fs with
    | nil => cases h
    | cons f fs =>
      simp only [Bool.and_eq_true, beq_iff_eq, Bool.not_eq_true', beq_eq_false_iff_ne] at h
      obtain ⟨⟨⟨⟨h1, h2⟩, h3⟩, h4⟩, h5⟩ := h
      cases i with
      | zero =>
        simp only [List.getElem?_cons_zero, Option.some.injEq, Prod.mk.injEq] at hi
        obtain ⟨rfl, rfl, rfl⟩ := hi
        split at h4
        · rename_i i' hi'; exact ⟨f, i', rfl, h1, h2, hi', beq_iff_eq.1 h4, h3⟩
        · cases h4
      | succ i =>
        simp only [List.getElem?_cons_succ] at hi ⊢
        exact Xq3 (fs := fs) h5 hi
theorem Xub {T : Nat} {d : Ty} (h : Xl3 P T d = true) (hk : d.kind = 1) : ∃ fs, P.underlying T = some (.struct fs) ∧ Xnv P fs.toList d.flds = true ∧ d.agg = true := by
  unfold Xl3 at h
  split at h
  · rename_i i u hi hu
    simp only [Bool.and_eq_true, beq_iff_eq] at h
    obtain ⟨_, h3⟩ := h
    split at h3 <;> simp only [Bool.and_eq_true, Bool.not_eq_true', beq_iff_eq] at h3 <;> first | (exfalso; omega) | skip
    rename_i fs; exact ⟨fs, hu, h3.2, h3.1.1⟩
  · cases h
theorem Xq9 {el : Nat} {d : Ty} (h : Xwe P el d = true) : d.elem = el ∧ ∃ i', P.info? el = some i' ∧ i'.size = d.esz ∧ i'.bytes = d.eby ∧ d.esz ≠ 0 ∧ d.eby ≠ 0 := by
  unfold Xwe at h
  rw [Bool.and_eq_true, beq_iff_eq] at h
  refine ⟨h.1, ?_⟩
  have h2 := h.2
  split at h2
  · rename_i i' hi
    simp only [Bool.and_eq_true, beq_iff_eq, Bool.not_eq_true', beq_eq_false_iff_ne] at h2
    exact ⟨i', hi, h2.1.1.1, h2.1.1.2, h2.1.2, h2.2⟩
  · cases h2
theorem Xep {T : Nat} {d : Ty} (h : Xl3 P T d = true) (hk : d.kind = 2) : P.underlying T = some (.slice d.elem) ∧ ∃ i', P.info? d.elem = some i' ∧ i'.size = d.esz ∧ i'.bytes = d.eby ∧ d.esz ≠ 0 ∧ d.eby ≠ 0 := by
  unfold Xl3 at h
  split at h
  · rename_i i u hi hu
    simp only [Bool.and_eq_true, beq_iff_eq] at h
    obtain ⟨_, h3⟩ := h
    split at h3 <;> simp only [Bool.and_eq_true, Bool.not_eq_true', beq_iff_eq] at h3 <;> first | (exfalso; omega) | skip
    rename_i el; obtain ⟨h4, h5⟩ := Xq9 h3.2; subst h4; exact ⟨hu, h5⟩
  · cases h
theorem X2d {T : Nat} {d : Ty} (h : Xl3 P T d = true) (hk : d.kind = 3) : P.underlying T = some (.array d.alen d.elem) ∧ ∃ i', P.info? d.elem = some i' ∧ i'.size = d.esz ∧ i'.bytes = d.eby ∧ d.esz ≠ 0 ∧ d.eby ≠ 0 := by
  unfold Xl3 at h
  split at h
  · rename_i i u hi hu
    simp only [Bool.and_eq_true, beq_iff_eq] at h
    obtain ⟨_, h3⟩ := h
    split at h3 <;> simp only [Bool.and_eq_true, Bool.not_eq_true', beq_iff_eq] at h3 <;> first | (exfalso; omega) | skip
    rename_i n el; obtain ⟨h4, h5⟩ := Xq9 h3.2; subst h4; exact ⟨by rw [h3.1.2]; exact hu, h5⟩
  · cases h
theorem X2c {T : Nat} {d : Ty} (h : Xl3 P T d = true) (hk : d.kind = 4) : P.underlying T = some (.int d.ik) := by
  unfold Xl3 at h
  split at h
  · rename_i i u hi hu
    simp only [Bool.and_eq_true, beq_iff_eq] at h
    obtain ⟨_, h3⟩ := h
    split at h3 <;> simp only [Bool.and_eq_true, Bool.not_eq_true', beq_iff_eq, decide_eq_true_eq] at h3 <;> first | (exfalso; omega) | skip
    rw [h3.2]; exact hu
  · cases h
theorem X2m {T : Nat} {d : Ty} (h : Xl3 P T d = true) (hk : d.kind = 5) : P.underlying T = some .bool := by
  unfold Xl3 at h
  split at h
  · rename_i i u hi hu
    simp only [Bool.and_eq_true, beq_iff_eq] at h
    obtain ⟨_, h3⟩ := h
    split at h3 <;> simp only [Bool.and_eq_true, Bool.not_eq_true', beq_iff_eq] at h3 <;> first | (exfalso; omega) | skip
    exact hu
  · cases h

theorem Xll (hL : Xe4 P L) {T i ofs s t : Nat} {ty : Ty} (hT : Xdu L T = some ty) (hk : ty.kind = 1) (hf : ty.flds[i]? = some (ofs, s, t)) (ad : Addr) :
    (Instr.fieldAt T (.pointer (some ad)) i).run P w = .ok (.pointer (some (ad.add ofs))) w := by
  obtain ⟨fs, h1, h2, _⟩ := Xub (Xau hL hT) hk
  obtain ⟨f, i', h3, h4, h5, h6, h7, h8⟩ := Xq3 (fs := fs.toList) h2 hf
  have h3' : fs[i]? = some f := by simpa using h3
  have h9 : (sizeOf f.type).run P w = .ok s w := by rw [h5, Xgp h6, h7]
  unfold Instr.fieldAt
  simp only [Sem.run_bind, Xag h1, Result.andThen_ok, h3', Instr.sureAddr, Sem.run_pure, fieldPlace, h9, if_neg h8, h4]
theorem Xs0 (hL : Xe4 P L) (h : R C β ω e a w) (hN : ∀ d, o.dst = some d → d < C.N) {T i ofs s t : Nat} {ty : Ty} {x : Operand} {d k off : Nat} {p : List Nat} (ho : o.op = .fieldAddr T x i) (hx : X73 e x = .ptr d k off p) (hT : Xdu L T = some ty)
    (hk : ty.kind = 1) (hf : ty.flds[i]? = some (ofs, s, t))
    (hK : ∀ a', R C β ω (Xa8 e (Xda o (.ptr d k (off + ofs) (p ++ [i])))) a' w → K a' w) (hkk : k = (e (.b d)).k) : o.wp P a w K Q := by
  have h1 := Xat h x
  rw [hx] at h1
  have h2 := h1.2 hkk
  have : (execOp a.eval o).run P w = .ok (.value (.pointer (some ⟨β d, off + ofs, Option.none⟩))) w := by
    unfold execOp; rw [ho]
    simp only [h2, Sem.run_bind, Xll hL hT hk hf, Result.andThen_ok, Sem.run_pure, Xcs]
  exact Xbv this (hK _ (Xd5 h hN ⟨h1.1, fun _ => rfl⟩))
theorem Xtz (hL : Xe4 P L) (h : R C β ω e a w) (hN : ∀ d, o.dst = some d → d < C.N) {T i ofs s t : Nat} {ty : Ty} {x : Operand} {g k sz n off : Nat} {p : List Nat} (ho : o.op = .fieldAddr T x i) (hx : X73 e x = .optr g k sz n off p) (hT : Xdu L T = some ty)
    (hk : ty.kind = 1) (hf : ty.flds[i]? = some (ofs, s, t))
    (hK : ∀ a', R C β ω (Xa8 e (Xda o (.optr g k sz n (off + ofs) (p ++ [i])))) a' w → K a' w) (hkk : k = (e (.o g)).k) : o.wp P a w K Q := by
  have h1 := Xat h x
  rw [hx] at h1
  obtain ⟨blk, h0, h2⟩ := h1.2 hkk
  have : (execOp a.eval o).run P w = .ok (.value (.pointer (some ⟨blk, n * sz + (off + ofs), Option.none⟩))) w := by
    unfold execOp; rw [ho]
    simp only [h2, Sem.run_bind, Xll hL hT hk hf, Result.andThen_ok, Sem.run_pure, Xcs, Nat.add_assoc]
  exact Xbv this (hK _ (Xd5 h hN ⟨h1.1, fun _ => ⟨blk, h0, rfl⟩⟩))
theorem Xmh {ad : Addr} (hs : ad.spot = Option.none) {c1 c2 c3 : List Value} (h : X0a w ad (c1 ++ c2 ++ c3)) {n : Nat} (hn : c1.length = n) : X0a w (ad.add n) c2 := by
  intro j u hj
  rw [X0w ad hs, ← hn]
  refine h (c1.length + j) u ?_
  have hl : j < c2.length := (List.getElem?_eq_some_iff.1 hj).1
  rw [List.append_assoc, List.getElem?_append_right (by omega), List.getElem?_append_left (by omega), Nat.add_sub_cancel_left]
  exact hj
theorem Xum (hL : Xe4 P L) (h : R C β ω e a w) (hN : ∀ d, o.dst = some d → d < C.N) {T i ofs s t : Nat} {ty : Ty} {x : Operand} {v : AV} (ho : o.op = .fieldAddr T x i) (hx : X73 e x = .rptr v) (hT : Xdu L T = some ty)
    (hk : ty.kind = 1) (hf : ty.flds[i]? = some (ofs, s, t)) (hg : X70 (v.get [i]) = true) (hat : v.at [i] = ofs)
    (hK : ∀ a', R C β ω (Xa8 e (Xda o (.rptr (v.get [i])))) a' w → K a' w) : o.wp P a w K Q := by
  have h1 := Xat h x
  rw [hx] at h1
  obtain ⟨ad, mem, h2, h3, h4, h5, h6, h7⟩ := h1
  obtain ⟨c1, c2, c3, rfl, h8, h9⟩ := Xi5 [i] h6 (Xfl (S := fun _ => True) hg)
  have : (execOp a.eval o).run P w = .ok (.value (.pointer (some (ad.add ofs)))) w := by
    unfold execOp; rw [ho]
    simp only [h2, Sem.run_bind, Xll hL hT hk hf, Result.andThen_ok, Sem.run_pure]
  refine Xbv this (hK _ (Xd5 h hN ?_))
  exact ⟨ad.add ofs, c2, rfl, by rw [Xcs h3], by rw [Xek]; exact h4, by rw [Xek]; exact h5, h9, Xmh h3 h7 (h8.trans hat)⟩

theorem Xc8 (h : R C β ω e a w) {x : Operand} {k : IntKind} {n : Int} (hx : X73 e x = .int k n) : a.eval x = .int k n := by
  have h1 := Xat h x
  rw [hx] at h1
  simpa [Xky, Xgb, X6u] using h1
theorem Xok (h : R C β ω e a w) {x : Operand} {b : Bool} (hx : X73 e x = .bool b) : a.eval x = .bool b := by
  have h1 := Xat h x
  rw [hx] at h1
  simpa [Xky, Xgb, X6u] using h1
theorem Xkn {S : Nat → Prop} (k : IntKind) (n : Int) : Xky S w β ω e (.int k n) (.int k n) := (Xbk rfl).2 (by simp [Xgb, X6u])
theorem Xpg {S : Nat → Prop} (b : Bool) : Xky S w β ω e (.bool b) (.bool b) := (Xbk rfl).2 (by simp [Xgb, X6u])

def X2t : BinOp → Int → Int → Option Bool
  | .eql, x, y => some (decide (x = y))
  | .neq, x, y => some (!decide (x = y))
  | .lss, x, y => some (decide (x < y))
  | .leq, x, y => some (decide (x ≤ y))
  | .gtr, x, y => some (decide (y < x))
  | .geq, x, y => some (decide (y ≤ x))
  | _, _, _ => Option.none
theorem X6l (m n : Int) : (m == n) = decide (m = n) := by rw [Bool.eq_iff_iff]; simp
theorem X4a (h : R C β ω e a w) (hN : ∀ d, o.dst = some d → d < C.N) {op : BinOp} {T T' : Nat} {x y : Operand} {k : IntKind} {m n : Int} {b : Bool} (ho : o.op = .binOp op T x y T') (hx : X73 e x = .int k m) (hy : X73 e y = .int k n) (hb : X2t op m n = some b)
    (hK : ∀ a', R C β ω (Xa8 e (Xda o (.bool b))) a' w → K a' w) : o.wp P a w K Q := by
  have hx := Xc8 h hx
  have hy := Xc8 h hy
  have : (execOp a.eval o).run P w = .ok (.value (.bool b)) w := by
    unfold execOp; rw [ho]
    simp only [hx, hy]
    cases op <;> simp only [X2t, Option.some.injEq, reduceCtorEq] at hb <;> subst hb <;> simp [eqGuard, binOp, Op.intCmp, X6l, bne]
  exact Xbv this (hK _ (Xd5 h hN (Xpg b)))
def Jx : BinOp → IntKind → Int → Int → Option Int
  | .add, k, x, y => some (k.wrap (x + y))
  | .sub, k, x, y => some (k.wrap (x - y))
  | .mul, k, x, y => some (k.wrap (x * y))
  | .quo, k, x, y => some (k.wrap (x.tdiv y))
  | .rem, _, x, y => some (x.tmod y)
  | .and, k, x, y => some (k.wrap ((BitVec.ofInt k.bits x &&& BitVec.ofInt k.bits y).toNat))
  | .or, k, x, y => some (k.wrap ((BitVec.ofInt k.bits x ||| BitVec.ofInt k.bits y).toNat))
  | .shl, k, x, y => if y < 0 then Option.none else some (k.wrap (x * 2 ^ (min y.toNat k.bits)))
  | .shr, k, x, y => if y < 0 then Option.none else some (x.fdiv (2 ^ (min y.toNat k.bits)))
  | _, _, _, _ => Option.none
theorem X5a (h : R C β ω e a w) (hN : ∀ d, o.dst = some d → d < C.N) {op : BinOp} {T T' : Nat} {x y : Operand} {k : IntKind} {m n r : Int} (ho : o.op = .binOp op T x y T') (hx : X73 e x = .int k m) (hy : X73 e y = .int k n) (hr : Jx op k m n = some r) (hz : (op = .quo ∨ op = .rem) → n ≠ 0)
    (hK : ∀ a', R C β ω (Xa8 e (Xda o (.int k r))) a' w → K a' w) : o.wp P a w K Q := by
  have hx := Xc8 h hx
  have hy := Xc8 h hy
  have : (execOp a.eval o).run P w = .ok (.value (.int k r)) w := by
    unfold execOp; rw [ho]
    simp only [hx, hy]
    cases op <;> simp [Jx] at hr <;> first
      | (subst hr; simp [eqGuard, binOp, Op.intArith]; done)
      | (subst hr; have := hz (by simp); simp [eqGuard, binOp, Op.intDiv, this]; done)
      | (subst hr; simp [eqGuard, binOp, Op.intBits]; done)
      | (obtain ⟨h1, rfl⟩ := hr; simp only [eqGuard, binOp, Op.shift, if_neg (show ¬ n < 0 by omega)]; rfl)
  exact Xbv this (hK _ (Xd5 h hN (Xkn k r)))
theorem X19 (hL : Xe4 P L) (h : R C β ω e a w) (hN : ∀ d, o.dst = some d → d < C.N) {op : BinOp} {T T' : Nat} {ty : Ty} {x y : Operand} {m n r : Bool} (ho : o.op = .binOp op T x y T') (hx : X73 e x = .bool m) (hy : X73 e y = .bool n) (hT : Xdu L T = some ty) (hk : ty.kind = 5) (hr : (op = .eql ∧ r = (m == n)) ∨ (op = .neq ∧ r = !(m == n)))
    (hK : ∀ a', R C β ω (Xa8 e (Xda o (.bool r))) a' w → K a' w) : o.wp P a w K Q := by
  have hx := Xok h hx
  have hy := Xok h hy
  have hu := X2m (Xau hL hT) hk
  have heq : (Op.equal T (.bool m) (.bool n)).run P w = .ok (m == n) w := by
    show (Op.equalIn (9999 + 1) T (.bool m) (.bool n)).run P w = _
    unfold Op.equalIn
    simp only [Sem.run_bind, Xag hu, Result.andThen_ok, Sem.run_pure]
  have : (execOp a.eval o).run P w = .ok (.value (.bool r)) w := by
    rcases hr with ⟨rfl, rfl⟩ | ⟨rfl, rfl⟩ <;> (unfold execOp; rw [ho]; simp [hx, hy, eqGuard, binOp, heq])
  exact Xbv this (hK _ (Xd5 h hN (Xpg _)))
theorem X4o (h : R C β ω e a w) (hN : ∀ d, o.dst = some d → d < C.N) {T : Nat} {x : Operand} {b : Bool} (ho : o.op = .unOp .not T x) (hx : X73 e x = .bool b)
    (hK : ∀ a', R C β ω (Xa8 e (Xda o (.bool (!b)))) a' w → K a' w) : o.wp P a w K Q := by
  have hx := Xok h hx
  have : (execOp a.eval o).run P w = .ok (.value (.bool (!b))) w := by
    unfold execOp; rw [ho]; simp [hx, Op.unary]
  exact Xbv this (hK _ (Xd5 h hN (Xpg _)))
theorem X35 (h : R C β ω e a w) (hN : ∀ d, o.dst = some d → d < C.N) {T : Nat} {x : Operand} {k : IntKind} {n r : Int} (ho : o.op = .unOp .neg T x) (hx : X73 e x = .int k n) (hr : r = k.wrap (0 - n))
    (hK : ∀ a', R C β ω (Xa8 e (Xda o (.int k r))) a' w → K a' w) : o.wp P a w K Q := by
  have hx := Xc8 h hx
  subst hr
  have : (execOp a.eval o).run P w = .ok (.value (.int k (k.wrap (0 - n)))) w := by
    unfold execOp; rw [ho]; simp [hx, Op.unary, Op.intArith]
  exact Xbv this (hK _ (Xd5 h hN (Xkn k _)))
theorem X2o (hL : Xe4 P L) (h : R C β ω e a w) (hN : ∀ d, o.dst = some d → d < C.N) {T T' : Nat} {ty ty' : Ty} {x : Operand} {k : IntKind} {n r : Int} (ho : o.op = .convert T T' x) (hx : X73 e x = .int k n) (hT : Xdu L T = some ty) (hk : ty.kind = 4) (hT' : Xdu L T' = some ty') (hk' : ty'.kind = 4) (hr : r = ty'.ik.wrap n)
    (hK : ∀ a', R C β ω (Xa8 e (Xda o (.int ty'.ik r))) a' w → K a' w) : o.wp P a w K Q := by
  have hx := Xc8 h hx
  subst hr
  have h1 := X2c (Xau hL hT) hk
  have h2 := X2c (Xau hL hT') hk'
  have : (execOp a.eval o).run P w = .ok (.value (.int ty'.ik (ty'.ik.wrap n))) w := by
    unfold execOp; rw [ho]; simp [hx, convert, Xag h1, Xag h2, Conv.intToInt]
  exact Xbv this (hK _ (Xd5 h hN (Xkn _ _)))
theorem Xua {S : Nat → Prop} : ∀ {xs : List AV} {vs : List Value} {i : Nat}, Xlk S w xs vs → X70 (xs.getD i .none) = true → ∃ v, vs[i]? = some v ∧ Xgb S w (xs.getD i .none) v
  | [], _, i, _, h => by simp [X70] at h
  | x :: xs, vs, i, h, hd => by
    obtain ⟨v, rest, rfl, h1, h2⟩ := h
    cases i with
    | zero => exact ⟨v, rfl, h1⟩
    | succ i =>
      simp only [List.getD_cons_succ] at hd ⊢
      obtain ⟨u, h3, h4⟩ := Xua h2 hd
      exact ⟨u, by simpa using h3, h4⟩
theorem Xx3 (h : R C β ω e a w) (hN : ∀ d, o.dst = some d → d < C.N) {x : Operand} {vs : List AV} {i : Nat} (ho : o.op = .extract x i) (hx : X73 e x = .tup vs) (hd : X70 (vs.getD i .none) = true)
    (hK : ∀ a', R C β ω (Xa8 e (Xda o (vs.getD i .none))) a' w → K a' w) : o.wp P a w K Q := by
  have h1 := Xat h x
  rw [hx] at h1
  obtain ⟨arr, h2, h3⟩ := h1
  obtain ⟨v, h4, h5⟩ := Xua h3 hd
  have h4' : arr[i]? = some v := by simpa using h4
  have : (execOp a.eval o).run P w = .ok (.value v) w := by
    unfold execOp; rw [ho]; simp [h2, Instr.extract, h4']
  exact Xbv this (hK _ (Xd5 h hN ((Xbk hd).2 h5)))
end
open Go Go.RowKit

section
variable {P : Program} {L : List (Nat × Ty)} {C : Cx} {β : Nat → Nat} {ω : Nat → Value} {e : X7l} {a : Act} {w : World} {o : Oper} {K : Act → World → Prop} {Q : Exit → Act → World → Prop}

theorem Xuf : ∀ (us : List Value) (cs : Array Value) (off i : Nat), off + i + us.length ≤ cs.size →
    ((us.zipIdx i).foldl (fun (cs : Array Value) (x : Value × Nat) => cs.setIfInBounds (off + x.2) x.1) cs).toList = cs.toList.take (off + i) ++ us ++ cs.toList.drop (off + i + us.length) ∧
    ((us.zipIdx i).foldl (fun (cs : Array Value) (x : Value × Nat) => cs.setIfInBounds (off + x.2) x.1) cs).size = cs.size
  | [], cs, off, i, _ => by simp
  | u :: us, cs, off, i, h => by
    simp only [List.length_cons] at h
    rw [List.zipIdx_cons, List.foldl_cons]
    obtain ⟨h1, h2⟩ := Xuf us (cs.setIfInBounds (off + i) u) off (i + 1) (by simp; omega)
    refine ⟨?_, by rw [h2]; simp⟩
    rw [h1]
    have e2 : (cs.setIfInBounds (off + i) u).toList = cs.toList.set (off + i) u := by simp
    rw [e2]
    have hlen : off + i < cs.toList.length := by simp; omega
    rw [show off + (i + 1) = off + i + 1 from rfl, List.take_set, List.drop_set_of_lt (by omega)]
    rw [List.take_add_one, List.set_append_right _ _ (by simp; omega)]
    simp only [List.length_take, List.length_cons]
    have e3 : off + i - min (off + i) cs.toList.length = 0 := by omega
    have e4 : off + i + 1 + us.length = off + i + (us.length + 1) := by omega
    rw [e3, e4, List.getElem?_eq_getElem hlen]
    simp

def Xig : List (Nat × AV) → AV → AV
  | [], v => v
  | (i, x) :: r, v => Xig r (v.put x [i])
def Xpq (place : Nat → Option (Nat × Nat)) : List (Nat × AV) → AV → Bool
  | [], _ => true
  | (i, x) :: r, v => (match place i with
    | some (o, s) => Nat.beq (v.at [i]) o && Nat.beq s x.size && Nat.beq (v.get [i]).size s && X70 (v.get [i])
    | Option.none => false) && Xpq place r (v.put x [i])
theorem Xvm {S : Nat → Prop} {place : Nat → Option (Nat × Nat)} : ∀ {ps : List (Nat × AV)} {vs : List (Nat × Value)} {v : AV} {cs : Array Value}, Xpq place ps v = true → vs.map (·.1) = ps.map (·.1) → Xlk S w (ps.map (·.2)) (vs.map (·.2)) → X6u S w v cs.toList →
    ∃ cs', Instr.fill place cs vs = some cs' ∧ X6u S w (Xig ps v) cs'.toList
  | [], [], v, cs, _, _, _, h => ⟨cs, rfl, h⟩
  | (i, x) :: ps, [], _, _, _, h, _, _ => by simp at h
  | [], (j, y) :: vs, _, _, _, h, _, _ => by simp at h
  | (i, x) :: ps, (j, y) :: vs, v, cs, hc, hi, hv, h => by
    simp only [List.map_cons, List.cons.injEq] at hi
    obtain ⟨rfl, hi⟩ := hi
    obtain ⟨y', rest, hy, h1, h2⟩ := hv
    simp only [List.map_cons, List.cons.injEq] at hy
    obtain ⟨rfl, rfl⟩ := hy
    unfold Xpq at hc
    rw [Bool.and_eq_true] at hc
    obtain ⟨hc1, hc2⟩ := hc
    split at hc1
    · rename_i of s hp
      simp only [Bool.and_eq_true] at hc1
      obtain ⟨⟨⟨k1, k2⟩, k3⟩, k4⟩ := hc1
      have k1 := Nat.eq_of_beq_eq_true k1
      have k2 := Nat.eq_of_beq_eq_true k2
      have k3 := Nat.eq_of_beq_eq_true k3
      have h1 : Xgb S w x y := h1
      have hy := Xdm h1
      have hlen : y.cells.toList.length = x.size := Xef hy
      obtain ⟨q1, q2⟩ := Xnd (p := [j]) hy h k4 (by omega)
      have hsz : y.cells.size = x.size := by simpa using hlen
      obtain ⟨f1, f2⟩ := Xuf y.cells.toList cs of 0 (by simp at q1 hlen ⊢; omega)
      have hz : y.cells.zipIdx.foldl (fun (cs : Array Value) (x : Value × Nat) => cs.setIfInBounds (of + x.2) x.1) cs = (y.cells.toList.zipIdx 0).foldl (fun (cs : Array Value) (x : Value × Nat) => cs.setIfInBounds (of + x.2) x.1) cs := by
        rw [← Array.foldl_toList]; simp
      obtain ⟨cs', g1, g2⟩ := Xvm (S := S) (cs := (y.cells.toList.zipIdx 0).foldl (fun (cs : Array Value) (x : Value × Nat) => cs.setIfInBounds (of + x.2) x.1) cs) hc2 hi h2 (by
        rw [f1, ← k1]
        simpa [hsz] using q2)
      refine ⟨cs', ?_, g2⟩
      unfold Instr.fill
      rw [hp]
      simp only
      rw [if_neg (by simp at q1; simp; omega)]
      rw [← g1, ← hz]
    · cases hc1
theorem Xtv {S : Nat → Prop} : ∀ {xs : List AV} {vs : List Value}, Xlk S w xs vs → vs.length = xs.length
  | [], vs, h => by unfold Xlk at h; subst h; rfl
  | x :: xs, vs, h => by obtain ⟨v, rest, rfl, _, h2⟩ := h; simp [Xtv h2]

def X3l (ts : List Nat) (i : Nat) : Nat := ts.getD i 0
def Xg6 (L : List (Nat × Ty)) (e : X7l) : List (Nat × AV) → List AV
  | [] => []
  | (T, v) :: r => X7f L e T v :: Xg6 L e r
theorem Xnk (h : R C β ω e a w) : ∀ {xs : List (Nat × AV)} {vs : List Value}, (∀ x ∈ Xg6 L e xs, X70 x = true) → vs.length = xs.length → (∀ (i : Nat) (x : Nat × AV) (v : Value), xs[i]? = some x → vs[i]? = some v → Xky (Sh C β ω e) w β ω e x.2 v) → Xlk (Sh C β ω e) w (Xg6 L e xs) vs
  | [], vs, _, hl, _ => by
    have : vs = [] := List.eq_nil_of_length_eq_zero hl
    subst this; rfl
  | (T, x) :: xs, vs, hd, hl, hv => by
    cases vs with
    | nil => simp at hl
    | cons v vs =>
      refine ⟨v, vs, rfl, Xrm h (hv 0 (T, x) v rfl rfl) (hd _ (by simp [Xg6])), Xnk h (fun y hy => hd y (by simp [Xg6, hy])) (by simpa using hl) (fun i y u hy hu => hv (i + 1) y u (by simpa using hy) (by simpa using hu))⟩

theorem Xls {α β' : Type} (f : α → Sem β') (g : α → β') : ∀ (l : List α), (∀ x ∈ l, (f x).run P w = .ok (g x) w) → (l.mapM f).run P w = .ok (l.map g) w
  | [], _ => rfl
  | x :: l, h => by
    rw [List.mapM_cons]
    simp only [Sem.run_bind, h x (by simp), Result.andThen_ok, Xls f g l (fun y hy => h y (by simp [hy])), Sem.run_pure, List.map_cons]
theorem Xq5 : ∀ {l : List (Nat × Nat × Nat)} {fs : List Field}, Xnv P fs l = true → fs.map (fun f => (f.offset, P.cellsOf f.type)) = l.map (fun x => (x.1, x.2.1)) ∧ ∀ f ∈ fs, ∀ w : World, (sizeOf f.type).run P w = .ok (P.cellsOf f.type) w
  | [], fs, h => by unfold Xnv at h; simp at h; subst h; simp
  | (o1, s1, t1) :: r, fs, h => by
    unfold Xnv at h
    cases fs with
    | nil => cases h
    | cons f fs =>
      simp only [Bool.and_eq_true, beq_iff_eq, Bool.not_eq_true', beq_eq_false_iff_ne] at h
      obtain ⟨⟨⟨⟨h1, h2⟩, h3⟩, h4⟩, h5⟩ := h
      split at h4
      · rename_i i' hi'
        have h4 := beq_iff_eq.1 h4
        obtain ⟨k1, k2⟩ := Xq5 h5
        have hc : P.cellsOf f.type = s1 := by unfold Program.cellsOf; rw [h2, hi']; simpa using h4
        refine ⟨by simp only [List.map_cons, k1, h1, hc], fun g hg w => ?_⟩
        rcases List.mem_cons.1 hg with rfl | hg
        · rw [hc, h2, Xgp hi', h4]
        · exact k2 g hg w
      · cases h4
def Xpr (flds : List (Nat × Nat × Nat)) (i : Nat) : Option (Nat × Nat) := (flds[i]?).map fun x => (x.1, x.2.1)
theorem X0n (hL : Xe4 P L) (h : R C β ω e a w) (hN : ∀ d, o.dst = some d → d < C.N) {T : Nat} {ty : Ty} {parts : Array (Nat × Operand)} (ho : o.op = .build T parts) (hT : Xdu L T = some ty) (hk : ty.kind = 1) (hz : ty.zero.isSt = true)
    {xs : List (Nat × AV)} (hxs : xs = parts.toList.map fun p => (X3l (ty.flds.map (·.2.2)) p.1, X73 e p.2)) {e1 : X7l} (he1 : e1 = Xa8 e (X6r e (xs.map (·.2)))) {ps : List (Nat × AV)} (hps : ps = (parts.toList.map (·.1)).zip (Xg6 L e1 xs))
    (hd : ∀ x ∈ Xg6 L e1 xs, X70 x = true) (hc : Xpq (Xpr ty.flds) ps ty.zero = true) (hst : (Xig ps ty.zero).isSt = true)
    (hK : ∀ a', R C β ω (Xa8 e1 (Xda o (Xig ps ty.zero))) a' w → K a' w) : o.wp P a w K Q := by
  have h1 : R C β ω e1 a w := by rw [he1]; exact Xm5 h _
  have hlenD : ∀ (ys : List (Nat × AV)), (Xg6 L e1 ys).length = ys.length := by
    intro ys; induction ys with
    | nil => rfl
    | cons y ys ih => obtain ⟨t, v⟩ := y; simp [Xg6, ih]
  have hvs := Xnk (L := L) h1 (xs := xs) (vs := parts.toList.map fun p => a.eval p.2) hd (by rw [hxs]; simp) (fun i x v hx hv => by
    rw [hxs] at hx
    simp only [List.getElem?_map] at hx hv
    cases hp : parts.toList[i]? with
    | none => rw [hp] at hx; simp at hx
    | some p =>
      rw [hp] at hx hv
      simp only [Option.map_some, Option.some.injEq] at hx hv
      subst hx hv
      have := Xat h1 p.2
      rw [he1, Xeg] at this
      rw [he1]; exact this)
  obtain ⟨fs, t1, t2, t3⟩ := Xub (Xau hL hT) hk
  obtain ⟨z, z1, z2⟩ := (Xx9 (Xau hL hT)).zero w
  have z3 := Xdm (z2 (Sh C β ω e1) w)
  have hlen : (Xg6 L e1 xs).length = parts.toList.length := by rw [hlenD, hxs]; simp
  have hps1 : ps.map (·.1) = parts.toList.map (·.1) := by rw [hps, List.map_fst_zip]; simp; simpa using Nat.le_of_eq hlen.symm
  have hps2 : ps.map (·.2) = Xg6 L e1 xs := by rw [hps, List.map_snd_zip]; simp; simpa using Nat.le_of_eq hlen
  obtain ⟨cs', f1, f2⟩ := Xvm (S := Sh C β ω e1) (w := w) (place := Xpr ty.flds) (ps := ps) (vs := parts.toList.map fun p => (p.1, a.eval p.2)) (cs := z.cells) hc (by rw [hps1]; simp) (by rw [hps2]; simpa [Function.comp_def] using hvs) z3
  obtain ⟨p1, p2⟩ := Xq5 t2
  have hm : (fs.mapM fun f => do pure (f.offset, ← sizeOf f.type) : Sem (Array (Nat × Nat))).run P w = .ok ((ty.flds.map fun x => (x.1, x.2.1)).toArray) w := by
    rw [Array.mapM_eq_mapM_toList]
    have := Xls (P := P) (w := w) (fun f : Field => (do pure (f.offset, ← sizeOf f.type) : Sem (Nat × Nat))) (fun f => (f.offset, P.cellsOf f.type)) fs.toList (fun f hf => by simp [p2 f hf])
    simp only [map_eq_pure_bind, Sem.run_bind, this, Result.andThen_ok, Sem.run_pure, p1]
  have : (execOp a.eval o).run P w = .ok (.value (.agg cs')) w := by
    unfold execOp; rw [ho]
    have e3 : (parts.map fun x => (x.1, a.eval x.2)).toList = parts.toList.map fun p => (p.1, a.eval p.2) := by simp
    have e4 : (fun i => ((ty.flds.map fun x => (x.1, x.2.1)).toArray)[i]?) = Xpr ty.flds := by
      funext i; unfold Xpr; simp
    simp only [Instr.build, Sem.run_bind, z1, Result.andThen_ok, Xag t1, hm, e3, e4, f1, Sem.run_pure]
  exact Xbv this (hK _ (Xd5 h1 hN ((Xbk (by cases hq : Xig ps ty.zero <;> rw [hq] at hst <;> simp [AV.isSt] at hst; rfl)).2 (Xwr hst f2))))

def X11 (S : Nat → Prop) (w : World) : AV → Value → Prop
  | .rptr x, v => ∃ a mem, v = .pointer (some a) ∧ a.spot = Option.none ∧ S a.block ∧ a.block < w.heap.size ∧ X6u S w x mem ∧ X0a w a mem
  | .fn f, v => v = .func (.func f) #[] #[]
  | x, v => Xgb S w x v
def Xiz (S : Nat → Prop) (w : World) : List AV → List Value → Prop
  | [], vs => vs = []
  | a :: as, vs => ∃ v rest, vs = v :: rest ∧ X11 S w a v ∧ Xiz S w as rest
def Xtn (S : Nat → Prop) (w : World) : AV → Value → Prop
  | .tup vs, v => ∃ arr : Array Value, v = .tuple arr ∧ Xlk S w vs arr.toList
  | x, v => Xgb S w x v
def X7b : AV → Bool
  | .tup _ => true
  | v => X70 v
def X4p (P : Program) (f : Nat) : Prop := ∀ (args : Array Value) (w : World), (callFunc f args).run P w = .ok (.enter f args) w
def CS (P : Program) (f : Nat) (args : List AV) (r : AV) : Prop :=
  X4p P f ∧ X7b r = true ∧ ∀ (S : Nat → Prop) (w : World) (vs : List Value), (∀ b, S b → b < w.heap.size) → Xiz S w args vs →
    Calls P f vs.toArray w fun en w' => ∃ v, en = .returned v ∧ Below w.heap.size w w' ∧ Xtn (fun b => S b ∨ w.heap.size ≤ b) w' r v

theorem Xzf {S : Nat → Prop} {x : AV} {v : Value} (h : Xgb S w x v) : X11 S w x v := by
  cases x <;> first | (simp [Xgb, X6u] at h; done) | exact h
theorem Xfv {S : Nat → Prop} : ∀ {xs : List AV} {vs : List Value}, Xlk S w xs vs → Xiz S w xs vs
  | [], _, h => h
  | _ :: _, _, ⟨v, rest, h1, h2, h3⟩ => ⟨v, rest, h1, Xzf h2, Xfv h3⟩
theorem X3o {S : Nat → Prop} {v : AV} {cs : List Value} (h : X6u S w v cs) : X6u (fun b => S b ∧ b < w.heap.size) w v cs := Xcx (fun _ h1 h2 => ⟨⟨h1, h2⟩, rfl⟩) (Nat.le_refl _) h
theorem X09 {S : Nat → Prop} {v : AV} {x : Value} (h : Xgb S w v x) : Xgb (fun b => S b ∧ b < w.heap.size) w v x := Xb2 (fun _ h1 h2 => ⟨⟨h1, h2⟩, rfl⟩) (Nat.le_refl _) h
theorem Xom {S : Nat → Prop} {x : AV} {v : Value} (hx : X70 x = true) : X11 S w x v ↔ Xgb S w x v := by
  cases x <;> simp [X70] at hx <;> exact Iff.rfl
theorem Xi6 {S : Nat → Prop} {x : AV} {v : Value} (hx : X70 x = true) : Xtn S w x v ↔ Xgb S w x v := by
  cases x <;> simp [X70] at hx <;> exact Iff.rfl
theorem X0m {S : Nat → Prop} {v : AV} {x : Value} (h : X11 S w v x) : X11 (fun b => S b ∧ b < w.heap.size) w v x := by
  by_cases hd : X70 v = true
  · rw [Xom hd] at *; exact X09 h
  · cases v <;> first | exact absurd rfl hd | (exfalso; simp [X11, Xgb, X6u] at h; done) | skip
    · obtain ⟨a, mem, h1, h2, h3, h4, h5, h6⟩ := h
      exact ⟨a, mem, h1, h2, ⟨h3, h4⟩, h4, X3o h5, h6⟩
    · exact h
theorem Xh1 {S : Nat → Prop} : ∀ {v : List AV} {x : List Value}, Xiz S w v x → Xiz (fun b => S b ∧ b < w.heap.size) w v x
  | [], _, h => h
  | _ :: _, _, ⟨v, rest, h1, h2, h3⟩ => ⟨v, rest, h1, X0m h2, Xh1 h3⟩
theorem Xye {S : Nat → Prop} {x : AV} {v : Value} (h : Xtn S w x v) : Xky S w β ω e x v := by
  by_cases hd : X70 x = true
  · rw [Xi6 hd] at h; exact (Xbk hd).2 h
  · cases x <;> first | exact absurd rfl hd | (exfalso; simp [Xtn, Xgb, X6u] at h; done) | exact h

theorem Xjl {f : Nat} {args : Array Value} (hx : (execOp a.eval o).run P w = .ok (.enter f args) w) {Rp : Value → World → Prop} (hc : Calls P f args w fun en w' => ∃ v, en = .returned v ∧ Rp v w')
    (hK : ∀ v w', Rp v w' → K (a.put o.dst v) w') : o.wp P a w K Q := by
  unfold Oper.wp; rw [hx, Oper.upon_enter]
  refine Calls.mono hc ?_
  rintro en w' ⟨v, rfl, hv⟩
  exact hK v w' hv

theorem Xug {S S' : Nat → Prop} {w' : World} (h : ∀ b, S b → b < w.heap.size → S' b ∧ w'.heap[b]? = w.heap[b]?) (hs : w.heap.size ≤ w'.heap.size) {x : AV} {v : Value} (k : Xtn S w x v) : Xtn S' w' x v := by
  by_cases hd : X70 x = true
  · rw [Xi6 hd] at *; exact Xb2 h hs k
  · cases x <;> first | exact absurd rfl hd | (exfalso; simp [Xtn, Xgb, X6u] at k; done) | skip
    obtain ⟨arr, h1, h2⟩ := k
    exact ⟨arr, h1, Xkt h hs h2⟩
theorem X15 (h : R C β ω e a w) (hN : ∀ d, o.dst = some d → d < C.N) {w' : World} (hw : Below w.heap.size w w') {r : AV} {v : Value} (hr : Xtn (fun b => (Sh C β ω e b ∧ b < w.heap.size) ∨ w.heap.size ≤ b) w' r v) :
    R C β ω (Xa8 e (Xda o r)) (a.put o.dst v) w' := by
  have h1 := Xy9 h hw
  refine Xd5 h1 hN (Xye (Xug (fun b hb _ => ⟨?_, rfl⟩) (Nat.le_refl _) hr))
  rcases hb with hb | hb
  · exact hb.1
  · exact X4g h hb

theorem Xfy (c : Call) (type : Nat) (x : Operand) (hc : c.callee = .value x) : resolve a.eval c type = Deferred.ofValue (a.eval x) (c.args.map a.eval) := by
  unfold resolve; rw [hc]

theorem X28 (h : R C β ω e a w) (hN : ∀ d, o.dst = some d → d < C.N) {c : Call} {x : Operand} {f : Nat} (ho : o.op = .call c) (hc : c.callee = .value x) (hx : X73 e x = .fn f)
    {xs : List (Nat × AV)} (hxs : xs = (c.argTypes.toList.zip (c.args.toList.map (X73 e)))) (hlen : c.argTypes.size = c.args.size) {e1 : X7l} (he1 : e1 = Xa8 e (X6r e (xs.map (·.2)))) (hd : ∀ y ∈ Xg6 L e1 xs, X70 y = true)
    {r : AV} (hC : CS P f (Xg6 L e1 xs) r) (hK : ∀ a' w', R C β ω (Xa8 e1 (Xda o r)) a' w' → K a' w') : o.wp P a w K Q := by
  have h1 : R C β ω e1 a w := by rw [he1]; exact Xm5 h _
  have hf := Xat h x
  rw [hx] at hf
  have hf : a.eval x = .func (.func f) #[] #[] := hf
  have hl : (c.args.toList.map a.eval).length = xs.length := by rw [hxs]; simp [hlen]
  have hvs := Xnk (L := L) h1 (xs := xs) (vs := c.args.toList.map a.eval) hd hl (fun i y v hy hv => by
    rw [hxs] at hy
    simp only [List.getElem?_map] at hv
    have := List.getElem?_zip_eq_some.1 hy
    obtain ⟨_, q⟩ := this
    simp only [List.getElem?_map] at q
    cases hp : c.args.toList[i]? with
    | none => rw [hp] at q; simp at q
    | some p =>
      rw [hp] at q hv
      simp only [Option.map_some, Option.some.injEq] at q hv
      rw [← q, ← hv]
      have := Xat h1 p
      rw [he1, Xeg] at this
      rw [he1]; exact this)
  obtain ⟨hfn, _, hC⟩ := hC
  have hx : (execOp a.eval o).run P w = .ok (.enter f (c.args.toList.map a.eval).toArray) w := by
    unfold execOp; rw [ho]
    have hfn' : ∀ (args : Array Value) (w : World), (callFunc f args).run P w = .ok (.enter f args) w := hfn
    simp only [Xfy c o.type x hc, hf, Deferred.ofValue, Sem.run_bind, Sem.run_pure, Result.andThen_ok, invoke, hfn']
    have : c.args.map a.eval = (c.args.toList.map a.eval).toArray := by rw [← Array.toList_map]
    simp [this]
  have hcall := hC (fun b => Sh C β ω e1 b ∧ b < w.heap.size) w (c.args.toList.map a.eval) (fun b hb => hb.2) (Xh1 (Xfv hvs))
  exact Xjl hx hcall (fun v w' ⟨hb, hr⟩ => hK _ _ (X15 h1 hN hb hr))
end
open Go Go.RowKit

section
variable {P : Program} {L : List (Nat × Ty)} {C : Cx} {β : Nat → Nat} {ω : Nat → Value} {e : X7l} {a : Act} {w : World} {o : Oper} {K : Act → World → Prop} {Q : Exit → Act → World → Prop}

theorem Xne {rows : List AV} {sz : Nat} (h : ∀ r ∈ rows, r.size = sz) {i : Nat} (hi : i ≤ rows.length) : Xmb (rows.take i) = i * sz := by
  rw [Xfm (sz := sz) (fun r hr => h r (List.mem_of_mem_take hr)), List.length_take, Nat.min_eq_left hi]
theorem X4s {S : Nat → Prop} {rows : List AV} {mem : List Value} {sz i : Nat} {r : AV} (h : Xeb S w rows mem) (hz : ∀ r ∈ rows, r.size = sz) (hi : rows[i]? = some r) (hd : X70 r = true) :
    ∃ c1 c2 c3, mem = c1 ++ c2 ++ c3 ∧ c1.length = i * sz ∧ X6u S w r c2 := by
  have hl : i < rows.length := (List.getElem?_eq_some_iff.1 hi).1
  have hg : rows.getD i .none = r := by simp [List.getD, hi]
  have h1 : X6u S w (.st rows) mem := by unfold X6u; exact h
  obtain ⟨c1, c2, c3, e1, e2, e3⟩ := Xi5 [i] h1 (by simp only [AV.get]; rw [hg]; intro hn; rw [hn] at hd; simp [X70] at hd)
  refine ⟨c1, c2, c3, e1, ?_, ?_⟩
  · simp only [AV.at, Nat.add_zero] at e2
    rw [e2, Xne hz (by omega)]
  · simp only [AV.get] at e3; rw [hg] at e3; exact e3

theorem Xd2 {ty : Ty} (h : ∃ i', P.info? ty.elem = some i' ∧ i'.size = ty.esz ∧ i'.bytes = ty.eby ∧ ty.esz ≠ 0 ∧ ty.eby ≠ 0) : (sizeOf ty.elem).run P w = .ok ty.esz w := by
  obtain ⟨i', h1, h2, _⟩ := h
  rw [Xgp h1, h2]

theorem Xpo (hL : Xe4 P L) (h : R C β ω e a w) (hN : ∀ d, o.dst = some d → d < C.N) {T : Nat} {ty : Ty} {x ix : Operand} {k : IntKind} {n : Int} {i sz : Nat} {rows : List AV} {r : AV} (ho : o.op = .indexAddr T x ix) (hT : Xdu L T = some ty) (hk : ty.kind = 2)
    (hx : Xuk e (X73 e x) = .sl sz rows) (hi : X73 e ix = .int k n) (hn : n = (i : Int)) (hsz : sz = ty.esz) (hr : rows[i]? = some r) (hd : X70 r = true)
    (hK : ∀ a', R C β ω (Xa8 e (Xda o (.rptr r))) a' w → K a' w) : o.wp P a w K Q := by
  have h1 := Xm6 h (Xat h x) (by rw [hx]; rfl)
  rw [hx] at h1
  have h1 : X6u (Sh C β ω e) w (.sl sz rows) [a.eval x] := h1
  unfold X6u at h1
  obtain ⟨A, c, h2, h3, hz, h4⟩ := h1
  simp only [List.cons.injEq, and_true] at h2
  have hl : i < rows.length := (List.getElem?_eq_some_iff.1 hr).1
  rcases h4 with h4 | ⟨ad, mem, rfl, h5, h6, h7, h8, h9⟩
  · subst h4; simp at hl
  obtain ⟨c1, c2, c3, rfl, h10, h11⟩ := X4s h8 hz hr hd
  obtain ⟨t1, t2⟩ := Xep (Xau hL hT) hk
  have hix := Xc8 h hi
  have : (execOp a.eval o).run P w = .ok (.value (.pointer (some (ad.add (i * sz))))) w := by
    unfold execOp; rw [ho]
    simp only [Instr.indexAt, h2, hix, asIntOf, Sem.run_bind, Sem.run_pure, Result.andThen_ok, Xag t1]
    rw [if_pos (by constructor <;> omega)]
    simp only [Sem.run_bind, Xd2 t2, Result.andThen_ok, Sem.run_pure, hn, Int.toNat_natCast, hsz]
  refine Xbv this (hK _ (Xd5 h hN ?_))
  exact ⟨ad.add (i * sz), c2, rfl, by rw [Xcs h5], by rw [Xek]; exact h6, by rw [Xek]; exact h7, h11, Xmh h5 h9 h10⟩

theorem Xry (h : R C β ω e a w) {x : Operand} {g k sz : Nat} {rows : List AV} (hx : X73 e x = .own g k) (hk : k = (e (.o g)).k) (hl : (e (.o g)).live = true) (hv : (e (.o g)).v = .sl sz rows) :
    a.eval x = ω g ∧ Xhc (Sh C β ω e) C.B w sz rows (ω g) := by
  have h1 := Xat h x
  rw [hx] at h1
  refine ⟨h1.2 hk, ?_⟩
  have := h.ow g
  unfold X7s at this
  rw [hv] at this
  simp only at this
  rw [if_pos hl] at this
  exact this

theorem Xs8 (hL : Xe4 P L) (h : R C β ω e a w) (hN : ∀ d, o.dst = some d → d < C.N) {T : Nat} {ty : Ty} {x ix : Operand} {kk : IntKind} {n : Int} {i sz g k : Nat} {rows : List AV} (ho : o.op = .indexAddr T x ix) (hT : Xdu L T = some ty) (hkk : ty.kind = 2)
    (hx : X73 e x = .own g k) (hk : k = (e (.o g)).k) (hl : (e (.o g)).live = true) (hv : (e (.o g)).v = .sl sz rows) (hi : X73 e ix = .int kk n) (hn : n = (i : Int)) (hsz : sz = ty.esz) (hb : i < rows.length)
    (hK : ∀ a', R C β ω (Xa8 e (Xda o (.optr g k sz i 0 []))) a' w → K a' w) : o.wp P a w K Q := by
  obtain ⟨h1, A, c, h2, h3, hz, h4⟩ := Xry h hx hk hl hv
  rcases h4 with h4 | ⟨blk, cs, T', rfl, h5, h6, h7, h8, h9⟩
  · omega
  obtain ⟨t1, t2⟩ := Xep (Xau hL hT) hkk
  have hix := Xc8 h hi
  have : (execOp a.eval o).run P w = .ok (.value (.pointer (some ⟨blk, i * sz, Option.none⟩))) w := by
    unfold execOp; rw [ho]
    simp only [Instr.indexAt, h1, h2, hix, asIntOf, Sem.run_bind, Sem.run_pure, Result.andThen_ok, Xag t1]
    rw [if_pos (by constructor <;> omega)]
    simp only [Sem.run_bind, Xd2 t2, Result.andThen_ok, Sem.run_pure, hn, Int.toNat_natCast, ← hsz, Xcs, Nat.zero_add]
  refine Xbv this (hK _ (Xd5 h hN ?_))
  refine ⟨Nat.le_of_eq hk, fun _ => ⟨blk, by rw [h2]; rfl, by simp⟩⟩

theorem Xs7 (hL : Xe4 P L) (h : R C β ω e a w) (hN : ∀ d, o.dst = some d → d < C.N) {T : Nat} {ty : Ty} {x ix : Operand} {kk : IntKind} {n : Int} {i d k off : Nat} {p : List Nat} (ho : o.op = .indexAddr T x ix) (hT : Xdu L T = some ty) (hkk : ty.kind = 3)
    (hx : X73 e x = .ptr d k off p) (hk : k = (e (.b d)).k) (hi : X73 e ix = .int kk n) (hn : n = (i : Int)) (hb : i < ty.alen)
    (hK : ∀ a', R C β ω (Xa8 e (Xda o (.ptr d k (off + i * ty.esz) (p ++ [i])))) a' w → K a' w) : o.wp P a w K Q := by
  have h1 := Xat h x
  rw [hx] at h1
  have h2 := h1.2 hk
  obtain ⟨t1, t2⟩ := X2d (Xau hL hT) hkk
  have hix := Xc8 h hi
  have : (execOp a.eval o).run P w = .ok (.value (.pointer (some ⟨β d, off + i * ty.esz, Option.none⟩))) w := by
    unfold execOp; rw [ho]
    simp only [Instr.indexAt, h2, hix, asIntOf, Sem.run_bind, Sem.run_pure, Result.andThen_ok, Xag t1, Instr.sureAddr]
    rw [if_pos (by constructor <;> omega)]
    simp only [Sem.run_bind, Xd2 t2, Result.andThen_ok, Sem.run_pure, hn, Int.toNat_natCast, Xcs]
  exact Xbv this (hK _ (Xd5 h hN ⟨h1.1, fun _ => rfl⟩))
theorem Xqs (hL : Xe4 P L) (h : R C β ω e a w) (hN : ∀ d, o.dst = some d → d < C.N) {T : Nat} {ty : Ty} {x ix : Operand} {kk : IntKind} {n : Int} {i : Nat} {v : AV} (ho : o.op = .indexAddr T x ix) (hT : Xdu L T = some ty) (hkk : ty.kind = 3)
    (hx : X73 e x = .rptr v) (hi : X73 e ix = .int kk n) (hn : n = (i : Int)) (hb : i < ty.alen) (hg : X70 (v.get [i]) = true) (hat : v.at [i] = i * ty.esz)
    (hK : ∀ a', R C β ω (Xa8 e (Xda o (.rptr (v.get [i])))) a' w → K a' w) : o.wp P a w K Q := by
  have h1 := Xat h x
  rw [hx] at h1
  obtain ⟨ad, mem, h2, h3, h4, h5, h6, h7⟩ := h1
  obtain ⟨c1, c2, c3, rfl, h8, h9⟩ := Xi5 [i] h6 (Xfl (S := fun _ => True) hg)
  obtain ⟨t1, t2⟩ := X2d (Xau hL hT) hkk
  have hix := Xc8 h hi
  have : (execOp a.eval o).run P w = .ok (.value (.pointer (some (ad.add (i * ty.esz))))) w := by
    unfold execOp; rw [ho]
    simp only [Instr.indexAt, h2, hix, asIntOf, Sem.run_bind, Sem.run_pure, Result.andThen_ok, Xag t1, Instr.sureAddr]
    rw [if_pos (by constructor <;> omega)]
    simp only [Sem.run_bind, Xd2 t2, Result.andThen_ok, Sem.run_pure, hn, Int.toNat_natCast]
  refine Xbv this (hK _ (Xd5 h hN ?_))
  exact ⟨ad.add (i * ty.esz), c2, rfl, by rw [Xcs h3], by rw [Xek]; exact h4, by rw [Xek]; exact h5, h9, Xmh h3 h7 (h8.trans hat)⟩

theorem Xy1 {S : Nat → Prop} {sz i : Nat} {rows : List AV} {mem : List Value} {r : AV} {p : List Nat} (hR : Xeb S w rows mem) (hz : ∀ r ∈ rows, r.size = sz) (hi : rows[i]? = some r) : X6u S w (.st rows) mem ∧ (AV.st rows).get (i :: p) = r.get p ∧ (AV.st rows).at (i :: p) = i * sz + r.at p := by
  have hl : i < rows.length := (List.getElem?_eq_some_iff.1 hi).1
  have hg : rows.getD i .none = r := by simp [List.getD, hi]
  refine ⟨by unfold X6u; exact hR, by simp only [AV.get, hg], ?_⟩
  simp only [AV.at, hg]; rw [Xne hz (by omega)]
theorem Xu0 (hL : Xe4 P L) (h : R C β ω e a w) (hN : ∀ d, o.dst = some d → d < C.N) {T : Nat} {ty : Ty} {x : Operand} {g k sz i off : Nat} {p : List Nat} {rows : List AV} {r : AV} (ho : o.op = .load T x) (hT : Xdu L T = some ty)
    (hx : X73 e x = .optr g k sz i off p) (hk : k = (e (.o g)).k) (hl : (e (.o g)).live = true) (hv : (e (.o g)).v = .sl sz rows) (hr : rows[i]? = some r) (hat : r.at p = off) (hd : X70 (r.get p) = true) (hsz : (r.get p).size = ty.size) (hag : (r.get p).isSt = ty.agg)
    (hK : ∀ a', R C β ω (Xa8 e (Xda o (r.get p))) a' w → K a' w) : o.wp P a w K Q := by
  have h1 := Xat h x
  rw [hx] at h1
  obtain ⟨blk, h2, h3⟩ := h1.2 hk
  have how := h.ow g
  unfold X7s at how
  rw [hv] at how
  simp only at how
  rw [if_pos hl] at how
  obtain ⟨A, c, h4, h5, hz, h6⟩ := how
  rcases h6 with ⟨rfl, h6⟩ | ⟨blk', cs, T', rfl, h7, h8, h9, h10, h11⟩
  · rw [h4] at h2; simp [J7] at h2
  have hb : blk' = blk := by rw [h4] at h2; simpa [J7] using h2
  subst hb
  obtain ⟨q1, q2, q3⟩ := Xy1 (p := p) h11 hz hr
  obtain ⟨c1, c2, c3, q4, q5, q6⟩ := Xi5 (i :: p) q1 (by rw [q2]; exact Xfl (S := fun _ => True) hd)
  rw [q2] at q6
  have q7 : cs.toList = c1 ++ c2 ++ (c3 ++ cs.toList.drop (rows.length * sz)) := by
    rw [← List.append_assoc, ← q4, List.take_append_drop]
  have q8 := Xfs h9 q7 (q5.trans (by rw [q3, hat]))
  obtain ⟨v, q9, q10⟩ := Xi7 (P := P) (Xx9 (Xau hL hT)) q6 q8 hsz hag
  have : (execOp a.eval o).run P w = .ok (.value v) w := by
    unfold execOp; rw [ho]
    simp only [h3, Sem.run_bind, Xnf, q9, Result.andThen_ok, Sem.run_pure]
  exact Xbv this (hK _ (Xd5 h hN ((Xbk hd).2 q10)))

theorem Xv2 : ∀ (p : List Nat) {v x : AV}, X70 (v.get p) = true → x.size = (v.get p).size → (v.put x p).size = v.size
  | [], v, x, _, h => h
  | i :: p, v, x, hd, h => by
    cases v with
    | st fs =>
      simp only [AV.get, AV.put] at *
      have hi : i < fs.length := by
        refine Nat.lt_of_not_le fun hc => ?_
        have : fs.getD i .none = .none := by simp [List.getD, List.getElem?_eq_none hc]
        rw [this] at hd; cases p <;> simp [AV.get, X70] at hd
      have ih := Xv2 p hd h
      rw [List.set_eq_take_append_cons_drop, if_pos hi]
      conv => rhs; rw [Xso hi]
      simp only [AV.size, Xt9, Xmb, ih]
    | _ => simp [AV.get, X70] at hd

theorem X1g {α : Type} (f : Nat → α) (d : Nat) : Xuq f d (f d) = f := by
  funext i; unfold Xuq; split
  · rename_i h; rw [h]
  · rfl

theorem Xs6 (hL : Xe4 P L) (h : R C β ω e a w) (hN : ∀ d, o.dst = some d → d < C.N) {T : Nat} {ty : Ty} {x y : Operand} {g k sz i off : Nat} {p : List Nat} {rows : List AV} {r : AV} (ho : o.op = .store T x y) (hT : Xdu L T = some ty)
    (hx : X73 e x = .optr g k sz i off p) {e1 : X7l} (he1 : e1 = Xa8 e (X6r e [X73 e y])) (hd : X70 (X7f L e1 T (X73 e y)) = true) (hk : k = (e1 (.o g)).k) (hl : (e1 (.o g)).live = true) (hv : (e1 (.o g)).v = .sl sz rows) (hr : rows[i]? = some r)
    (hat : r.at p = off) (hg : X70 (r.get p) = true) (hsz : (X7f L e1 T (X73 e y)).size = (r.get p).size) (hst : (X7f L e1 T (X73 e y)).size = ty.size)
    (hK : ∀ a' w', R C β ω (Xa8 e1 ((.o g, ⟨k, true, .sl sz (rows.set i (r.put (X7f L e1 T (X73 e y)) p))⟩) :: Xda o .none)) a' w' → K a' w') : o.wp P a w K Q := by
  have h1 : R C β ω e1 a w := by rw [he1]; exact Xm5 h _
  have hvv := Xat h1 y
  have e2 : X73 e1 y = X73 e y := by rw [he1]; exact Xeg _ _
  rw [e2] at hvv
  have hy := Xdm (Xrm h1 hvv hd)
  have hp := Xat h1 x
  have e3 : X73 e1 x = X73 e x := by rw [he1]; exact Xeg _ _
  rw [e3, hx] at hp
  obtain ⟨blk, h2, h3⟩ := hp.2 hk
  have how := h1.ow g
  unfold X7s at how
  rw [hv] at how
  simp only at how
  rw [if_pos hl] at how
  obtain ⟨A, c, h4, h5, hz, h6⟩ := how
  rcases h6 with ⟨rfl, h6⟩ | ⟨blk', cs, T', rfl, h7, h8, h9, h10, h11⟩
  · rw [h4] at h2; simp [J7] at h2
  have hb : blk' = blk := by rw [h4] at h2; simpa [J7] using h2
  subst hb
  have hi : i < rows.length := (List.getElem?_eq_some_iff.1 hr).1
  have hgr : rows.getD i .none = r := by simp [List.getD, hr]
  obtain ⟨q1, q2, q3⟩ := Xy1 (p := p) h11 hz hr
  obtain ⟨s1, s2⟩ := Xnd (p := i :: p) hy q1 (by rw [q2]; exact hg) (by rw [q2]; exact hsz)
  rw [q3, hat] at s1 s2
  have q4 : (a.eval y).cells.size = (X7f L e1 T (X73 e y)).size := by have := Xef hy; simpa using this
  have hmem : (cs.toList.take (rows.length * sz)).length ≤ cs.size := by simp; omega
  obtain ⟨w', cs', r1, r2, r3, r4, r5⟩ := Xn2 (P := P) (Xx9 (Xau hL hT)) (off := i * sz + off) h9 (Xr2 hy) (by rw [q4, hst]) (by rw [q4]; omega)
  have : (execOp a.eval o).run P w = .ok .skip w' := by
    unfold execOp; rw [ho]
    simp only [h3, Sem.run_bind, Xqc, r1, Result.andThen_ok, Sem.run_pure]
  have hput : (AV.st rows).put (X7f L e1 T (X73 e y)) (i :: p) = .st (rows.set i (r.put (X7f L e1 T (X73 e y)) p)) := by simp only [AV.put, hgr]
  rw [hput] at s2
  have hszp : (r.put (X7f L e1 T (X73 e y)) p).size = sz := by
    rw [Xv2 p hg hsz]; exact hz r (List.mem_of_getElem? hr)
  have hlen : (rows.set i (r.put (X7f L e1 T (X73 e y)) p)).length = rows.length := List.length_set
  have hRow : Xeb (Sh C β ω e1) w (rows.set i (r.put (X7f L e1 T (X73 e y)) p)) (cs'.toList.take (rows.length * sz)) := by
    unfold X6u at s2
    have e4 : cs'.toList.take (rows.length * sz) = (cs.toList.take (rows.length * sz)).take (i * sz + off) ++ (a.eval y).cells.toList ++ (cs.toList.take (rows.length * sz)).drop (i * sz + off + (X7f L e1 T (X73 e y)).size) := by
      rw [r5, q4]
      have l1 : i * sz + off + (X7f L e1 T (X73 e y)).size ≤ rows.length * sz := by
        have : (cs.toList.take (rows.length * sz)).length ≤ rows.length * sz := by simp; omega
        omega
      have l2 : rows.length * sz ≤ cs.toList.length := by
        have : rows.length * sz ≤ c * sz := Nat.mul_le_mul_right _ h5
        simp; omega
      have l3 : (a.eval y).cells.toList.length = (X7f L e1 T (X73 e y)).size := Xef hy
      rw [List.take_take, Nat.min_eq_left (by omega), List.take_append, List.take_of_length_le (by simp only [List.length_append, List.length_take]; omega)]
      congr 1
      rw [List.drop_take]
      congr 1
      simp only [List.length_append, List.length_take]
      omega
    rw [e4]; exact s2
  refine X18 this (hK _ _ ?_)
  have := Xm2 h1 (g := g) (k := k) (X73 := ω g) (w' := w') (.inl ⟨hk, rfl⟩) (Nat.le_of_eq r2.size.symm) (r2.belx h7)
    (fun b hb hh => r2.rest b (fun hbe => hh ⟨by rw [hv]; simp, hl, by rw [hbe]; exact h2⟩)) (fun b hb => .inr ⟨by rw [hv]; simp, hl, hb⟩) (sz := sz) (c := c) (rows := rows.set i (r.put (X7f L e1 T (X73 e y)) p)) (A := some ⟨blk', 0, Option.none⟩) (by rw [h4, hlen]) (by rw [hlen]; exact h5)
    (fun q hq => by rcases List.mem_or_eq_of_mem_set hq with hq | rfl
                    · exact hz q hq
                    · exact hszp)
    (.inr ⟨blk', cs', T', rfl, h7, by rw [r2.size]; exact h8, r3, by rw [r4]; exact h10, by rw [hlen]; exact hRow⟩)
  rw [X1g] at this
  show R C β ω (Xa8 (X7z e1 (.o g) _) (Xda o .none)) _ _
  exact Xd5 this hN trivial
end
open Go Go.RowKit

section
variable {P : Program} {L : List (Nat × Ty)} {C : Cx} {β : Nat → Nat} {ω : Nat → Value} {e : X7l} {a : Act} {w : World} {o : Oper} {K : Act → World → Prop} {Q : Exit → Act → World → Prop}

theorem Xzb {S : Nat → Prop} {sz l h m : Nat} {rows : List AV} {A : Option Addr} {c : Nat} (hr : X6u S w (.sl sz rows) [.slice A rows.length c]) (h1 : l ≤ h) (h2 : h ≤ rows.length) (hm : h ≤ m) :
    X6u S w (.sl sz ((rows.take h).drop l)) [.slice (if m = l then A else A.map (·.add (l * sz))) (h - l) (m - l)] := by
  unfold X6u at *
  obtain ⟨A', c', e1, e2, e3, e4⟩ := hr
  simp only [List.cons.injEq, Value.slice.injEq, and_true, true_and] at e1
  obtain ⟨rfl, rfl⟩ := e1
  have hlen : ((rows.take h).drop l).length = h - l := by simp; omega
  refine ⟨_, _, by rw [hlen], by omega, fun r hr => e3 r (List.mem_of_mem_take (List.mem_of_mem_drop hr)), ?_⟩
  by_cases hlh : l = h
  · left; exact List.eq_nil_of_length_eq_zero (by omega)
  right
  rcases e4 with e4 | ⟨ad, mem, rfl, k1, k2, k3, k4, k5⟩
  · subst e4; simp at h2; omega
  have hsplit : rows = rows.take l ++ ((rows.take h).drop l ++ rows.drop h) := by
    have q1 : (rows.take h).take l = rows.take l := by rw [List.take_take, Nat.min_eq_left h1]
    rw [← List.append_assoc, ← q1, List.take_append_drop, List.take_append_drop]
  rw [hsplit] at k4
  obtain ⟨c1, c2, rfl, r1, r2⟩ := Xkm k4
  obtain ⟨c3, c4, rfl, r3, r4⟩ := Xkm r2
  rw [if_neg (by omega)]
  refine ⟨ad.add (l * sz), c3, rfl, by rw [Xcs k1], by rw [Xek]; exact k2, by rw [Xek]; exact k3, r3, ?_⟩
  rw [← List.append_assoc] at k5
  refine Xmh k1 k5 ?_
  rw [Xfz r1, Xne e3 (by omega)]

theorem Xc3 {v : Value} {k : IntKind} {n y : Nat} {code : BoundsCode} (hv : v = .int k (n : Int)) (hn : n ≤ y) : (Instr.sliceBound v y code).run P w = .ok n w := by
  subst hv
  simp only [Instr.sliceBound, asIntOf, Sem.run_bind, Sem.run_pure, Result.andThen_ok]
  rw [if_pos (by constructor <;> omega)]
  simp

def Xxc (e : X7l) (x : Option Operand) (n dflt : Nat) : Prop := match x with
  | some x => ∃ k m, X73 e x = .int k m ∧ m = (n : Int)
  | Option.none => n = dflt
theorem X1q (hL : Xe4 P L) (h : R C β ω e a w) (hN : ∀ d, o.dst = some d → d < C.N) {T : Nat} {ty : Ty} {x : Operand} {lo hi : Option Operand} {mx : Option Operand} {sz l u m : Nat} {rows : List AV} (ho : o.op = .slice T x lo hi mx) (hT : Xdu L T = some ty) (hk : ty.kind = 2)
    {e1 : X7l} (he1 : e1 = Xa8 e (X6r e [X73 e x])) (hx : X7f L e1 T (X73 e x) = .sl sz rows) (hsz : sz = ty.esz) (hlo : Xxc e lo l 0) (hhi : Xxc e hi u rows.length) (X6s : match mx with | some x => hi.isSome = true ∧ Xxc e (some x) m 0 ∧ m ≤ rows.length ∧ u ≤ m | Option.none => True) (h1 : l ≤ u) (h2 : u ≤ rows.length)
    (hK : ∀ a', R C β ω (Xa8 e1 (Xda o (.sl sz ((rows.take u).drop l)))) a' w → K a' w) : o.wp P a w K Q := by
  have hR : R C β ω e1 a w := by rw [he1]; exact Xm5 h _
  have hv := Xat hR x
  rw [he1, Xeg, ← he1] at hv
  have hv := Xrm (L := L) (T := T) hR hv (by rw [hx]; rfl)
  rw [hx] at hv
  have hv : X6u (Sh C β ω e1) w (.sl sz rows) [a.eval x] := hv
  have hv' := hv
  unfold X6u at hv'
  obtain ⟨A, c, q1, q2, q3, q4⟩ := hv'
  simp only [List.cons.injEq, and_true] at q1
  rw [q1] at hv
  obtain ⟨t1, t2⟩ := Xep (Xau hL hT) hk
  have vlo : ∀ x, lo = some x → ∃ k, a.eval x = .int k (l : Int) := fun x hx => by
    subst hx; obtain ⟨k, m, r1, r2⟩ := hlo; exact ⟨k, by rw [Xc8 h r1, r2]⟩
  have vhi : ∀ x, hi = some x → ∃ k, a.eval x = .int k (u : Int) := fun x hx => by
    subst hx; obtain ⟨k, m, r1, r2⟩ := hhi; exact ⟨k, by rw [Xc8 h r1, r2]⟩
  have hb : ∃ mm, u ≤ mm ∧ (Instr.sliceBounds true rows.length c (lo.map a.eval) (hi.map a.eval) (mx.map a.eval)).run P w = .ok (l, u, mm) w := by
    cases mx with
    | none =>
      refine ⟨c, by omega, ?_⟩
      cases hi with
      | none =>
        have hu : u = rows.length := hhi
        cases lo with
        | none => have hl0 : l = 0 := hlo; subst hu hl0; rfl
        | some x =>
          obtain ⟨k, r⟩ := vlo x rfl
          subst hu
          simp [Instr.sliceBounds, r, Xc3 (rfl : Value.int k (l : Int) = _) h1]
      | some y =>
        obtain ⟨k2, r2⟩ := vhi y rfl
        cases lo with
        | none =>
          have hl0 : l = 0 := hlo; subst hl0
          simp [Instr.sliceBounds, r2, Xc3 (rfl : Value.int k2 (u : Int) = _) (show u ≤ c by omega)]
        | some x =>
          obtain ⟨k, r⟩ := vlo x rfl
          simp [Instr.sliceBounds, r, r2, Xc3 (rfl : Value.int k2 (u : Int) = _) (show u ≤ c by omega), Xc3 (rfl : Value.int k (l : Int) = _) h1]
    | some z =>
      obtain ⟨hs, ⟨k3, m3, r3, r3'⟩, hm1, hm2⟩ := X6s
      have r3 := Xc8 h r3
      rw [r3'] at r3
      refine ⟨m, hm2, ?_⟩
      cases hi with
      | none => cases hs
      | some y =>
        obtain ⟨k2, r2⟩ := vhi y rfl
        cases lo with
        | none =>
          have hl0 : l = 0 := hlo; subst hl0
          simp [Instr.sliceBounds, r2, r3, Xc3 (rfl : Value.int k3 (m : Int) = _) (show m ≤ c by omega), Xc3 (rfl : Value.int k2 (u : Int) = _) hm2]
        | some x =>
          obtain ⟨k, r⟩ := vlo x rfl
          simp [Instr.sliceBounds, r, r2, r3, Xc3 (rfl : Value.int k3 (m : Int) = _) (show m ≤ c by omega), Xc3 (rfl : Value.int k2 (u : Int) = _) hm2, Xc3 (rfl : Value.int k (l : Int) = _) h1]
  obtain ⟨mm, hmm, hb⟩ := hb
  have : (execOp a.eval o).run P w = .ok (.value (.slice (if mm = l then A else A.map (·.add (l * sz))) (u - l) (mm - l))) w := by
    unfold execOp; rw [ho]
    simp only [Instr.sliceAt, Instr.slice, q1, Sem.run_bind, Xag t1, Result.andThen_ok, hb, Xd2 t2, Sem.run_pure, hsz]
  exact Xbv this (hK _ (Xd5 hR hN ((Xbk rfl).2 (Xzb hv h1 h2 hmm))))

theorem Xnm {S : Nat → Prop} {z : AV} {zs : List Value} (hz : X6u S w z zs) : ∀ n : Nat, Xeb S w (List.replicate n z) (List.replicate n zs).flatten
  | 0 => by simp [Xeb]
  | n + 1 => by
    rw [List.replicate_succ, List.replicate_succ, List.flatten_cons]; unfold Xeb
    exact ⟨_, _, rfl, hz, Xnm hz n⟩
theorem Xq2 {zs : Array Value} (h0 : zs.size ≠ 0) (n : Nat) : ((Array.range (n * zs.size)).map (fun i => zs[i % zs.size]!)).toList = (List.replicate n zs.toList).flatten := by
  apply List.ext_getElem?
  intro i
  have hl : (List.replicate n zs.toList).flatten.length = n * zs.size := by simp
  by_cases hi : i < n * zs.size
  · have e1 : ((Array.range (n * zs.size)).map (fun i => zs[i % zs.size]!)).toList[i]? = some zs[i % zs.size]! := by
      simp [hi]
    rw [e1]
    have key : ∀ (n i : Nat), i < n * zs.size → (List.replicate n zs.toList).flatten[i]? = zs.toList[i % zs.size]? := by
      intro n
      induction n with
      | zero => intro i hi; simp at hi
      | succ n ih =>
        intro i hi
        rw [List.replicate_succ, List.flatten_cons]
        by_cases hlt : i < zs.size
        · rw [List.getElem?_append_left (by simpa using hlt), Nat.mod_eq_of_lt hlt]
        · rw [List.getElem?_append_right (by simp; omega)]
          simp only [Array.length_toList]
          rw [Nat.add_mul, Nat.one_mul] at hi
          rw [ih (i - zs.size) (by omega), Nat.mod_eq_sub_mod (show i ≥ zs.size by omega)]
    rw [key n i hi]
    have hm : i % zs.size < zs.size := Nat.mod_lt _ (by omega)
    simp [hm]
  · rw [List.getElem?_eq_none (by simp; omega), List.getElem?_eq_none (by rw [hl]; omega)]

theorem Xsy {n : Nat} : (askRoom n).run P w = .ok () w := by
  unfold askRoom; split
  · rfl
  · rfl

theorem Xta (hL : Xe4 P L) (h : R C β ω e a w) {d T : Nat} {ty ety : Ty} (hN : d < C.N) {l c : Operand} {kl kc : IntKind} {nl nc : Int} {n m : Nat} (ho : o.op = .makeSlice T l c) (hd : o.dst = some d) (hT : Xdu L T = some ty) (hk : ty.kind = 2) (hE : Xdu L ty.elem = some ety)
    (hl : X73 e l = .int kl nl) (hc : X73 e c = .int kc nc) (hnl : nl = (n : Int)) (hnc : nc = (m : Int)) (hnm : n ≤ m) (hroom : ty.eby * m ≤ 281474976710656) (hesz : ety.zero.size = ty.esz) (hm63 : m < 9223372036854775808)
    (hK : ∀ ω' a' w', R C β ω' (Xa8 e [(.o d, ⟨(e (.o d)).k + 1, true, .sl ty.esz (List.replicate n ety.zero)⟩), (.t d, ⟨0, false, .own d ((e (.o d)).k + 1)⟩)]) a' w' → K a' w') : o.wp P a w K Q := by
  have vl := Xc8 h hl
  have vc := Xc8 h hc
  obtain ⟨t1, i', t2, t3, t4, t5, t6⟩ := Xep (Xau hL hT) hk
  obtain ⟨z, z1, z2⟩ := (Xx9 (Xau hL hE)).zero w
  have hz := Xdm (z2 (Sh C β ω e) w)
  have hzs : z.cells.size = ty.esz := by have := Xef hz; rw [hesz] at this; simpa using this
  have w1 : IntKind.i64.wrap (n : Int) = n := IntWalk.i64_in _ (by omega)
  have w2 : IntKind.i64.wrap (m : Int) = m := IntWalk.i64_in _ (by omega)
  have hroom' : ¬ ((ty.eby : Int) * (m : Int) > 2 ^ 48) := by
    rw [show (2 : Int) ^ 48 = 281474976710656 from rfl, ← Int.natCast_mul]
    generalize ty.eby * m = q at hroom ⊢
    omega
  let cs : Array Value := if m * ty.esz = 0 then (Array.range (m * ty.esz)).map (fun i => (#[] : Array Value)[i % (#[] : Array Value).size]!) else (Array.range (m * ty.esz)).map (fun i => z.cells[i % z.cells.size]!)
  have hcs : cs.toList = (List.replicate m z.cells.toList).flatten := by
    have hzne : z.cells.size ≠ 0 := by rw [hzs]; exact t5
    by_cases h0 : m * ty.esz = 0
    · have hm0 : m = 0 := by
        rcases Nat.mul_eq_zero.1 h0 with h | h
        · exact h
        · exact absurd h t5
      simp only [cs, if_pos h0]; subst hm0; simp
    · simp only [cs, if_neg h0]; rw [← hzs]; exact Xq2 hzne m
  have : (execOp a.eval o).run P w = .ok (.value (.slice (some ⟨w.heap.size, 0, Option.none⟩) n m)) (Am.World.add w (.cells cs ty.elem)) := by
    unfold execOp; rw [ho]
    simp only [Instr.makeSlice, vl, vc, asInt, asIntOf, Sem.run_bind, Xag t1, Result.andThen_ok, Sem.run_pure, Xot t2, hnl, hnc, w1, w2, t4]
    have b1 : (decide ((m : Int) < 0) || decide ((ty.eby : Int) * (m : Int) > 2 ^ 48)) = false := by simp; omega
    have b2 : decide ((n : Int) < 0) = false := by simp
    have b3 : decide ((n : Int) > (m : Int)) = false := by simp; omega
    rw [b1, b2, b3]
    simp only [Bool.or_self, Bool.false_eq_true, if_false, Xsy, Result.andThen_ok, Int.toNat_natCast, Xgp t2, t3, Sem.run_bind, Sem.run_pure]
    by_cases h0 : m * ty.esz = 0
    · rw [if_pos h0]
      simp only [Sem.run_bind, Sem.run_pure, Result.andThen_ok, Xid, cs, if_pos h0]
    · rw [if_neg h0]
      simp only [Sem.run_bind, z1, Sem.run_pure, Result.andThen_ok, Xid, cs, if_neg h0]
  refine Xbv this ?_
  rw [hd]
  have hlen : (List.replicate n ety.zero).length = n := by simp
  have hb := Xh6 w (.cells cs ty.elem)
  have hg := Xm2 h (g := d) (k := (e (.o d)).k + 1) (X73 := .slice (some ⟨w.heap.size, 0, Option.none⟩) n m) (w' := Am.World.add w (.cells cs ty.elem)) (.inr (Nat.lt_succ_self _)) hb.size
    ⟨hb.os, hb.tape, hb.output, hb.size, fun k hk _ => hb.block k (Nat.lt_of_lt_of_le hk h.hb)⟩ (fun b hb' _ => hb.block b hb') (fun b hb' => by simp only [J7, Option.some.injEq] at hb'; exact .inl (by omega))
    (sz := ty.esz) (c := m) (rows := List.replicate n ety.zero) (A := some ⟨w.heap.size, 0, Option.none⟩) (by rw [hlen]) (by rw [hlen]; exact hnm) (fun r hr => by rw [(List.mem_replicate.1 hr).2]; exact hesz)
    (.inr ⟨w.heap.size, cs, ty.elem, rfl, .inl h.hb, by rw [Xos]; omega, Xwq _ _, by
        have : cs.toList.length = m * ty.esz := by rw [hcs]; simp [hzs]
        simpa using this, by
        have e1 : cs.toList.take ((List.replicate n ety.zero).length * ty.esz) = (List.replicate n z.cells.toList).flatten := by
          rw [hcs, hlen]
          have : List.replicate m z.cells.toList = List.replicate n z.cells.toList ++ List.replicate (m - n) z.cells.toList := by rw [List.replicate_append_replicate]; congr 1; omega
          rw [this, List.flatten_append, List.take_left' (by simp [hzs])]
        rw [e1]; exact Xnm hz n⟩)
  have hput := Xvp (x := ⟨0, false, .own d ((e (.o d)).k + 1)⟩) (v := .slice (some ⟨w.heap.size, 0, Option.none⟩) n m) hg hN ⟨fun _ => by
    show _ ≤ _ ∧ _
    rw [Xbj, Xb1]
    exact ⟨Nat.le_refl _, fun _ => rfl⟩, fun k => nomatch k⟩
  exact hK _ _ _ hput

theorem Xwo (hL : Xe4 P L) (h : R C β ω e a w) (hN : ∀ d, o.dst = some d → d < C.N) {c : Call} {T : Nat} {ty : Ty} {x : Operand} {n : Nat} (ho : o.op = .call c) (hc : c.callee = .builtin .len) (hargs : c.args = #[x]) (htys : c.argTypes[0]? = some T) (hT : Xdu L T = some ty) (hk : ty.kind = 2)
    (hx : (∃ sz rows, Xuk e (X73 e x) = .sl sz rows ∧ n = rows.length) ∨ (Xuk e (X73 e x) = .nil ∧ n = 0) ∨ (∃ g k sz rows, X73 e x = .own g k ∧ k = (e (.o g)).k ∧ (e (.o g)).live = true ∧ (e (.o g)).v = .sl sz rows ∧ n = rows.length))
    (hK : ∀ a', R C β ω (Xa8 e (Xda o (.int .i64 n))) a' w → K a' w) : o.wp P a w K Q := by
  have hv : ∃ A cc, a.eval x = .slice A n cc := by
    rcases hx with ⟨sz, rows, h1, rfl⟩ | ⟨h1, rfl⟩ | ⟨g, k, sz, rows, h1, h2, h3, h4, rfl⟩
    · have q := Xm6 h (Xat h x) (by rw [h1]; rfl)
      rw [h1] at q
      have q : X6u (Sh C β ω e) w (.sl sz rows) [a.eval x] := q
      unfold X6u at q
      obtain ⟨A, c, q1, _⟩ := q
      simp only [List.cons.injEq, and_true] at q1
      exact ⟨A, c, q1⟩
    · have q := Xm6 h (Xat h x) (by rw [h1]; rfl)
      rw [h1] at q
      have q : X6u (Sh C β ω e) w .nil [a.eval x] := q
      unfold X6u at q
      simp only [List.cons.injEq, and_true] at q
      exact ⟨Option.none, 0, q⟩
    · obtain ⟨q1, A, c, q2, _⟩ := Xry h h1 h2 h3 h4
      exact ⟨A, c, by rw [q1, q2]⟩
  obtain ⟨A, cc, hv⟩ := hv
  obtain ⟨t1, _⟩ := Xep (Xau hL hT) hk
  have : (execOp a.eval o).run P w = .ok (.value (.int .i64 n)) w := by
    unfold execOp; rw [ho]
    obtain ⟨cs, hr⟩ : ∃ cs, resolve a.eval c o.type = pure { target := .builtin .len c.argTypes o.type cs, args := c.args.map a.eval } := ⟨_, by unfold resolve; simp only [hc]; rfl⟩
    simp only [hr, Sem.run_bind, Sem.run_pure, Result.andThen_ok, invoke, builtin, hargs, Builtin.len_, htys]
    simp [hv, Xag t1, goInt]
  exact Xbv this (hK _ (Xd5 h hN (Xkn _ _)))
end
open Go Go.RowKit

section
variable {P : Program} {L : List (Nat × Ty)} {C : Cx} {β : Nat → Nat} {ω : Nat → Value} {e : X7l} {a : Act} {w : World} {o : Oper} {K : Act → World → Prop} {Q : Exit → Act → World → Prop}

theorem X08 (ys : List (Nat × AV)) : (Xg6 L e ys).length = ys.length := by
  induction ys with
  | nil => rfl
  | cons y ys ih => obtain ⟨t, v⟩ := y; simp [Xg6, ih]

theorem Xr9 (hL : Xe4 P L) (h : R C β ω e a w) {d T n : Nat} {ty ety : Ty} (hN : d < C.N) {parts : Array (Nat × Operand)} (ho : o.op = .buildSlice T n parts) (hd : o.dst = some d) (hT : Xdu L T = some ty) (hk : ty.kind = 2) (hE : Xdu L ty.elem = some ety) (hesz : ety.zero.size = ty.esz)
    {xs : List (Nat × AV)} (hxs : xs = parts.toList.map fun p => (ty.elem, X73 e p.2)) {e1 : X7l} (he1 : e1 = Xa8 e (X6r e (xs.map (·.2)))) {ps : List (Nat × AV)} (hps : ps = (parts.toList.map (·.1)).zip (Xg6 L e1 xs))
    (hD : ∀ x ∈ Xg6 L e1 xs, X70 x = true) (hc : Xpq (fun i => some (i * ty.esz, ty.esz)) ps (.st (List.replicate n ety.zero)) = true) {rows : List AV} (hrows : Xig ps (.st (List.replicate n ety.zero)) = .st rows) (hlen : rows.length = n) (hz : ∀ r ∈ rows, r.size = ty.esz) (hroom : n * ty.esz ≤ 16777216)
    (hK : ∀ ω' a' w', R C β ω' (Xa8 e1 [(.o d, ⟨(e1 (.o d)).k + 1, true, .sl ty.esz rows⟩), (.t d, ⟨0, false, .own d ((e1 (.o d)).k + 1)⟩)]) a' w' → K a' w') : o.wp P a w K Q := by
  have h1 : R C β ω e1 a w := by rw [he1]; exact Xm5 h _
  have hvs := Xnk (L := L) h1 (xs := xs) (vs := parts.toList.map fun p => a.eval p.2) hD (by rw [hxs]; simp) (fun i x v hx hv => by
    rw [hxs] at hx
    simp only [List.getElem?_map] at hx hv
    cases hp : parts.toList[i]? with
    | none => rw [hp] at hx; simp at hx
    | some p =>
      rw [hp] at hx hv
      simp only [Option.map_some, Option.some.injEq] at hx hv
      subst hx hv
      have := Xat h1 p.2
      rw [he1, Xeg] at this
      rw [he1]; exact this)
  obtain ⟨t1, i', t2, t3, t4, t5, t6⟩ := Xep (Xau hL hT) hk
  obtain ⟨z, z1, z2⟩ := (Xx9 (Xau hL hE)).zero w
  have hzr := Xdm (z2 (Sh C β ω e1) w)
  have hzs : z.cells.size = ty.esz := by have := Xef hzr; rw [hesz] at this; simpa using this
  have hzne : z.cells.size ≠ 0 := by rw [hzs]; exact t5
  have hl : (Xg6 L e1 xs).length = parts.toList.length := by rw [X08, hxs]; simp
  have hps1 : ps.map (·.1) = parts.toList.map (·.1) := by rw [hps, List.map_fst_zip]; simp; simpa using Nat.le_of_eq hl.symm
  have hps2 : ps.map (·.2) = Xg6 L e1 xs := by rw [hps, List.map_snd_zip]; simp; simpa using Nat.le_of_eq hl
  let zc : Array Value := if n * ty.esz = 0 then #[] else z.cells
  have hcs : ((Array.range (n * ty.esz)).map (fun i => zc[i % zc.size]!)).toList = (List.replicate n z.cells.toList).flatten := by
    by_cases h0 : n * ty.esz = 0
    · have hn0 : n = 0 := by
        rcases Nat.mul_eq_zero.1 h0 with h | h
        · exact h
        · exact absurd h t5
      subst hn0; simp
    · simp only [zc, if_neg h0]; rw [← hzs]; exact Xq2 hzne n
  obtain ⟨cs', f1, f2⟩ := Xvm (S := Sh C β ω e1) (w := w) (place := fun i => some (i * ty.esz, ty.esz)) (ps := ps) (vs := parts.toList.map fun p => (p.1, a.eval p.2)) (cs := (Array.range (n * ty.esz)).map (fun i => zc[i % zc.size]!)) hc (by rw [hps1]; simp) (by rw [hps2]; simpa [Function.comp_def] using hvs)
    (by rw [hcs]; unfold X6u; exact Xnm hzr n)
  rw [hrows] at f2
  have f2 : Xeb (Sh C β ω e1) w rows cs'.toList := by unfold X6u at f2; exact f2
  have hsz : cs'.size = n * ty.esz := by
    have := Xfz f2
    rw [Xfm hz, hlen] at this
    simpa using this
  have : (execOp a.eval o).run P w = .ok (.value (.slice (some ⟨w.heap.size, 0, Option.none⟩) n n)) (Am.World.add w (.cells cs' ty.elem)) := by
    unfold execOp; rw [ho]
    have e3 : (parts.map fun x => (x.1, a.eval x.2)).toList = parts.toList.map fun p => (p.1, a.eval p.2) := by simp
    simp only [Instr.buildSlice, Sem.run_bind, Xag t1, Result.andThen_ok, Xgp t2, t3]
    rw [if_neg (by rw [show (2 : Nat) ^ 24 = 16777216 from rfl]; omega)]
    by_cases h0 : n * ty.esz = 0
    · rw [if_pos h0]
      have hzc : zc = #[] := by simp only [zc, if_pos h0]
      rw [hzc] at f1
      simp only [Sem.run_bind, Sem.run_pure, Result.andThen_ok, e3, f1, Xid]
    · rw [if_neg h0]
      have hzc : zc = z.cells := by simp only [zc, if_neg h0]
      rw [hzc] at f1
      simp only [Sem.run_bind, z1, Sem.run_pure, Result.andThen_ok, e3, f1, Xid]
  refine Xbv this ?_
  rw [hd]
  have hb := Xh6 w (.cells cs' ty.elem)
  have hg := Xm2 h1 (g := d) (k := (e1 (.o d)).k + 1) (X73 := .slice (some ⟨w.heap.size, 0, Option.none⟩) n n) (w' := Am.World.add w (.cells cs' ty.elem)) (.inr (Nat.lt_succ_self _)) hb.size
    ⟨hb.os, hb.tape, hb.output, hb.size, fun k hk _ => hb.block k (Nat.lt_of_lt_of_le hk h.hb)⟩ (fun b hb' _ => hb.block b hb') (fun b hb' => by simp only [J7, Option.some.injEq] at hb'; exact .inl (by omega))
    (sz := ty.esz) (c := n) (rows := rows) (A := some ⟨w.heap.size, 0, Option.none⟩) (by rw [hlen]) (by omega) hz
    (.inr ⟨w.heap.size, cs', ty.elem, rfl, .inl h.hb, by rw [Xos]; omega, Xwq _ _, hsz, by rw [List.take_of_length_le (by rw [hlen]; simp; omega)]; exact f2⟩)
  have hput := Xvp (x := ⟨0, false, .own d ((e1 (.o d)).k + 1)⟩) (v := .slice (some ⟨w.heap.size, 0, Option.none⟩) n n) hg hN ⟨fun _ => by
    show _ ≤ _ ∧ _
    rw [Xbj, Xb1]
    exact ⟨Nat.le_refl _, fun _ => rfl⟩, fun k => nomatch k⟩
  exact hK _ _ _ hput

theorem X2g (n : Nat) : ∀ (r c : Nat), c ≤ n + 768 → Builtin.growBy n r c ≤ 2 * n + 1536
  | 0, c, h => by unfold Builtin.growBy; omega
  | r + 1, c, h => by
    unfold Builtin.growBy; split
    · omega
    · exact Nat.le_trans (by
        have : ∀ (r c : Nat), c ≤ n + (n + 768) / 4 → Builtin.growBy n r c ≤ 2 * n + 1536 := by
          intro r
          induction r with
          | zero => intro c hc; unfold Builtin.growBy; omega
          | succ r ih =>
            intro c hc
            unfold Builtin.growBy; split
            · omega
            · exact ih _ (by omega)
        exact this r _ (by omega)) (Nat.le_refl _)
theorem X3r {need cap : Nat} (h : cap < need) : Builtin.nextslicecap need cap ≤ 2 * need + 1536 := by
  unfold Builtin.nextslicecap
  split
  · omega
  · split
    · omega
    · exact X2g _ _ _ (by omega)
theorem Xui {S : Nat → Prop} {sz : Nat} {rows : List AV} {v : Value} (h : X6u S w (.sl sz rows) [v]) : ∃ A c, v = .slice A rows.length c ∧ ∃ arr : Array Value, (Builtin.firstCells sz rows.length v).run P w = .ok arr w ∧ Xeb S w rows arr.toList := by
  unfold X6u at h
  obtain ⟨A, c, h1, h2, h3, h4⟩ := h
  simp only [List.cons.injEq, and_true] at h1
  subst h1
  refine ⟨A, c, rfl, ?_⟩
  rcases h4 with h4 | ⟨ad, mem, rfl, k1, k2, k3, k4, k5⟩
  · subst h4
    refine ⟨#[], ?_, by unfold Xeb; rfl⟩
    cases A <;> simp [Builtin.firstCells, loadCells, loadCellsFrom]
  · obtain ⟨arr, q1, q2⟩ := Xi4 (P := P) k5 (n := rows.length * sz) (by rw [Xfz k4, Xfm h3])
    exact ⟨arr, by simpa [Builtin.firstCells] using q1, by rw [q2]; exact k4⟩

theorem Xtk (hL : Xe4 P L) (h : R C β ω e a w) {d g T T2 : Nat} {ty ety : Ty} (hN : d < C.N) {c : Call} {s x : Operand} (ho : o.op = .call c) (hd : o.dst = some d) (hcal : c.callee = .builtin .append) (hargs : c.args = #[s, x]) (htys : c.argTypes = #[T, T2])
    (hT : Xdu L T = some ty) (hk : ty.kind = 2) {ty2 : Ty} (hT2 : Xdu L T2 = some ty2) (hk2 : ty2.kind = 2) (hE : Xdu L ty.elem = some ety) (hesz : ety.zero.size = ty.esz)
    {e1 : X7l} (he1 : e1 = Xa8 e (X6r e [X73 e x])) {rows ys : List AV} {sz : Nat} (hsz : sz = ty.esz)
    (hs : (∃ k, X73 e s = .own g k ∧ k = (e1 (.o g)).k ∧ (e1 (.o g)).live = true ∧ (e1 (.o g)).v = .sl sz rows) ∨ (X73 e s = .nil ∧ rows = [] ∧ g = d))
    (hx : X7f L e1 T2 (X73 e x) = .sl sz ys) (hroom : (rows.length + ys.length) * ty.eby ≤ 35184372088832) (hby : ty.eby ≤ 8589934592)
    (hK : ∀ ω' a' w', R C β ω' (Xa8 e1 [(.o g, ⟨(e1 (.o g)).k + 1, true, .sl sz (rows ++ ys)⟩), (.t d, ⟨0, false, .own g ((e1 (.o g)).k + 1)⟩)]) a' w' → K a' w') : o.wp P a w K Q := by
  have h1 : R C β ω e1 a w := by rw [he1]; exact Xm5 h _
  have hvx := Xat h1 x
  rw [he1, Xeg, ← he1] at hvx
  have hvx := Xrm (L := L) (T := T2) h1 hvx (by rw [hx]; rfl)
  rw [hx] at hvx
  have hvx : X6u (Sh C β ω e1) w (.sl sz ys) [a.eval x] := hvx
  obtain ⟨Ax, cx, ex, arr, hf1, hf2⟩ := Xui (P := P) hvx
  have hyz : ∀ r ∈ ys, r.size = sz := by unfold X6u at hvx; exact hvx.choose_spec.choose_spec.2.2.1
  obtain ⟨t1, i', t2, t3, t4, t5, t6⟩ := Xep (Xau hL hT) hk
  obtain ⟨u1, _⟩ := Xep (Xau hL hT2) hk2
  obtain ⟨z, z1, z2⟩ := (Xx9 (Xau hL hE)).zero w
  have hzr := Xdm (z2 (Sh C β ω e1) w)
  have hzs : z.cells.size = ty.esz := by have := Xef hzr; rw [hesz] at this; simpa using this
  have hzne : z.cells.size ≠ 0 := by rw [hzs]; exact t5
  have harr : arr.size = ys.length * sz := by
    have := Xfz hf2; rw [Xfm hyz] at this; simpa using this
  -- the row that grows
  have hown : ∃ (A : Option Addr) (cap : Nat), a.eval s = .slice A rows.length cap ∧ rows.length ≤ cap ∧ (∀ r ∈ rows, r.size = sz) ∧
      ((A = Option.none ∧ cap = 0) ∨ ∃ blk cs T', A = some ⟨blk, 0, Option.none⟩ ∧ C.B blk ∧ blk < w.heap.size ∧ w.heap[blk]? = some (.cells cs T' (0, 0)) ∧ cs.size = cap * sz ∧ Xeb (Sh C β ω e1) w rows (cs.toList.take (rows.length * sz)) ∧ X7g ω e1 g blk) := by
    rcases hs with ⟨k, s1, s2, s3, s4⟩ | ⟨s1, s2, s3⟩
    · have s1' : X73 e1 s = .own g k := by rw [he1, Xeg]; exact s1
      obtain ⟨q1, A, cap, q2, q3, q4, q5⟩ := Xry h1 s1' s2 s3 s4
      refine ⟨A, cap, by rw [q1, q2], q3, q4, q5.imp id ?_⟩
      rintro ⟨blk, cs, T', rfl, r1, r2, r3, r4, r5⟩
      exact ⟨blk, cs, T', rfl, r1, r2, r3, r4, r5, by rw [s4]; simp, s3, by rw [q2]; rfl⟩
    · have q := Xat h s
      rw [s1] at q
      have q : [a.eval s] = [Value.slice Option.none 0 0] := by
        have := (Xbk (x := .nil) rfl).1 q
        simpa [Xgb, X6u] using this
      simp only [List.cons.injEq, and_true] at q
      subst s2
      exact ⟨Option.none, 0, by rw [q]; rfl, Nat.le_refl _, fun r hr => (by cases hr), .inl ⟨rfl, rfl⟩⟩
  obtain ⟨A, cap, hsv, hcap, hrz, hA⟩ := hown
  have hallz : ∀ r ∈ rows ++ ys, r.size = sz := fun r hr => (List.mem_append.1 hr).elim (hrz r) (hyz r)
  obtain ⟨cs0, hres⟩ : ∃ cs, resolve a.eval c o.type = pure { target := .builtin .append c.argTypes o.type cs, args := c.args.map a.eval } := ⟨_, by unfold resolve; simp only [hcal]; rfl⟩
  have hstart : (execOp a.eval o).run P w = ((Builtin.append_ #[T, T2] o.type #[a.eval s, a.eval x]).run P w).andThen fun v w' => .ok (.value v) w' := by
    unfold execOp; rw [ho]
    simp only [hres, Sem.run_bind, Sem.run_pure, Result.andThen_ok, invoke, builtin, hargs, htys]
    simp
  -- finishing
  have fin : ∀ (val' : Value) (w' : World) (A' : Option Addr) (cap' : Nat), (Builtin.append_ #[T, T2] o.type #[a.eval s, a.eval x]).run P w = .ok val' w' → w.heap.size ≤ w'.heap.size → BelX C.X C.base w w' →
      (∀ b, b < w.heap.size → ¬ X7g ω e1 g b → w'.heap[b]? = w.heap[b]?) → (∀ b, J7 val' = some b → w.heap.size ≤ b ∨ X7g ω e1 g b) → val' = .slice A' (rows ++ ys).length cap' → (rows ++ ys).length ≤ cap' →
      ((A' = Option.none ∧ cap' = 0) ∨ ∃ blk cs T', A' = some ⟨blk, 0, Option.none⟩ ∧ C.B blk ∧ blk < w'.heap.size ∧ w'.heap[blk]? = some (.cells cs T' (0, 0)) ∧ cs.size = cap' * sz ∧ Xeb (Sh C β ω e1) w (rows ++ ys) (cs.toList.take ((rows ++ ys).length * sz))) → o.wp P a w K Q := by
    intro val' w' A' cap' hrun k1 k2 k3 k4 k5 k6 k7
    have hg := Xm2 h1 (g := g) (k := (e1 (.o g)).k + 1) (X73 := val') (w' := w') (.inr (Nat.lt_succ_self _)) k1 k2 k3 k4 (sz := sz) (c := cap') (rows := rows ++ ys) (A := A') k5 k6 hallz k7
    have hput := Xvp (x := ⟨0, false, .own g ((e1 (.o g)).k + 1)⟩) (v := val') hg hN ⟨fun _ => by
      show _ ≤ _ ∧ _
      rw [Xbj, Xb1]
      exact ⟨Nat.le_refl _, fun _ => rfl⟩, fun k => nomatch k⟩
    rw [hrun, Result.andThen_ok] at hstart
    refine Xbv hstart ?_
    rw [hd]
    exact hK _ _ _ hput
  have hlen : (rows ++ ys).length = rows.length + ys.length := List.length_append
  have hn63 : rows.length + ys.length ≤ 35184372088832 := by
    refine Nat.le_trans ?_ hroom
    exact Nat.le_mul_of_pos_right _ (by omega)
  have pre : ∀ (f : Sem Value), True := fun _ => trivial
  by_cases hfit : rows.length + ys.length ≤ cap
  · -- in place
    rcases hA with ⟨rfl, hc0⟩ | ⟨blk, cs, T', rfl, r1, r2, r3, r4, r5, r6⟩
    · have e1' : rows = [] := List.eq_nil_of_length_eq_zero (by omega)
      have e2' : ys = [] := List.eq_nil_of_length_eq_zero (by omega)
      subst e1' e2'
      have harr0 : arr.toList = [] := by unfold Xeb at hf2; exact hf2
      refine fin (.slice Option.none 0 cap) w Option.none cap ?_ (Nat.le_refl _) (BelX.of (Below.refl _ _)) (fun _ _ _ => rfl) (fun b hb => by simp [J7] at hb) rfl (by simp) (.inl ⟨rfl, hc0⟩)
      rw [hsv]
      rw [← hsz] at t3
      simp only [Builtin.append_, ex, Sem.run_bind]
      simp [Xag t1, Xag u1, Xgp t2, t3, Builtin.lenOf, hsz ▸ hf1, hc0]
      rw [ex] at hf1
      simp only [List.length_nil] at hf1
      rw [hf1]; simp
    · have hcsl : cs.toList.length = cap * sz := by simpa using r4
      have hle : (rows.length + ys.length) * sz ≤ cap * sz := Nat.mul_le_mul_right _ hfit
      rw [Nat.add_mul] at hle
      obtain ⟨w', cs', s1, s2, s3, s4, s5⟩ := Xht (P := P) (b := blk) (T := T') arr.toList w cs (rows.length * sz) 0 r3 (by simp [harr]; rw [r4]; omega) (Xrv hf2)
      refine fin (.slice (some ⟨blk, 0, Option.none⟩) (rows.length + ys.length) cap) w' (some ⟨blk, 0, Option.none⟩) cap ?_ (Nat.le_of_eq s2.size.symm) (s2.belx r1) (fun b hb hh => s2.rest b (fun hbe => hh (hbe ▸ r6))) (fun b hb => .inr (by simp only [J7, Option.some.injEq] at hb; exact hb ▸ r6)) (by rw [hlen]) (by rw [hlen]; exact hfit)
        (.inr ⟨blk, cs', T', rfl, r1, by rw [s2.size]; exact r2, s3, by rw [s4]; exact r4, ?_⟩)
      · rw [hsv]
        rw [← hsz] at t3
        rw [ex] at hf1
        simp only [Builtin.append_, ex, Sem.run_bind]
        simp [Xag t1, Xag u1, Xgp t2, t3, Builtin.lenOf, hfit, hf1]
        rw [Xcs rfl]
        have : (⟨blk, 0 + rows.length * sz, Option.none⟩ : Addr) = ⟨blk, rows.length * sz, Option.none⟩ := by simp
        rw [this, s1]; simp
      · rw [hlen, s5, Nat.add_mul]
        simp only [Nat.add_zero, Array.length_toList]
        rw [List.take_append, List.take_of_length_le (by simp; omega)]
        have e5 : rows.length * sz + ys.length * sz - (cs.toList.take (rows.length * sz) ++ arr.toList).length = 0 := by simp; omega
        rw [e5, List.take_zero, List.append_nil]
        exact Xlf r5 hf2
  · -- a new block
    have hold : ∃ old : Array Value, (Builtin.firstCells sz rows.length (a.eval s)).run P w.drew = .ok old w.drew ∧ Xeb (Sh C β ω e1) w rows old.toList := by
      rcases hA with ⟨rfl, hc0⟩ | ⟨blk, cs, T', rfl, r1, r2, r3, r4, r5, r6⟩
      · have e1' : rows = [] := List.eq_nil_of_length_eq_zero (by omega)
        subst e1'
        exact ⟨#[], by rw [hsv]; simp [Builtin.firstCells], by unfold Xeb; rfl⟩
      · have hl := Xfs (w := w.drew) (off := 0) r3 (c1 := []) (c2 := cs.toList.take (rows.length * sz)) (c3 := cs.toList.drop (rows.length * sz)) (by simp) rfl
        obtain ⟨old, q1, q2⟩ := Xi4 (P := P) hl (n := rows.length * sz) (by
          have : rows.length * sz ≤ cap * sz := Nat.mul_le_mul_right _ hcap
          simp; omega)
        exact ⟨old, by rw [hsv]; simpa [Builtin.firstCells] using q1, by rw [q2]; exact r5⟩
    obtain ⟨old, ho1, ho2⟩ := hold
    have hnew : ∃ new : Array Value, (Builtin.firstCells sz ys.length (a.eval x)).run P w.drew = .ok new w.drew ∧ Xeb (Sh C β ω e1) w ys new.toList := by
      have hvx' : X6u (Sh C β ω e1) w.drew (.sl sz ys) [a.eval x] := Xcx (w := w) (w' := w.drew) (fun b hb _ => ⟨hb, rfl⟩) (Nat.le_refl _) hvx
      obtain ⟨_, _, _, new, q1, q2⟩ := Xui (P := P) hvx'
      exact ⟨new, q1, Xf7 (w := w.drew) (w' := w) (fun b hb _ => ⟨hb, rfl⟩) (Nat.le_refl _) q2⟩
    obtain ⟨new, hn1, hn2⟩ := hnew
    obtain ⟨z', z1', z2'⟩ := (Xx9 (Xau hL hE)).zero w.drew
    have hzr' := Xdm (z2' (Sh C β ω e1) w)
    have hzs' : z'.cells.size = ty.esz := by have := Xef hzr'; rw [hesz] at this; simpa using this
    have holdl : old.size = rows.length * sz := by have := Xfz ho2; rw [Xfm hrz] at this; simpa using this
    have hnewl : new.size = ys.length * sz := by have := Xfz hn2; rw [Xfm hyz] at this; simpa using this
    have hnext : ¬ (Builtin.nextslicecap (rows.length + ys.length) cap * i'.bytes > 281474976710656) := by
      have := X3r (need := rows.length + ys.length) (cap := cap) (by omega)
      have h2 := Nat.mul_le_mul_right i'.bytes this
      rw [t4] at h2 ⊢
      have h3 : (2 * (rows.length + ys.length) + 1536) * ty.eby = 2 * ((rows.length + ys.length) * ty.eby) + 1536 * ty.eby := by rw [Nat.add_mul, Nat.mul_assoc]
      generalize (rows.length + ys.length) * ty.eby = q at *
      omega
    let q := Question.appendCap (rows.length + ys.length) cap ty.elem
    let nc := q.cut (w.tape w.drawn q)
    have hnc : rows.length + ys.length ≤ nc := Nat.le_add_right _ _
    let rest := Builtin.zeroCells z'.cells (nc - (rows.length + ys.length))
    have hrest : rest.size = (nc - (rows.length + ys.length)) * ty.esz := by simp [rest, Builtin.zeroCells, hzs']
    refine fin (.slice (some ⟨w.heap.size, 0, Option.none⟩) (rows.length + ys.length) nc) (Am.World.add w.drew (.cells (old ++ new ++ rest) ty.elem)) (some ⟨w.heap.size, 0, Option.none⟩) nc ?_ ?_ ?_ ?_ (fun b hb => .inl (by simp only [J7, Option.some.injEq] at hb; omega)) (by rw [hlen]) (by rw [hlen]; exact hnc)
      (.inr ⟨w.heap.size, old ++ new ++ rest, ty.elem, rfl, .inl h.hb, by show w.heap.size < (Am.World.add w.drew _).heap.size; rw [Xos]; exact Nat.lt_succ_self _, Xwq w.drew _, ?_, ?_⟩)
    · rw [hsv]
      rw [← hsz] at t3
      rw [ex] at hn1
      rw [hsv] at ho1
      simp only [Builtin.append_, ex, Sem.run_bind]
      simp [Xag t1, Xag u1, Xgp t2, Xot t2, t3, Builtin.lenOf, hfit, t4, t6]
      rw [if_neg (by rw [← t4]; exact hnext)]
      simp only [Sem.run_bind, choose, Sem.run, Question.forced, Bool.false_eq_true, if_false, Result.andThen_ok, Xsy, Sem.run_pure]
      have e9 : ({ w with drawn := w.drawn + 1 } : World) = w.drew := rfl
      simp only [e9, ho1, hn1, z1', Result.andThen_ok, Xid]
      simp only [nc, q, rest, Array.append_assoc]
      rfl
    · exact (Xh6 w.drew _).size
    · have hb := Xh6 w.drew (.cells (old ++ new ++ rest) ty.elem)
      exact ⟨hb.os, hb.tape, hb.output, hb.size, fun k hk _ => hb.block k (Nat.lt_of_lt_of_le hk h.hb)⟩
    · intro b hb' _; exact (Xh6 w.drew _).block b hb'
    · simp only [Array.size_append, holdl, hnewl, hrest, ← hsz]
      have : nc = rows.length + ys.length + (nc - (rows.length + ys.length)) := by omega
      conv => rhs; rw [this]
      rw [Nat.add_mul, Nat.add_mul]
    · have e5 : (old ++ new ++ rest).toList.take ((rows ++ ys).length * sz) = old.toList ++ new.toList := by
        rw [hlen, Nat.add_mul]
        simp only [Array.toList_append]
        rw [List.take_left' (by simp [holdl, hnewl])]
      rw [e5]; exact Xlf ho2 hn2
end
open Go Go.RowKit

section
variable {P : Program} {L : List (Nat × Ty)} {C : Cx} {β : Nat → Nat} {ω : Nat → Value} {e : X7l} {a : Act} {w : World} {o : Oper} {K : Act → World → Prop} {Q : Exit → Act → World → Prop}

def X6v (x y : Int) : Int := if y < x then y else x
def X71 (x y : Int) : Int := if x < y then y else x
theorem Xw4 {k : IntKind} : ∀ (ns : List Int) (x : Int), ((ns.map fun n => Value.int k n).foldlM Builtin.min2 (.int k x)).run P w = .ok (.int k (ns.foldl X6v x)) w
  | [], x => rfl
  | n :: ns, x => by
    simp only [List.map_cons, List.foldlM_cons, Sem.run_bind, Builtin.min2, Sem.run_pure, Result.andThen_ok, List.foldl_cons]
    exact Xw4 ns _
theorem Xwy {k : IntKind} : ∀ (ns : List Int) (x : Int), ((ns.map fun n => Value.int k n).foldlM Builtin.max2 (.int k x)).run P w = .ok (.int k (ns.foldl X71 x)) w
  | [], x => rfl
  | n :: ns, x => by
    simp only [List.map_cons, List.foldlM_cons, Sem.run_bind, Builtin.max2, Sem.run_pure, Result.andThen_ok, List.foldl_cons]
    exact Xwy ns _
theorem Xv4 (h : R C β ω e a w) {k : IntKind} : ∀ {xs : List Operand} {ns : List Int}, xs.map (X73 e) = ns.map (AV.int k) → xs.map a.eval = ns.map fun n => Value.int k n
  | [], [], _ => rfl
  | [], _ :: _, h' => by simp at h'
  | _ :: _, [], h' => by simp at h'
  | x :: xs, n :: ns, h' => by
    simp only [List.map_cons, List.cons.injEq] at h' ⊢
    exact ⟨Xc8 h h'.1, Xv4 h h'.2⟩
theorem Xtl (h : R C β ω e a w) (hN : ∀ d, o.dst = some d → d < C.N) {c : Call} {k : IntKind} {n : Int} {ns : List Int} {r : Int} (ho : o.op = .call c) (hargs : c.args.toList.map (X73 e) = (n :: ns).map (AV.int k))
    (hc : (c.callee = .builtin .min ∧ r = ns.foldl X6v n) ∨ (c.callee = .builtin .max ∧ r = ns.foldl X71 n))
    (hK : ∀ a', R C β ω (Xa8 e (Xda o (.int k r))) a' w → K a' w) : o.wp P a w K Q := by
  have hv := Xv4 h hargs
  have hv' : c.args.map a.eval = ((n :: ns).map fun n => Value.int k n).toArray := by rw [← hv, ← Array.toList_map]
  have : (execOp a.eval o).run P w = .ok (.value (.int k r)) w := by
    unfold execOp; rw [ho]
    rcases hc with ⟨hc, rfl⟩ | ⟨hc, rfl⟩
    · obtain ⟨cs, hr⟩ : ∃ cs, resolve a.eval c o.type = pure { target := .builtin .min c.argTypes o.type cs, args := c.args.map a.eval } := ⟨_, by unfold resolve; simp only [hc]; rfl⟩
      simp only [hr, Sem.run_bind, Sem.run_pure, Result.andThen_ok, invoke, builtin, hv', Builtin.min_, List.map_cons, Xw4]
    · obtain ⟨cs, hr⟩ : ∃ cs, resolve a.eval c o.type = pure { target := .builtin .max c.argTypes o.type cs, args := c.args.map a.eval } := ⟨_, by unfold resolve; simp only [hc]; rfl⟩
      simp only [hr, Sem.run_bind, Sem.run_pure, Result.andThen_ok, invoke, builtin, hv', Builtin.max_, List.map_cons, Xwy]
  exact Xbv this (hK _ (Xd5 h hN (Xkn _ _)))

def Xqj (e : X7l) : List AV → List (Loc × LV)
  | [] => []
  | .ptr d _ _ _ :: r => (.b d, ⟨(e (.b d)).k, false, (e (.b d)).v⟩) :: Xqj (X7z e (.b d) ⟨(e (.b d)).k, false, (e (.b d)).v⟩) r
  | _ :: r => Xqj e r
theorem X3h (h : R C β ω e a w) (vs : List AV) : R C β ω (Xa8 e (Xqj e vs)) a w := by
  induction vs generalizing e with
  | nil => exact h
  | cons v vs ih =>
    cases v <;> try exact ih h
    rename_i d k off p
    exact ih (X4q h d)
theorem X25 (vs : List AV) (d : Nat) : (Xa8 e (Xqj e vs) (.b d)).k = (e (.b d)).k := by
  induction vs generalizing e with
  | nil => rfl
  | cons v vs ih =>
    cases v <;> try exact ih
    rename_i d' k off p
    simp only [Xqj, Xa8]
    rw [ih]
    by_cases hd : d = d'
    · subst hd; rw [Xbj]
    · rw [Xbx _ _ (by simpa using hd)]
def Xnx : List AV → List (Nat × Nat)
  | [] => []
  | .ptr d k _ _ :: r => (d, k) :: Xnx r
  | _ :: r => Xnx r
def Xnu (e : X7l) : List AV → Bool
  | [] => true
  | .ptr d k off p :: r => Nat.beq off 0 && p.isEmpty && Nat.beq k (e (.b d)).k && Xnu e r
  | _ :: _ => false
theorem Xth (h : R C β ω e a w) : ∀ {xs : List Operand}, Xnu e (xs.map (X73 e)) = true → xs.map a.eval = (Xnx (xs.map (X73 e))).map (fun dk => Value.pointer (some ⟨β dk.1, 0, Option.none⟩)) ∧ ∀ dk ∈ Xnx (xs.map (X73 e)), dk.2 = (e (.b dk.1)).k
  | [], _ => ⟨rfl, fun _ h => by cases h⟩
  | x :: xs, hc => by
    have hv := Xat h x
    simp only [List.map_cons] at hc ⊢
    cases hx : X73 e x <;> rw [hx] at hc hv <;> simp only [Xnu, Bool.and_eq_true, Bool.false_eq_true] at hc
    rename_i d k off p
    obtain ⟨⟨⟨h1, h2⟩, h3⟩, h4⟩ := hc
    have h1 := Nat.eq_of_beq_eq_true h1
    have h3 := Nat.eq_of_beq_eq_true h3
    obtain ⟨i1, i2⟩ := Xth h h4
    refine ⟨?_, ?_⟩
    · simp only [Xnx, List.map_cons, i1, hv.2 h3, h1]
    · intro dk hdk
      simp only [Xnx, List.mem_cons] at hdk
      rcases hdk with rfl | hdk
      · exact h3
      · exact i2 dk hdk
theorem Xu6 (h : R C β ω e a w) (hN : ∀ d, o.dst = some d → d < C.N) {f : Nat} {caps : Array Operand} (ho : o.op = .makeFunc (.func f) #[] caps) (hc : Xnu e (caps.toList.map (X73 e)) = true)
    {e1 : X7l} (he1 : e1 = Xa8 e (Xqj e (caps.toList.map (X73 e)))) (hK : ∀ a', R C β ω (Xa8 e1 (Xda o (.clo f (Xnx (caps.toList.map (X73 e)))))) a' w → K a' w) : o.wp P a w K Q := by
  have h1 : R C β ω e1 a w := by rw [he1]; exact X3h h _
  obtain ⟨q1, q2⟩ := Xth h hc
  have ek : ∀ d, (e1 (.b d)).k = (e (.b d)).k := fun d => by rw [he1, X25]
  have : (execOp a.eval o).run P w = .ok (.value (.func (.func f) #[] (caps.map a.eval))) w := by
    unfold execOp; rw [ho]; simp [Instr.makeFunc]
  refine Xbv this (hK _ (Xd5 h1 hN ?_))
  refine ⟨caps.map a.eval, rfl, fun dk hdk => by rw [ek, q2 dk hdk]; exact Nat.le_refl _, fun _ => ?_⟩
  rw [Array.toList_map, q1]

def Xle (e : X7l) : List (Nat × Nat) → List AV
  | [] => []
  | dk :: r => .rptr (e (.b dk.1)).v :: Xle e r
def Xf1 (e : X7l) : List (Nat × Nat) → Bool
  | [] => true
  | dk :: r => Nat.beq dk.2 (e (.b dk.1)).k && !(e (.b dk.1)).live && X70 (e (.b dk.1)).v && Xf1 e r
theorem Xqz (h : R C β ω e a w) : ∀ {l : List (Nat × Nat)}, Xf1 e l = true → Xiz (Sh C β ω e) w (Xle e l) (l.map fun dk => Value.pointer (some ⟨β dk.1, 0, Option.none⟩))
  | [], _ => rfl
  | dk :: l, hc => by
    simp only [Xf1, Bool.and_eq_true, Bool.not_eq_true'] at hc
    obtain ⟨⟨⟨h1, h2⟩, h3⟩, h4⟩ := hc
    have hn : (e (.b dk.1)).v ≠ .none := fun hn => by rw [hn] at h3; simp [X70] at h3
    obtain ⟨q1, q2, cs, T, q3, q4⟩ := h.bx dk.1 hn
    refine ⟨_, _, rfl, ?_, Xqz h h4⟩
    refine ⟨⟨β dk.1, 0, Option.none⟩, cs.toList, rfl, rfl, ⟨.inr (.inl q1), ?_⟩, q2, q4, Xfs q3 (c1 := []) (c3 := []) (by simp) rfl⟩
    rintro (⟨d, k1, k2, k3⟩ | ⟨g, k1, k2, k3⟩)
    · have := h.bi d dk.1 k1 hn k3; subst this; rw [h2] at k2; cases k2
    · exact h.ob g dk.1 k1 k2 hn k3
theorem Xn4 {S : Nat → Prop} : ∀ {xs ys : List AV} {vs us : List Value}, Xiz S w xs vs → Xiz S w ys us → Xiz S w (xs ++ ys) (vs ++ us)
  | [], _, _, _, h, k => by unfold Xiz at h; subst h; exact k
  | _ :: _, _, _, _, ⟨v, rest, h1, h2, h3⟩, k => ⟨v, rest ++ _, by rw [h1]; rfl, h2, Xn4 h3 k⟩
theorem Xxz (h : R C β ω e a w) (hN : ∀ d, o.dst = some d → d < C.N) {c : Call} {x : Operand} {f : Nat} {caps : List (Nat × Nat)} (ho : o.op = .call c) (hc : c.callee = .value x) (hx : X73 e x = .clo f caps)
    {xs : List (Nat × AV)} (hxs : xs = (c.argTypes.toList.zip (c.args.toList.map (X73 e)))) (hlen : c.argTypes.size = c.args.size) {e1 : X7l} (he1 : e1 = Xa8 e (X6r e (xs.map (·.2)))) (hd : ∀ y ∈ Xg6 L e1 xs, X70 y = true) (hcap : Xf1 e1 caps = true)
    {r : AV} (hC : CS P f (Xg6 L e1 xs ++ Xle e1 caps) r) (hK : ∀ a' w', R C β ω (Xa8 e1 (Xda o r)) a' w' → K a' w') : o.wp P a w K Q := by
  have h1 : R C β ω e1 a w := by rw [he1]; exact Xm5 h _
  have hf := Xat h1 x
  rw [he1, Xeg, ← he1, hx] at hf
  obtain ⟨arr, hf1, hf2, hf3⟩ := hf
  have hcap' : ∀ (l : List (Nat × Nat)), Xf1 e1 l = true → ∀ dk ∈ l, dk.2 = (e1 (.b dk.1)).k := by
    intro l
    induction l with
    | nil => intro _ dk hdk; cases hdk
    | cons y l ih =>
      intro hl dk hdk
      simp only [Xf1, Bool.and_eq_true] at hl
      rcases List.mem_cons.1 hdk with rfl | hdk
      · exact Nat.eq_of_beq_eq_true hl.1.1.1
      · exact ih hl.2 dk hdk
  have hf4 := hf3 (hcap' caps hcap)
  have hl : (c.args.toList.map a.eval).length = xs.length := by rw [hxs]; simp [hlen]
  have hvs := Xnk (L := L) h1 (xs := xs) (vs := c.args.toList.map a.eval) hd hl (fun i y v hy hv => by
    rw [hxs] at hy
    simp only [List.getElem?_map] at hv
    have := List.getElem?_zip_eq_some.1 hy
    obtain ⟨_, q⟩ := this
    simp only [List.getElem?_map] at q
    cases hp : c.args.toList[i]? with
    | none => rw [hp] at q; simp at q
    | some p =>
      rw [hp] at q hv
      simp only [Option.map_some, Option.some.injEq] at q hv
      rw [← q, ← hv]
      have := Xat h1 p
      rw [he1, Xeg] at this
      rw [he1]; exact this)
  obtain ⟨hfn, _, hC⟩ := hC
  have hx : (execOp a.eval o).run P w = .ok (.enter f (c.args.toList.map a.eval ++ arr.toList).toArray) w := by
    unfold execOp; rw [ho]
    have hfn' : ∀ (args : Array Value) (w : World), (callFunc f args).run P w = .ok (.enter f args) w := hfn
    simp only [Xfy c o.type x hc, hf1, Deferred.ofValue, Sem.run_bind, Sem.run_pure, Result.andThen_ok, invoke, hfn']
    have : c.args.map a.eval = (c.args.toList.map a.eval).toArray := by rw [← Array.toList_map]
    simp [this]
  have hall := Xn4 (Xfv hvs) (Xqz h1 hcap)
  rw [← hf4] at hall
  have hcall := hC (fun b => Sh C β ω e1 b ∧ b < w.heap.size) w (c.args.toList.map a.eval ++ arr.toList) (fun b hb => hb.2) (Xh1 hall)
  exact Xjl hx hcall (fun v w' ⟨hb, hr⟩ => hK _ _ (X15 h1 hN hb hr))
end
open Go Go.RowKit

mutual
def Xf4 : AV → Bool
  | .int _ _ => true
  | .bool _ => true
  | .st fs => X0d fs
  | _ => false
def X0d : List AV → Bool
  | [] => true
  | v :: vs => Xf4 v && X0d vs
end
def Xsu (rows : List AV) : Bool := rows.all Xf4
mutual
theorem Xj2 {S S' : Nat → Prop} {w w' : World} : ∀ {v : AV} {cs : List Value}, Xf4 v = true → X6u S w v cs → X6u S' w' v cs
  | .int _ _, _, _, h => by unfold X6u at *; exact h
  | .bool _, _, _, h => by unfold X6u at *; exact h
  | .st fs, _, hf, h => by unfold X6u at *; unfold Xf4 at hf; exact Xmq hf h
  | .none, _, hf, _ => by simp [Xf4] at hf
  | .nil, _, hf, _ => by simp [Xf4] at hf
  | .sl _ _, _, hf, _ => by simp [Xf4] at hf
  | .tup _, _, hf, _ => by simp [Xf4] at hf
  | .ptr .., _, hf, _ => by simp [Xf4] at hf
  | .own .., _, hf, _ => by simp [Xf4] at hf
  | .optr .., _, hf, _ => by simp [Xf4] at hf
  | .rptr _, _, hf, _ => by simp [Xf4] at hf
  | .fn _, _, hf, _ => by simp [Xf4] at hf
  | .clo .., _, hf, _ => by simp [Xf4] at hf
  | .win .., _, hf, _ => by simp [Xf4] at hf
theorem Xmq {S S' : Nat → Prop} {w w' : World} : ∀ {vs : List AV} {cs : List Value}, X0d vs = true → Xeb S w vs cs → Xeb S' w' vs cs
  | [], _, _, h => by unfold Xeb at *; exact h
  | v :: vs, cs, hf, h => by
    unfold X0d at hf; rw [Bool.and_eq_true] at hf
    unfold Xeb at *
    obtain ⟨c1, c2, rfl, h1, h2⟩ := h
    exact ⟨c1, c2, rfl, Xj2 hf.1 h1, Xmq hf.2 h2⟩
end
theorem Xkd {S S' : Nat → Prop} {w w' : World} : ∀ {rows : List AV} {cs : List Value}, Xsu rows = true → Xeb S w rows cs → Xeb S' w' rows cs
  | [], _, _, h => by unfold Xeb at *; exact h
  | v :: vs, cs, hf, h => by
    unfold Xsu at hf; rw [List.all_cons, Bool.and_eq_true] at hf
    unfold Xeb at *
    obtain ⟨c1, c2, rfl, h1, h2⟩ := h
    exact ⟨c1, c2, rfl, Xj2 hf.1 h1, Xkd hf.2 h2⟩
theorem Xq8 {S S' : Nat → Prop} {w w' : World} {v : AV} {x : Value} (hf : Xf4 v = true) (h : Xgb S w v x) : Xgb S' w' v x := by
  cases v <;> try (simp [Xf4] at hf; done)
  · simpa [Xgb, X6u] using h
  · simpa [Xgb, X6u] using h
  · obtain ⟨cs, h1, h2⟩ := h
    unfold Xf4 at hf
    exact ⟨cs, h1, Xmq hf h2⟩
theorem Xsq {v : AV} (hf : Xf4 v = true) : X70 v = true := by cases v <;> first | rfl | (simp [Xf4] at hf)
theorem Xfw {S S' B B' : Nat → Prop} {w : World} {sz : Nat} {rows : List AV} {v : Value} (hf : Xsu rows = true) (hB : ∀ b, J7 v = some b → B b → B' b) (h : Xhc S B w sz rows v) : Xhc S' B' w sz rows v := by
  obtain ⟨A, c, rfl, h1, h2, h3⟩ := h
  refine ⟨A, c, rfl, h1, h2, h3.imp id ?_⟩
  rintro ⟨blk, cs, T, rfl, h4, h5, h6, h7, h8⟩
  exact ⟨blk, cs, T, rfl, hB blk rfl h4, h5, h6, h7, Xkd hf h8⟩
def Xx5 : AV → Bool
  | .tup [] => true
  | v => Xf4 v

def CW (P : Program) (f sz lo n : Nat) (all : List AV) (args : List AV) (all' : List AV) (r : AV) : Prop :=
  X4p P f ∧ Xsu all = true ∧ Xsu all' = true ∧ Xx5 r = true ∧ ∀ (S : Nat → Prop) (w : World) (u : Value) (blk cw : Nat) (vs : List Value), (∀ b, S b → b < w.heap.size) → ¬ S blk → J7 u = some blk → Xhc S (fun b => b = blk) w sz all u → n ≤ cw → Xiz S w args vs →
    Calls P f (.slice (some ⟨blk, lo * sz, none⟩) n cw :: vs).toArray w fun en w' => ∃ v, en = .returned v ∧ BelX (fun b => b = blk) w.heap.size w w' ∧ Xhc S (fun b => b = blk) w' sz all' u ∧ Xtn S w' r v
def X7a (P : Program) (f : Nat) (args : List AV) (sz : Nat) (rows : List AV) : Prop :=
  X4p P f ∧ Xsu rows = true ∧ ∀ (S : Nat → Prop) (w : World) (vs : List Value), (∀ b, S b → b < w.heap.size) → Xiz S w args vs →
    Calls P f vs.toArray w fun en w' => ∃ v, en = .returned v ∧ Below w.heap.size w w' ∧ Xhc S (fun b => w.heap.size ≤ b) w' sz rows v

section
variable {P : Program} {L : List (Nat × Ty)} {C : Cx} {β : Nat → Nat} {ω : Nat → Value} {e : X7l} {a : Act} {w : World} {o : Oper} {K : Act → World → Prop} {Q : Exit → Act → World → Prop}

theorem Xva (h : R C β ω e a w) {x : Operand} {g k sz lo n : Nat} (hx : X73 e x = .win g k sz lo n) (hk : k = (e (.o g)).k) : ∃ blk c, J7 (ω g) = some blk ∧ a.eval x = .slice (some ⟨blk, lo * sz, none⟩) n c ∧ n ≤ c := by
  have h1 := Xat h x
  rw [hx] at h1
  exact h1.2 hk
theorem Xw9 (hL : Xe4 P L) (h : R C β ω e a w) (hN : ∀ d, o.dst = some d → d < C.N) {c : Call} {T : Nat} {ty : Ty} {x : Operand} {g k sz lo n : Nat} (ho : o.op = .call c) (hc : c.callee = .builtin .len) (hargs : c.args = #[x]) (htys : c.argTypes[0]? = some T) (hT : Xdu L T = some ty) (hkk : ty.kind = 2)
    (hx : X73 e x = .win g k sz lo n) (hk : k = (e (.o g)).k) (hK : ∀ a', R C β ω (Xa8 e (Xda o (.int .i64 n))) a' w → K a' w) : o.wp P a w K Q := by
  obtain ⟨blk, cc, _, hv, _⟩ := Xva h hx hk
  obtain ⟨t1, _⟩ := Xep (Xau hL hT) hkk
  have : (execOp a.eval o).run P w = .ok (.value (.int .i64 n)) w := by
    unfold execOp; rw [ho]
    obtain ⟨cs, hr⟩ : ∃ cs, resolve a.eval c o.type = pure { target := .builtin .len c.argTypes o.type cs, args := c.args.map a.eval } := ⟨_, by unfold resolve; simp only [hc]; rfl⟩
    simp only [hr, Sem.run_bind, Sem.run_pure, Result.andThen_ok, invoke, builtin, hargs, Builtin.len_, htys]
    simp [hv, Xag t1, goInt]
  exact Xbv this (hK _ (Xd5 h hN (Xkn _ _)))
theorem Xtt (hL : Xe4 P L) (h : R C β ω e a w) (hN : ∀ d, o.dst = some d → d < C.N) {T : Nat} {ty : Ty} {x ix : Operand} {kk : IntKind} {m : Int} {i sz g k lo n : Nat} (ho : o.op = .indexAddr T x ix) (hT : Xdu L T = some ty) (hkk : ty.kind = 2)
    (hx : X73 e x = .win g k sz lo n) (hk : k = (e (.o g)).k) (hi : X73 e ix = .int kk m) (hm : m = (i : Int)) (hsz : sz = ty.esz) (hb : i < n)
    (hK : ∀ a', R C β ω (Xa8 e (Xda o (.optr g k sz (lo + i) 0 []))) a' w → K a' w) : o.wp P a w K Q := by
  obtain ⟨blk, cc, h1, h2, _⟩ := Xva h hx hk
  obtain ⟨t1, t2⟩ := Xep (Xau hL hT) hkk
  have hix := Xc8 h hi
  have : (execOp a.eval o).run P w = .ok (.value (.pointer (some ⟨blk, lo * sz + i * sz, Option.none⟩))) w := by
    unfold execOp; rw [ho]
    simp only [Instr.indexAt, h2, hix, asIntOf, Sem.run_bind, Sem.run_pure, Result.andThen_ok, Xag t1]
    rw [if_pos (by constructor <;> omega)]
    simp only [Sem.run_bind, Xd2 t2, Result.andThen_ok, Sem.run_pure, hm, Int.toNat_natCast, ← hsz, Xcs]
  refine Xbv this (hK _ (Xd5 h hN ?_))
  exact ⟨Nat.le_of_eq hk, fun _ => ⟨blk, h1, by rw [Nat.add_zero, Nat.add_mul]⟩⟩
theorem Xt1 (hL : Xe4 P L) (h : R C β ω e a w) (hN : ∀ d, o.dst = some d → d < C.N) {T : Nat} {ty : Ty} {x : Operand} {lo hi : Option Operand} {sz l n g k : Nat} {rows : List AV} (ho : o.op = .slice T x lo hi Option.none) (hT : Xdu L T = some ty) (hkk : ty.kind = 2)
    (hx : X73 e x = .own g k) (hk : k = (e (.o g)).k) (hl : (e (.o g)).live = true) (hv : (e (.o g)).v = .sl sz rows) (hsz : sz = ty.esz) (hlo : Xxc e lo l 0) (hhi : Xxc e hi (l + n) rows.length) (h0 : 0 < n) (h2 : l + n ≤ rows.length)
    (hK : ∀ a', R C β ω (Xa8 e (Xda o (.win g k sz l n))) a' w → K a' w) : o.wp P a w K Q := by
  obtain ⟨q0, A, c, q1, q2, hz, q4⟩ := Xry h hx hk hl hv
  rcases q4 with q4 | ⟨blk, cs, T', rfl, h5, h6, h7, h8, h9⟩
  · omega
  obtain ⟨t1, t2⟩ := Xep (Xau hL hT) hkk
  have vlo : ∀ x, lo = some x → ∃ k, a.eval x = .int k (l : Int) := fun x hx => by
    subst hx; obtain ⟨k, m, r1, r2⟩ := hlo; exact ⟨k, by rw [Xc8 h r1, r2]⟩
  have vhi : ∀ x, hi = some x → ∃ k, a.eval x = .int k ((l + n : Nat) : Int) := fun x hx => by
    subst hx; obtain ⟨k, m, r1, r2⟩ := hhi; exact ⟨k, by rw [Xc8 h r1, r2]⟩
  have hb : (Instr.sliceBounds true rows.length c (lo.map a.eval) (hi.map a.eval) Option.none).run P w = .ok (l, l + n, c) w := by
    cases hi with
    | none =>
      have hu : l + n = rows.length := hhi
      cases lo with
      | none => have hl0 : l = 0 := hlo; subst hl0; rw [hu]; rfl
      | some x =>
        obtain ⟨k, r⟩ := vlo x rfl
        rw [hu]
        simp [Instr.sliceBounds, r, Xc3 (rfl : Value.int k (l : Int) = _) (show l ≤ rows.length by omega)]
    | some y =>
      obtain ⟨k2, r2⟩ := vhi y rfl
      cases lo with
      | none =>
        have hl0 : l = 0 := hlo; subst hl0
        simp only [Instr.sliceBounds, Option.map_some, r2, Sem.run_bind, Xc3 (rfl : Value.int k2 ((0 + n : Nat) : Int) = _) (show 0 + n ≤ c by omega), Result.andThen_ok, Option.map_none, Sem.run_pure]
      | some x =>
        obtain ⟨k, r⟩ := vlo x rfl
        simp only [Instr.sliceBounds, Option.map_some, r, r2, Sem.run_bind, Xc3 (rfl : Value.int k2 ((l + n : Nat) : Int) = _) (show l + n ≤ c by omega), Result.andThen_ok, Xc3 (rfl : Value.int k (l : Int) = _) (show l ≤ l + n by omega), Option.map_none, Sem.run_pure]
  have : (execOp a.eval o).run P w = .ok (.value (.slice (some ⟨blk, l * sz, Option.none⟩) n (c - l))) w := by
    unfold execOp; rw [ho]
    simp only [Instr.sliceAt, Instr.slice, q0, q1, Option.map_none, Sem.run_bind, Xag t1, Result.andThen_ok, hb, Xd2 t2, Sem.run_pure, ← hsz]
    rw [if_neg (by omega)]
    simp [Xcs]
  refine Xbv this (hK _ (Xd5 h hN ?_))
  exact ⟨Nat.le_of_eq hk, fun _ => ⟨blk, c - l, by rw [q1]; rfl, rfl, by omega⟩⟩
theorem Xmr {c : Call} {x : Operand} {f : Nat} (ho : o.op = .call c) (hc : c.callee = .value x) (hf : a.eval x = .func (.func f) #[] #[]) (hfn : X4p P f) : (execOp a.eval o).run P w = .ok (.enter f (c.args.toList.map a.eval).toArray) w := by
  unfold execOp; rw [ho]
  have hfn' : ∀ (args : Array Value) (w : World), (callFunc f args).run P w = .ok (.enter f args) w := hfn
  simp only [Xfy c o.type x hc, hf, Deferred.ofValue, Sem.run_bind, Sem.run_pure, Result.andThen_ok, invoke, hfn']
  have : c.args.map a.eval = (c.args.toList.map a.eval).toArray := by rw [← Array.toList_map]
  simp [this]
theorem Xq7 {S : Nat → Prop} {w w' : World} {S' : Nat → Prop} {r : AV} {v : Value} (hf : Xx5 r = true) (h : Xtn S w r v) : Xky S' w' β ω e r v := by
  by_cases h1 : Xf4 r = true
  · have hd := Xsq h1
    exact (Xbk hd).2 (Xq8 h1 ((Xi6 hd).1 h))
  · cases r <;> try (exact absurd hf h1)
    rename_i vs
    cases vs with
    | nil => obtain ⟨arr, h1, h2⟩ := h; exact ⟨arr, h1, h2⟩
    | cons _ _ => exact absurd hf h1
theorem Xu2 (h1 : R C β ω e a w) {tys : List Nat} {args : List Operand} (hlen : tys.length = args.length) (hd : ∀ y ∈ Xg6 L e (tys.zip (args.map (X73 e))), X70 y = true) : Xlk (Sh C β ω e) w (Xg6 L e (tys.zip (args.map (X73 e)))) (args.map a.eval) := by
  refine Xnk (L := L) h1 hd (by simp [hlen]) (fun i y v hy hv => ?_)
  simp only [List.getElem?_map] at hv
  have := List.getElem?_zip_eq_some.1 hy
  obtain ⟨_, q⟩ := this
  simp only [List.getElem?_map] at q
  cases hp : args[i]? with
  | none => rw [hp] at q; simp at q
  | some p =>
    rw [hp] at q hv
    simp only [Option.map_some, Option.some.injEq] at q hv
    rw [← q, ← hv]
    exact Xat h1 p
theorem X0g (h : R C β ω e a w) (hN : ∀ d, o.dst = some d → d < C.N) {c : Call} {x y : Operand} {rest : List Operand} {t0 : Nat} {tys : List Nat} {f : Nat} (ho : o.op = .call c) (hc : c.callee = .value x) (hx : X73 e x = .fn f) (hargs : c.args.toList = y :: rest)
    {g k sz lo n : Nat} {all all' : List AV} (hy : X73 e y = .win g k sz lo n) {e1 : X7l} (he1 : e1 = Xa8 e (X6r e (rest.map (X73 e)))) (hk : k = (e1 (.o g)).k) (hl : (e1 (.o g)).live = true) (hv : (e1 (.o g)).v = .sl sz all)
    (hlen : tys.length = rest.length) (hd : ∀ z ∈ Xg6 L e1 (tys.zip (rest.map (X73 e))), X70 z = true) {r : AV} (hC : CW P f sz lo n all (Xg6 L e1 (tys.zip (rest.map (X73 e)))) all' r)
    (hK : ∀ a' w', R C β ω (Xa8 (X7z e1 (.o g) ⟨k, true, .sl sz all'⟩) (Xda o r)) a' w' → K a' w') : o.wp P a w K Q := by
  have h1 : R C β ω e1 a w := by rw [he1]; exact Xm5 h _
  have hf := Xat h x
  rw [hx] at hf
  have hf : a.eval x = .func (.func f) #[] #[] := hf
  have hval : ∀ z, X73 e1 z = X73 e z := fun z => by rw [he1, Xeg]
  have hmap : rest.map (X73 e1) = rest.map (X73 e) := List.map_congr_left fun z _ => hval z
  have hvs := Xu2 (L := L) h1 (tys := tys) (args := rest) hlen (by rw [hmap]; exact hd)
  rw [hmap] at hvs
  obtain ⟨hfn, hfl, hfl', hfr, hC⟩ := hC
  have hent := Xmr (w := w) (P := P) ho hc hf hfn
  obtain ⟨blk, cw, b1, b2, b3⟩ := Xva h1 (x := y) (by rw [hval]; exact hy) hk
  have how := h1.ow g
  unfold X7s at how
  rw [hv] at how
  simp only at how
  rw [if_pos hl] at how
  have hpriv : Xn9 β ω e1 blk := .inr ⟨g, by rw [hv]; simp, hl, b1⟩
  have hcall := hC (fun b => Sh C β ω e1 b ∧ b < w.heap.size) w (ω g) blk cw (rest.map a.eval) (fun b hb => hb.2) (fun hb => hb.1.2 hpriv) b1 (Xfw hfl (fun b hb _ => by rw [b1] at hb; exact (Option.some.inj hb).symm) how) b3 (Xh1 (Xfv hvs))
  have harr : (c.args.toList.map a.eval).toArray = (.slice (some ⟨blk, lo * sz, none⟩) n cw :: rest.map a.eval).toArray := by rw [hargs, List.map_cons, b2]
  rw [harr] at hent
  refine Xjl hent hcall (fun v w' ⟨hb, how', hr⟩ => hK _ _ ?_)
  have hB : C.B blk := by
    obtain ⟨A, cc, q1, _, _, q2 | ⟨blk', cs, T, rfl, q3, _⟩⟩ := how
    · rw [q1, q2.1] at b1; simp [J7] at b1
    · rw [q1] at b1; simp only [J7, Option.some.injEq] at b1; rw [← b1]; exact q3
  have hbel : BelX C.X C.base w w' := ⟨hb.os, hb.tape, hb.output, hb.size, fun k hk hx => hb.block k (Nat.lt_of_lt_of_le hk h1.hb) (fun hc => by
    subst hc
    rcases hB with hB | hB
    · omega
    · exact hx hB)⟩
  obtain ⟨A, cc, u1, u2, u3, u4⟩ := how'
  have hg := Xm2 h1 (g := g) (k := k) (X73 := ω g) (w' := w') (.inl ⟨hk, rfl⟩) hb.size hbel (fun b hlt hh => hb.block b hlt (fun hc => by subst hc; exact hh ⟨by rw [hv]; simp, hl, b1⟩)) (fun b hbk => .inr ⟨by rw [hv]; simp, hl, hbk⟩) (sz := sz) (c := cc) (rows := all') (A := A) u1 u2 u3 (u4.imp id (by
    rintro ⟨blk', cs, T, v1, v2, v3, v4, v5, v6⟩
    refine ⟨blk', cs, T, v1, ?_, v3, v4, v5, Xkd hfl' v6⟩
    have v2 : blk' = blk := v2
    rw [v2]; exact hB))
  have hω : Xuq ω g (ω g) = ω := by funext g'; unfold Xuq; split <;> simp_all
  rw [hω] at hg
  exact Xd5 hg hN (Xq7 hfr hr)
theorem X1f (h : R C β ω e a w) {d : Nat} (hN : d < C.N) (hdst : o.dst = some d) {c : Call} {x : Operand} {tys : List Nat} {f : Nat} (ho : o.op = .call c) (hc : c.callee = .value x) (hx : X73 e x = .fn f)
    {e1 : X7l} (he1 : e1 = Xa8 e (X6r e (c.args.toList.map (X73 e)))) {sz : Nat} {rows : List AV} (hlen : tys.length = c.args.toList.length) (hd : ∀ z ∈ Xg6 L e1 (tys.zip (c.args.toList.map (X73 e))), X70 z = true)
    (hC : X7a P f (Xg6 L e1 (tys.zip (c.args.toList.map (X73 e)))) sz rows)
    (hK : ∀ ω' a' w', R C β ω' (X7z (X7z e1 (.o d) ⟨(e1 (.o d)).k + 1, true, .sl sz rows⟩) (.t d) ⟨0, false, .own d ((e1 (.o d)).k + 1)⟩) a' w' → K a' w') : o.wp P a w K Q := by
  have h1 : R C β ω e1 a w := by rw [he1]; exact Xm5 h _
  have hf := Xat h x
  rw [hx] at hf
  have hf : a.eval x = .func (.func f) #[] #[] := hf
  have hval : ∀ z, X73 e1 z = X73 e z := fun z => by rw [he1, Xeg]
  have hmap : c.args.toList.map (X73 e1) = c.args.toList.map (X73 e) := List.map_congr_left fun z _ => hval z
  have hvs := Xu2 (L := L) h1 (tys := tys) (args := c.args.toList) hlen (by rw [hmap]; exact hd)
  rw [hmap] at hvs
  obtain ⟨hfn, hfl, hC⟩ := hC
  have hent := Xmr (w := w) (P := P) ho hc hf hfn
  have hcall := hC (fun b => Sh C β ω e1 b ∧ b < w.heap.size) w (c.args.toList.map a.eval) (fun b hb => hb.2) (Xh1 (Xfv hvs))
  refine Xjl hent hcall (fun v w' ⟨hb, how⟩ => ?_)
  obtain ⟨A, cc, u1, u2, u3, u4⟩ := how
  have hg := Xm2 h1 (g := d) (k := (e1 (.o d)).k + 1) (X73 := v) (w' := w') (.inr (Nat.lt_succ_self _)) hb.size ⟨hb.os, hb.tape, hb.output, hb.size, fun k hk _ => hb.block k (Nat.lt_of_lt_of_le hk h1.hb)⟩ (fun b hlt _ => hb.block b hlt) (fun b hbk => by
      rcases u4 with ⟨rfl, _⟩ | ⟨blk, cs, T, rfl, v2, _⟩
      · rw [u1] at hbk; simp [J7] at hbk
      · rw [u1] at hbk; simp only [J7, Option.some.injEq] at hbk; subst hbk; exact .inl v2) (sz := sz) (c := cc) (rows := rows) (A := A) u1 u2 u3 (u4.imp id (by
    rintro ⟨blk, cs, T, v1, v2, v3, v4, v5, v6⟩
    exact ⟨blk, cs, T, v1, .inl (Nat.le_trans h1.hb v2), v3, v4, v5, Xkd hfl v6⟩))
  rw [hdst]
  refine hK _ _ _ (Xvp hg hN ⟨fun _ => ?_, fun hc => by cases hc⟩)
  refine ⟨by rw [Xbj]; exact Nat.le_refl _, fun _ => ?_⟩
  rw [Xb1]
def CB (P : Program) (f sz : Nat) (v : AV) (args : List AV) (v' : AV) (r : AV) : Prop :=
  X4p P f ∧ Xsu [v] = true ∧ Xsu [v'] = true ∧ Xx5 r = true ∧ v.size = sz ∧ v'.size = sz ∧ ∀ (S : Nat → Prop) (w : World) (blk : Nat) (vs : List Value), (∀ b, S b → b < w.heap.size) → ¬ S blk → Xhc S (fun b => b = blk) w sz [v] (.slice (some ⟨blk, 0, Option.none⟩) 1 1) → Xiz S w args vs →
    Calls P f (.pointer (some ⟨blk, 0, Option.none⟩) :: vs).toArray w fun en w' => ∃ x, en = .returned x ∧ BelX (fun b => b = blk) w.heap.size w w' ∧ Xhc S (fun b => b = blk) w' sz [v'] (.slice (some ⟨blk, 0, Option.none⟩) 1 1) ∧ Xtn S w' r x
theorem Xz6 (h : R C β ω e a w) {d : Nat} (hd : (e (.b d)).v ≠ .none) (hl : (e (.b d)).live = true) {w' : World} (hb : BelX (fun b => b = β d) w.heap.size w w') {v : AV} {cs : Array Value} {T : Nat}
    (hc : w'.heap[β d]? = some (.cells cs T (0, 0))) (hv : Xf4 v = true) (hr : X6u (fun _ => True) w' v cs.toList) : R C β ω (X7z e (.b d) ⟨(e (.b d)).k, true, v⟩) a w' := by
  obtain ⟨_, hlt, cs0, T0, h0, _⟩ := h.bx d hd
  have hlt' : β d < w'.heap.size := Nat.lt_of_lt_of_le hlt hb.size
  let w1 : World := { w' with heap := w'.heap.set (β d) (.cells cs0 T0 (0, 0)) hlt' }
  have hs1 : w1.heap.size = w'.heap.size := Array.size_set hlt'
  have hat : ∀ k, k ≠ β d → w1.heap[k]? = w'.heap[k]? := fun k hk => by
    show (w'.heap.set (β d) _ hlt')[k]? = _
    rw [Array.getElem?_set, if_neg (fun hc => hk hc.symm)]
  have hbel : Below w.heap.size w w1 := ⟨hb.os, hb.tape, hb.output, by rw [hs1]; exact hb.size, fun k hk => by
    by_cases hkd : k = β d
    · subst hkd
      show (w'.heap.set (β d) _ hlt')[β d]? = _
      rw [Array.getElem?_set, if_pos rfl, h0]
    · rw [hat k hkd]; exact hb.block k hk hkd⟩
  have hR1 := Xy9 h hbel
  have hw : Wr (β d) w1 w' := ⟨rfl, rfl, rfl, hs1.symm, fun k hk => (hat k hk).symm⟩
  exact Xzp hR1 hd hl hw hc (Xj2 hv hr)
theorem X0q (h : R C β ω e a w) (hN : ∀ d, o.dst = some d → d < C.N) {c : Call} {x y : Operand} {rest : List Operand} {tys : List Nat} {f : Nat} (ho : o.op = .call c) (hc : c.callee = .value x) (hx : X73 e x = .fn f) (hargs : c.args.toList = y :: rest)
    {d k : Nat} {v' : AV} (hy : X73 e y = .ptr d k 0 []) {e1 : X7l} (he1 : e1 = Xa8 e (X6r e (rest.map (X73 e)))) (hk : k = (e1 (.b d)).k) (hl : (e1 (.b d)).live = true) (hne : (e1 (.b d)).v ≠ .none) {sz : Nat}
    (hlen : tys.length = rest.length) (hd : ∀ z ∈ Xg6 L e1 (tys.zip (rest.map (X73 e))), X70 z = true) {r : AV} (hC : CB P f sz (e1 (.b d)).v (Xg6 L e1 (tys.zip (rest.map (X73 e)))) v' r)
    (hK : ∀ a' w', R C β ω (Xa8 (X7z e1 (.b d) ⟨k, true, v'⟩) (Xda o r)) a' w' → K a' w') : o.wp P a w K Q := by
  have h1 : R C β ω e1 a w := by rw [he1]; exact Xm5 h _
  have hf := Xat h x
  rw [hx] at hf
  have hf : a.eval x = .func (.func f) #[] #[] := hf
  have hval : ∀ z, X73 e1 z = X73 e z := fun z => by rw [he1, Xeg]
  have hmap : rest.map (X73 e1) = rest.map (X73 e) := List.map_congr_left fun z _ => hval z
  have hvs := Xu2 (L := L) h1 (tys := tys) (args := rest) hlen (by rw [hmap]; exact hd)
  rw [hmap] at hvs
  obtain ⟨hfn, hfl, hfl', hfr, hsz, hsz', hC⟩ := hC
  have hent := Xmr (w := w) (P := P) ho hc hf hfn
  have hp := Xat h1 y
  rw [hval, hy] at hp
  have hpv : a.eval y = .pointer (some ⟨β d, 0, Option.none⟩) := hp.2 hk
  obtain ⟨q1, q2, cs, T, q3, q4⟩ := h1.bx d hne
  have hcs : cs.size = sz := by have := Xef q4; rw [hsz] at this; simpa using this
  have hf1 : Xf4 (e1 (.b d)).v = true := by simpa [Xsu] using hfl
  have hf1' : Xf4 v' = true := by simpa [Xsu] using hfl'
  have how : Xhc (fun b => Sh C β ω e1 b ∧ b < w.heap.size) (fun b => b = β d) w sz [(e1 (.b d)).v] (.slice (some ⟨β d, 0, Option.none⟩) 1 1) := by
    refine ⟨_, _, rfl, Nat.le_refl _, fun r hr => by simp only [List.mem_singleton] at hr; subst hr; exact hsz, .inr ⟨β d, cs, T, rfl, rfl, q2, q3, by simp [hcs], ?_⟩⟩
    have : cs.toList.take ([(e1 (.b d)).v].length * sz) = cs.toList := List.take_of_length_le (by simp [hcs])
    rw [this]
    unfold Xeb
    exact ⟨cs.toList, [], by simp, Xj2 hf1 q4, by unfold Xeb; rfl⟩
  have hpriv : Xn9 β ω e1 (β d) := .inl ⟨d, hne, hl, rfl⟩
  have hcall := hC (fun b => Sh C β ω e1 b ∧ b < w.heap.size) w (β d) (rest.map a.eval) (fun b hb => hb.2) (fun hb => hb.1.2 hpriv) how (Xh1 (Xfv hvs))
  have harr : (c.args.toList.map a.eval).toArray = (.pointer (some ⟨β d, 0, Option.none⟩) :: rest.map a.eval).toArray := by rw [hargs, List.map_cons, hpv]
  rw [harr] at hent
  refine Xjl hent hcall (fun x w' ⟨hb, how', hr⟩ => hK _ _ ?_)
  obtain ⟨A, cc, u1, u2, u3, u4⟩ := how'
  simp only [Value.slice.injEq] at u1
  obtain ⟨u1a, -, u1c⟩ := u1
  rcases u4 with u4 | ⟨blk', cs', T', v1, v2, v3, v4, v5, v6⟩
  · rw [u4.1] at u1a; cases u1a
  have v2 : blk' = β d := v2
  subst v2
  rw [← u1c] at v5
  simp only [Nat.one_mul] at v5
  have v6' : X6u (fun _ => True) w' v' cs'.toList := by
    have e0 : cs'.toList.take ([v'].length * sz) = cs'.toList := List.take_of_length_le (by simp [v5])
    rw [e0] at v6
    unfold Xeb at v6
    obtain ⟨c1, c2, w1, w2, w3⟩ := v6
    unfold Xeb at w3
    subst w3
    rw [List.append_nil] at w1
    rw [w1]
    exact Xj2 hf1' w2
  have hg := Xz6 h1 hne hl hb v4 hf1' v6'
  rw [← hk] at hg
  exact Xd5 hg hN (Xq7 hfr hr)
end
open Go Go.RowKit

structure Ef where
  us : List (Loc × LV)
  ob : Prop
  rs : List AV

def Xy0 (e : X7l) (o : Oper) (x : Operand) (rs : List AV) : Option Ef := some ⟨Xda o (X73 e x), True, rs⟩
def X0t (e : X7l) (o : Oper) (c x y : Operand) (rs : List AV) : Option Ef := match X73 e c with
  | .bool t => some ⟨Xda o (bif t then X73 e x else X73 e y), True, rs⟩
  | _ => Option.none
def Xwp (L : List (Nat × Ty)) (e : X7l) (o : Oper) (T : Nat) (rs : List AV) : Option Ef := match Xdu L T, o.dst with
  | some ty, some d => some ⟨[(.b d, ⟨(e (.b d)).k + 1, true, ty.zero⟩), (.t d, ⟨0, false, .ptr d ((e (.b d)).k + 1) 0 []⟩)], True, rs⟩
  | _, _ => Option.none
def X3y (L : List (Nat × Ty)) (e : X7l) (o : Oper) (T : Nat) (x : Operand) (rs : List AV) : Option Ef :=
  let us := X6r e [X73 e x]
  let e1 := Xa8 e us
  let v := X7f L e1 T (X73 e x)
  match o.dst, X70 v with
  | some d, true => some ⟨us ++ [(.b d, ⟨(e1 (.b d)).k + 1, true, v⟩), (.t d, ⟨0, false, .ptr d ((e1 (.b d)).k + 1) 0 []⟩)], True, rs⟩
  | _, _ => Option.none
def Xrb (v : AV) (ty : Ty) : Bool := X70 v && Nat.beq v.size ty.size && (v.isSt == ty.agg)
def Xxs (L : List (Nat × Ty)) (e : X7l) (o : Oper) (T : Nat) (x : Operand) (rs : List AV) : Option Ef := match Xdu L T with
  | Option.none => Option.none
  | some ty => match X73 e x with
    | .ptr d k off p => (match Nat.beq k (e (.b d)).k && Nat.beq ((e (.b d)).v.at p) off && Xrb ((e (.b d)).v.get p) ty with
      | true => some ⟨Xda o ((e (.b d)).v.get p), True, rs⟩
      | false => Option.none)
    | .rptr v => (match Xrb v ty with
      | true => some ⟨Xda o v, True, rs⟩
      | false => Option.none)
    | .optr g k sz i off p => (match (e (.o g)).v, rs with
      | .sl sz' rows, r :: rs => (match Nat.beq k (e (.o g)).k && (e (.o g)).live && Nat.beq sz sz' && Nat.beq (r.at p) off && Xrb (r.get p) ty with
        | true => some ⟨Xda o (r.get p), rows[i]? = some r, rs⟩
        | false => Option.none)
      | _, _ => Option.none)
    | _ => Option.none
def Xrj (L : List (Nat × Ty)) (e : X7l) (o : Oper) (T : Nat) (x y : Operand) (rs : List AV) : Option Ef :=
  let us := X6r e [X73 e y]
  let e1 := Xa8 e us
  let v := X7f L e1 T (X73 e y)
  match Xdu L T with
  | Option.none => Option.none
  | some ty => match X73 e x with
    | .ptr d k off p => (match X70 v && Nat.beq k (e1 (.b d)).k && (e1 (.b d)).live && Nat.beq ((e1 (.b d)).v.at p) off && X70 ((e1 (.b d)).v.get p) && Nat.beq v.size ((e1 (.b d)).v.get p).size && Nat.beq v.size ty.size with
      | true => some ⟨us ++ ((.b d, ⟨k, true, (e1 (.b d)).v.put v p⟩) :: Xda o .none), True, rs⟩
      | false => Option.none)
    | .optr g k sz i off p => (match (e1 (.o g)).v, rs with
      | .sl sz' rows, r :: rs => (match X70 v && Nat.beq k (e1 (.o g)).k && (e1 (.o g)).live && Nat.beq sz sz' && Nat.beq (r.at p) off && X70 (r.get p) && Nat.beq v.size (r.get p).size && Nat.beq v.size ty.size with
        | true => some ⟨us ++ ((.o g, ⟨k, true, .sl sz (rows.set i (r.put v p))⟩) :: Xda o .none), rows[i]? = some r, rs⟩
        | false => Option.none)
      | _, _ => Option.none)
    | _ => Option.none
def Xrq (L : List (Nat × Ty)) (e : X7l) (o : Oper) (T : Nat) (x : Operand) (i : Nat) (rs : List AV) : Option Ef := match Xdu L T with
  | Option.none => Option.none
  | some ty => match ty.flds[i]?, Nat.beq ty.kind 1 with
    | some (ofs, _, _), true => (match X73 e x with
      | .ptr d k off p => (match Nat.beq k (e (.b d)).k with
        | true => some ⟨Xda o (.ptr d k (off + ofs) (p ++ [i])), True, rs⟩
        | false => Option.none)
      | .optr g k sz n off p => (match Nat.beq k (e (.o g)).k with
        | true => some ⟨Xda o (.optr g k sz n (off + ofs) (p ++ [i])), True, rs⟩
        | false => Option.none)
      | .rptr v => (match X70 (v.get [i]) && Nat.beq (v.at [i]) ofs with
        | true => some ⟨Xda o (.rptr (v.get [i])), True, rs⟩
        | false => Option.none)
      | _ => Option.none)
    | _, _ => Option.none
def Xz8 (L : List (Nat × Ty)) (e : X7l) (o : Oper) (op : BinOp) (T : Nat) (x y : Operand) (rs : List AV) : Option Ef := match X73 e x, X73 e y with
  | .int k m, .int k' n => (match decide (k = k') with
    | true => (match X2t op m n with
      | some b => some ⟨Xda o (.bool b), True, rs⟩
      | Option.none => (match rs with
        | .int k2 r :: rs => (match decide (k2 = k) with
          | true => some ⟨Xda o (.int k r), Jx op k m n = some r ∧ ((op = .quo ∨ op = .rem) → n ≠ 0), rs⟩
          | false => Option.none)
        | _ => Option.none))
    | false => Option.none)
  | .bool m, .bool n => (match Xdu L T with
    | some ty => (match Nat.beq ty.kind 5, op with
      | true, .eql => some ⟨Xda o (.bool (m == n)), True, rs⟩
      | true, .neq => some ⟨Xda o (.bool (!(m == n))), True, rs⟩
      | _, _ => Option.none)
    | Option.none => Option.none)
  | _, _ => Option.none
def X5e (L : List (Nat × Ty)) (e : X7l) (o : Oper) (op : BinOp) (T : Nat) (x y : Operand) (rs : List AV) : Option Ef := match rs with
  | .tup [.bool b] :: rs' => (match Xz8 L e o op T x y rs' with
    | some ⟨[(l, ⟨k, lv, .bool c⟩)], p, rs2⟩ => some ⟨[(l, ⟨k, lv, .bool b⟩)], p ∧ c = b, rs2⟩
    | _ => Option.none)
  | _ => Xz8 L e o op T x y rs
def X6o (e : X7l) (o : Oper) (op : UnOp) (x : Operand) (rs : List AV) : Option Ef := match op, X73 e x with
  | .not, .bool b => some ⟨Xda o (.bool (!b)), True, rs⟩
  | .neg, .int k n => (match rs with
    | .int k2 r :: rs => (match decide (k2 = k) with
      | true => some ⟨Xda o (.int k r), r = k.wrap (0 - n), rs⟩
      | false => Option.none)
    | _ => Option.none)
  | _, _ => Option.none
def X0l (L : List (Nat × Ty)) (e : X7l) (o : Oper) (T T' : Nat) (x : Operand) (rs : List AV) : Option Ef := match X73 e x, Xdu L T, Xdu L T', rs with
  | .int _ n, some ty, some ty', .int k r :: rs => (match Nat.beq ty.kind 4 && Nat.beq ty'.kind 4 && decide (k = ty'.ik) with
    | true => some ⟨Xda o (.int k r), r = k.wrap n, rs⟩
    | false => Option.none)
  | _, _, _, _ => Option.none
def Xop (e : X7l) (o : Oper) (x : Operand) (i : Nat) (rs : List AV) : Option Ef := match X73 e x with
  | .tup vs => (match X70 (vs.getD i .none) with
    | true => some ⟨Xda o (vs.getD i .none), True, rs⟩
    | false => Option.none)
  | _ => Option.none
def Xrr (L : List (Nat × Ty)) (e : X7l) (o : Oper) (T : Nat) (x ix : Operand) (rs : List AV) : Option Ef := match Xdu L T, X73 e ix with
  | some ty, .int _ n => (match Nat.beq ty.kind 2 with
    | true => (match X73 e x with
      | .sl sz rows => (match rs with
        | r :: rs => (match Nat.beq sz ty.esz && X70 r with
          | true => some ⟨Xda o (.rptr r), 0 ≤ n ∧ rows[n.toNat]? = some r, rs⟩
          | false => Option.none)
        | [] => Option.none)
      | .own g k => (match (e (.o g)).v with
        | .sl sz rows => (match Nat.beq k (e (.o g)).k && Nat.beq sz ty.esz with
          | true => (match (e (.o g)).live with
            | true => some ⟨Xda o (.optr g k sz n.toNat 0 []), 0 ≤ n ∧ n.toNat < rows.length, rs⟩
            | false => (match rs with
              | r :: rs => (match X70 r with
                | true => some ⟨Xda o (.rptr r), 0 ≤ n ∧ rows[n.toNat]? = some r, rs⟩
                | false => Option.none)
              | [] => Option.none))
          | false => Option.none)
        | _ => Option.none)
      | _ => Option.none)
    | false => (match Nat.beq ty.kind 3 with
      | true => (match X73 e x with
        | .ptr d k off p => (match Nat.beq k (e (.b d)).k with
          | true => some ⟨Xda o (.ptr d k (off + n.toNat * ty.esz) (p ++ [n.toNat])), 0 ≤ n ∧ n.toNat < ty.alen, rs⟩
          | false => Option.none)
        | .rptr v => (match X70 (v.get [n.toNat]) && Nat.beq (v.at [n.toNat]) (n.toNat * ty.esz) with
          | true => some ⟨Xda o (.rptr (v.get [n.toNat])), 0 ≤ n ∧ n.toNat < ty.alen, rs⟩
          | false => Option.none)
        | _ => Option.none)
      | false => Option.none))
  | _, _ => Option.none
def Xrn (L : List (Nat × Ty)) (e : X7l) (o : Oper) (T : Nat) (parts : List (Nat × Operand)) (rs : List AV) : Option Ef := match Xdu L T with
  | Option.none => Option.none
  | some ty =>
    let xs := parts.map fun p => (X3l (ty.flds.map (·.2.2)) p.1, X73 e p.2)
    let us := X6r e (xs.map (·.2))
    let e1 := Xa8 e us
    let ps := (parts.map (·.1)).zip (Xg6 L e1 xs)
    match Nat.beq ty.kind 1 && ty.zero.isSt && (Xg6 L e1 xs).all X70 && Xpq (Xpr ty.flds) ps ty.zero && (Xig ps ty.zero).isSt with
    | true => some ⟨us ++ Xda o (Xig ps ty.zero), True, rs⟩
    | false => Option.none
def Xxu (P : Program) (L : List (Nat × Ty)) (e : X7l) (o : Oper) (x : Operand) (args : List Operand) (tys : List Nat) (rs : List AV) : Option Ef :=
  let xs := tys.zip (args.map (X73 e))
  let us := X6r e (xs.map (·.2))
  let e1 := Xa8 e us
  match X73 e x, rs with
  | .fn f, r :: rs => (match Nat.beq tys.length args.length && (Xg6 L e1 xs).all X70 with
    | true => some ⟨us ++ Xda o r, CS P f (Xg6 L e1 xs) r, rs⟩
    | false => Option.none)
  | .clo f caps, r :: rs => (match Nat.beq tys.length args.length && (Xg6 L e1 xs).all X70 && Xf1 e1 caps with
    | true => some ⟨us ++ Xda o r, CS P f (Xg6 L e1 xs ++ Xle e1 caps) r, rs⟩
    | false => Option.none)
  | _, _ => Option.none
def Xpe : List AV → Option (IntKind × List Int)
  | [] => Option.none
  | [.int k n] => some (k, [n])
  | .int k n :: r => (match Xpe r with
    | some (k', ns) => (match decide (k = k') with
      | true => some (k, n :: ns)
      | false => Option.none)
    | Option.none => Option.none)
  | _ => Option.none
def X4c (L : List (Nat × Ty)) (e : X7l) (o : Oper) (x : Operand) (T : Nat) (rs : List AV) : Option Ef := match Xdu L T with
  | Option.none => Option.none
  | some ty => match Nat.beq ty.kind 2 with
    | false => Option.none
    | true => match X73 e x with
      | .sl _ rows => some ⟨Xda o (.int .i64 rows.length), True, rs⟩
      | .nil => some ⟨Xda o (.int .i64 ((0 : Nat) : Int)), True, rs⟩
      | .own g k => (match (e (.o g)).v with
        | .sl _ rows => (match Nat.beq k (e (.o g)).k with
          | true => some ⟨Xda o (.int .i64 rows.length), True, rs⟩
          | false => Option.none)
        | _ => Option.none)
      | _ => Option.none
def Xpn (L : List (Nat × Ty)) (e : X7l) (o : Oper) (s x : Operand) (T T2 : Nat) (rs : List AV) : Option Ef := match Xdu L T, Xdu L T2, o.dst with
  | some ty, some ty2, some d => (match Xdu L ty.elem with
    | some ety =>
      let us := X6r e [X73 e x]
      let e1 := Xa8 e us
      (match X73 e s with
      | .own g k => (match Nat.beq ty.kind 2 && Nat.beq ty2.kind 2 && Nat.beq ety.zero.size ty.esz && Nat.ble ty.eby 8589934592, X7f L e1 T2 (X73 e x), (e1 (.o g)).v with
        | true, .sl sz ys, .sl sz' rows => (match Nat.beq k (e1 (.o g)).k && (e1 (.o g)).live && Nat.beq sz sz' && Nat.beq sz ty.esz with
          | true => some ⟨us ++ [(.o g, ⟨(e1 (.o g)).k + 1, true, .sl sz (rows ++ ys)⟩), (.t d, ⟨0, false, .own g ((e1 (.o g)).k + 1)⟩)], (rows.length + ys.length) * ty.eby ≤ 35184372088832, rs⟩
          | false => Option.none)
        | _, _, _ => Option.none)
      | .nil => (match Nat.beq ty.kind 2 && Nat.beq ty2.kind 2 && Nat.beq ety.zero.size ty.esz && Nat.ble ty.eby 8589934592, X7f L e1 T2 (X73 e x) with
        | true, .sl sz ys => (match Nat.beq sz ty.esz with
          | true => some ⟨us ++ [(.o d, ⟨(e1 (.o d)).k + 1, true, .sl sz ys⟩), (.t d, ⟨0, false, .own d ((e1 (.o d)).k + 1)⟩)], ys.length * ty.eby ≤ 35184372088832, rs⟩
          | false => Option.none)
        | _, _ => Option.none)
      | _ => Option.none)
    | Option.none => Option.none)
  | _, _, _ => Option.none
def Xor (L : List (Nat × Ty)) (e : X7l) (o : Oper) (b : Builtin) (args : List Operand) (tys : List Nat) (rs : List AV) : Option Ef := match b, args, tys with
  | .len, [x], T :: _ => X4c L e o x T rs
  | .append, [s, x], [T, T2] => Xpn L e o s x T T2 rs
  | .min, _, _ => (match Xpe (args.map (X73 e)) with
    | some (k, n :: ns) => some ⟨Xda o (.int k (ns.foldl X6v n)), True, rs⟩
    | _ => Option.none)
  | .max, _, _ => (match Xpe (args.map (X73 e)) with
    | some (k, n :: ns) => some ⟨Xda o (.int k (ns.foldl X71 n)), True, rs⟩
    | _ => Option.none)
  | _, _, _ => Option.none
def Xks (L : List (Nat × Ty)) (e : X7l) (o : Oper) (T : Nat) (l c : Operand) (rs : List AV) : Option Ef := match Xdu L T, o.dst, X73 e l, X73 e c with
  | some ty, some d, .int _ n, .int _ m => (match Xdu L ty.elem with
    | some ety => (match Nat.beq ty.kind 2 && Nat.beq ety.zero.size ty.esz with
      | true => some ⟨[(.o d, ⟨(e (.o d)).k + 1, true, .sl ty.esz (List.replicate n.toNat ety.zero)⟩), (.t d, ⟨0, false, .own d ((e (.o d)).k + 1)⟩)], 0 ≤ n ∧ n ≤ m ∧ ty.eby * m.toNat ≤ 281474976710656, rs⟩
      | false => Option.none)
    | Option.none => Option.none)
  | _, _, _, _ => Option.none
def Xfp (L : List (Nat × Ty)) (e : X7l) (o : Oper) (T n : Nat) (parts : List (Nat × Operand)) (rs : List AV) : Option Ef := match Xdu L T, o.dst with
  | some ty, some d => (match Xdu L ty.elem with
    | some ety =>
      let xs := parts.map fun p => (ty.elem, X73 e p.2)
      let us := X6r e (xs.map (·.2))
      let e1 := Xa8 e us
      let ps := (parts.map (·.1)).zip (Xg6 L e1 xs)
      (match Nat.beq ty.kind 2 && Nat.beq ety.zero.size ty.esz && (Xg6 L e1 xs).all X70 && Xpq (fun i => some (i * ty.esz, ty.esz)) ps (.st (List.replicate n ety.zero)) && Nat.ble (n * ty.esz) 16777216, Xig ps (.st (List.replicate n ety.zero)) with
      | true, .st rows => (match Nat.beq rows.length n && rows.all (fun r => Nat.beq r.size ty.esz) with
        | true => some ⟨us ++ [(.o d, ⟨(e1 (.o d)).k + 1, true, .sl ty.esz rows⟩), (.t d, ⟨0, false, .own d ((e1 (.o d)).k + 1)⟩)], True, rs⟩
        | false => Option.none)
      | _, _ => Option.none)
    | Option.none => Option.none)
  | _, _ => Option.none
def Xra (e : X7l) (x : Option Operand) (n dflt : Nat) : Option Prop := match x with
  | Option.none => some (n = dflt)
  | some x => (match X73 e x with
    | .int _ m => some (m = (n : Int))
    | _ => Option.none)
def Xrc (L : List (Nat × Ty)) (e : X7l) (o : Oper) (T : Nat) (x : Operand) (lo hi mx : Option Operand) (rs : List AV) : Option Ef := match Xdu L T, rs with
  | some ty, .int _ l :: .int _ u :: rs =>
    let us := X6r e [X73 e x]
    let e1 := Xa8 e us
    (match Nat.beq ty.kind 2, X7f L e1 T (X73 e x) with
    | true, .sl sz rows => (match Nat.beq sz ty.esz && (mx.isNone || hi.isSome), Xra e lo l.toNat 0, Xra e hi u.toNat rows.length, Xra e mx u.toNat u.toNat with
      | true, some p1, some p2, some p3 => some ⟨us ++ Xda o (.sl sz ((rows.take u.toNat).drop l.toNat)), p1 ∧ p2 ∧ p3 ∧ l.toNat ≤ u.toNat ∧ u.toNat ≤ rows.length, rs⟩
      | _, _, _, _ => Option.none)
    | _, _ => Option.none)
  | _, _ => Option.none
def Xie (e : X7l) (o : Oper) (fn : Fn) (first caps : List Operand) (rs : List AV) : Option Ef := match fn, first, Xnu e (caps.map (X73 e)) with
  | .func f, [], true =>
    let us := Xqj e (caps.map (X73 e))
    some ⟨us ++ Xda o (.clo f (Xnx (caps.map (X73 e)))), True, rs⟩
  | _, _, _ => Option.none

def X5f (e : X7l) (o : Oper) (x : Operand) (rs : List AV) : Option Ef := match X73 e x with
  | .ptr d k off p => (match Nat.beq k (e (.b d)).k with
    | true => some ⟨Xda o (.ptr d k off p), True, rs⟩
    | false => Option.none)
  | .optr g k sz i off p => (match Nat.beq k (e (.o g)).k with
    | true => some ⟨Xda o (.optr g k sz i off p), True, rs⟩
    | false => Option.none)
  | _ => Option.none
def Xrx (P : Program) (L : List (Nat × Ty)) (e : X7l) (o : Oper) (rs : List AV) : Option Ef := match o.op with
  | .move x | .assign x => Xy0 e o x rs
  | .pick c x y => X0t e o c x y rs
  | .alloc T => Xwp L e o T rs
  | .box T x => X3y L e o T x rs
  | .build T parts => Xrn L e o T parts.toList rs
  | .buildSlice T n parts => Xfp L e o T n parts.toList rs
  | .load T x => Xxs L e o T x rs
  | .store T x y => Xrj L e o T x y rs
  | .binOp op T x y _ => X5e L e o op T x y rs
  | .unOp op _ x => X6o e o op x rs
  | .convert T T' x => X0l L e o T T' x rs
  | .makeFunc fn first caps => Xie e o fn first.toList caps.toList rs
  | .makeSlice T l c => Xks L e o T l c rs
  | .slice T x lo hi mx => Xrc L e o T x lo hi mx rs
  | .fieldAddr T x i => Xrq L e o T x i rs
  | .indexAddr T x ix => Xrr L e o T x ix rs
  | .extract x i => Xop e o x i rs
  | .nilCheck x => X5f e o x rs
  | .call c => (match c.callee with
    | .value x => Xxu P L e o x c.args.toList c.argTypes.toList rs
    | .builtin b => Xor L e o b c.args.toList c.argTypes.toList rs
    | _ => Option.none)
  | _ => Option.none

def Xwu : List (Loc × LV) → List AV → Option (List (Loc × LV) × List AV)
  | [], _ => Option.none
  | x :: r, q => match Xwu r q with
    | some (r', p) => some (x :: r', p)
    | Option.none => (match x with
      | (l, ⟨k, lv, .sl sz rows⟩) => some ((l, ⟨k, lv, .sl sz q⟩) :: r, rows)
      | _ => Option.none)
def X5g (e : X7l) (o : Oper) : Bool := match o.op with
  | .call c => (match c.callee with
    | .builtin _ => true
    | _ => false)
  | .makeSlice _ _ _ => true
  | .slice _ _ _ _ _ => true
  | .store _ x _ => (match X73 e x with
    | .optr _ _ _ _ _ _ => true
    | _ => false)
  | _ => false
def X5d (P : Program) (L : List (Nat × Ty)) (e : X7l) (o : Oper) (rs : List AV) : Option Ef := match rs with
  | .tup [.sl _ q] :: rs' => (match Xrx P L e o rs' with
    | some ef => (match Xwu ef.us q with
      | some (us', p) => some ⟨us', ef.ob ∧ q = p, ef.rs⟩
      | Option.none => Option.none)
    | Option.none => Option.none)
  | .tup [.int _ q] :: rs' => (match Xrx P L e o rs' with
    | some ⟨[(l, ⟨k, lv, .int kk c⟩)], p, rs2⟩ => some ⟨[(l, ⟨k, lv, .int kk q⟩)], p ∧ q = c, rs2⟩
    | _ => Option.none)
  | _ => Xrx P L e o rs
def Xw8 (L : List (Nat × Ty)) (e : X7l) (o : Oper) (x : Operand) (T : Nat) (rs : List AV) : Option Ef := match Xdu L T, X73 e x with
  | some ty, .win g k _ _ n => (match Nat.beq ty.kind 2 && Nat.beq k (e (.o g)).k with
    | true => some ⟨Xda o (.int .i64 n), True, rs⟩
    | false => Option.none)
  | _, _ => Option.none
def Xmz (L : List (Nat × Ty)) (e : X7l) (o : Oper) (T : Nat) (x ix : Operand) (rs : List AV) : Option Ef := match Xdu L T, X73 e x, X73 e ix with
  | some ty, .win g k sz lo n, .int _ m => (match Nat.beq ty.kind 2 && Nat.beq k (e (.o g)).k && Nat.beq sz ty.esz with
    | true => some ⟨Xda o (.optr g k sz (lo + m.toNat) 0 []), 0 ≤ m ∧ m.toNat < n, rs⟩
    | false => Option.none)
  | _, _, _ => Option.none
def Xnb (L : List (Nat × Ty)) (e : X7l) (o : Oper) (T : Nat) (x : Operand) (lo hi : Option Operand) (rs : List AV) : Option Ef := match Xdu L T, X73 e x, rs with
  | some ty, .own g k, .win _ _ _ l n :: rs' => (match (e (.o g)).v, Xra e lo l 0 with
    | .sl sz rows, some p1 => (match Xra e hi (l + n) rows.length, Nat.beq ty.kind 2 && Nat.beq k (e (.o g)).k && (e (.o g)).live && Nat.beq sz ty.esz with
      | some p2, true => some ⟨Xda o (.win g k sz l n), p1 ∧ p2 ∧ 0 < n ∧ l + n ≤ rows.length, rs'⟩
      | _, _ => Option.none)
    | _, _ => Option.none)
  | _, _, _ => Option.none
def Xrk (P : Program) (L : List (Nat × Ty)) (e : X7l) (o : Oper) (x : Operand) (args : List Operand) (tys : List Nat) (sz : Nat) (rows : List AV) (rs : List AV) : Option Ef := match X73 e x, o.dst with
  | .fn f, some d =>
    let us := X6r e (args.map (X73 e))
    let e1 := Xa8 e us
    let ds := Xg6 L e1 (tys.zip (args.map (X73 e)))
    (match Nat.beq tys.length args.length && ds.all X70 with
    | true => some ⟨us ++ [(.o d, ⟨(e1 (.o d)).k + 1, true, .sl sz rows⟩), (.t d, ⟨0, false, .own d ((e1 (.o d)).k + 1)⟩)], X7a P f ds sz rows, rs⟩
    | false => Option.none)
  | _, _ => Option.none
def Xq6 (P : Program) (L : List (Nat × Ty)) (e : X7l) (o : Oper) (x : Operand) (args : List Operand) (tys : List Nat) (all' : List AV) (r : AV) (rs : List AV) : Option Ef := match X73 e x, args, tys with
  | .fn f, y :: rest, _ :: tys => (match X73 e y with
    | .win g k sz lo n =>
      let us := X6r e (rest.map (X73 e))
      let e1 := Xa8 e us
      let ds := Xg6 L e1 (tys.zip (rest.map (X73 e)))
      (match (e1 (.o g)).v with
      | .sl sz2 all => (match Nat.beq k (e1 (.o g)).k && (e1 (.o g)).live && Nat.beq sz sz2 && Nat.beq tys.length rest.length && ds.all X70 with
        | true => some ⟨us ++ ((.o g, ⟨k, true, .sl sz all'⟩) :: Xda o r), CW P f sz lo n all ds all' r, rs⟩
        | false => Option.none)
      | _ => Option.none)
    | _ => Option.none)
  | _, _, _ => Option.none
def Xq4 (P : Program) (L : List (Nat × Ty)) (e : X7l) (o : Oper) (x : Operand) (args : List Operand) (tys : List Nat) (v' : AV) (r : AV) (rs : List AV) : Option Ef := match X73 e x, args, tys with
  | .fn f, y :: rest, _ :: tys => (match X73 e y with
    | .ptr d k off p =>
      let us := X6r e (rest.map (X73 e))
      let e1 := Xa8 e us
      let ds := Xg6 L e1 (tys.zip (rest.map (X73 e)))
      (match Nat.beq k (e1 (.b d)).k && (e1 (.b d)).live && Nat.beq off 0 && p.isEmpty && Nat.beq tys.length rest.length && ds.all X70 && X70 (e1 (.b d)).v with
      | true => some ⟨us ++ ((.b d, ⟨k, true, v'⟩) :: Xda o r), CB P f (e1 (.b d)).v.size (e1 (.b d)).v ds v' r, rs⟩
      | false => Option.none)
    | _ => Option.none)
  | _, _, _ => Option.none
def X3w (P : Program) (L : List (Nat × Ty)) (e : X7l) (o : Oper) (rs : List AV) : Option Ef := match o.op with
  | .call c => (match c.callee with
    | .builtin .len => (match c.args.toList, c.argTypes.toList with
      | [x], T :: _ => Xw8 L e o x T rs
      | _, _ => Option.none)
    | .value x => (match rs with
      | .own _ _ :: .sl sz rows :: rs' => Xrk P L e o x c.args.toList c.argTypes.toList sz rows rs'
      | .sl _ all' :: r :: rs' => Xq6 P L e o x c.args.toList c.argTypes.toList all' r rs'
      | .rptr v' :: r :: rs' => Xq4 P L e o x c.args.toList c.argTypes.toList v' r rs'
      | _ => Option.none)
    | _ => Option.none)
  | .indexAddr T x ix => Xmz L e o T x ix rs
  | .slice T x lo hi Option.none => Xnb L e o T x lo hi rs
  | _ => Option.none
def xOp (o : Oper) : Bool := match o.op with
  | .call _ => true
  | .indexAddr _ _ _ => true
  | .slice _ _ _ _ _ => true
  | _ => false
def X2a (P : Program) (L : List (Nat × Ty)) (e : X7l) (o : Oper) (rs : List AV) : Option Ef := match X5g e o with
  | true => X5d P L e o rs
  | false => Xrx P L e o rs
def tOp (o : Oper) : Bool := match o.op with
  | .load _ _ => true
  | .unOp _ _ _ => true
  | .extract _ _ => true
  | _ => false
def X5w (P : Program) (L : List (Nat × Ty)) (e : X7l) (o : Oper) (c : Bool) (rs' rs : List AV) : Option Ef := match X2a P L e o rs' with
  | some ⟨[(l, ⟨k, lv, .bool b⟩)], p, rs2⟩ => some ⟨[(l, ⟨k, lv, .bool c⟩)], p ∧ b = c, rs2⟩
  | _ => X2a P L e o rs
def X0i (P : Program) (L : List (Nat × Ty)) (e : X7l) (o : Oper) (rs : List AV) : Option Ef := match xOp o, tOp o, rs with
  | true, _, .rptr .none :: rs' => X3w P L e o rs'
  | _, true, .rptr (.bool c) :: rs' => X5w P L e o c rs' rs
  | _, _, _ => X2a P L e o rs
theorem Xt5 : ∀ {us us' : List (Loc × LV)} {q p : List AV}, Xwu us q = some (us', p) → q = p → us' = us
  | [], _, _, _, h, _ => by cases h
  | x :: r, us', q, p, h, hq => by
    unfold Xwu at h
    split at h
    · rename_i r' p' hr
      simp only [Option.some.injEq, Prod.mk.injEq] at h
      obtain ⟨rfl, rfl⟩ := h
      rw [Xt5 hr hq]
    · split at h
      · simp only [Option.some.injEq, Prod.mk.injEq] at h
        obtain ⟨rfl, rfl⟩ := h
        rw [hq]
      · cases h

def X7w (P : Program) (e : X7l) (o : Oper) (us : List (Loc × LV)) : Prop :=
  ∀ (C : Cx) (β : Nat → Nat) (ω : Nat → Value) (a : Act) (w : World) (K : Act → World → Prop) (Q : Exit → Act → World → Prop), R C β ω e a w → (∀ d, o.dst = some d → d < C.N) → (∀ β' ω' a' w', R C β' ω' (Xa8 e us) a' w' → K a' w') → o.wp P a w K Q

section
variable {P : Program} {L : List (Nat × Ty)} {e : X7l} {o : Oper} {rs : List AV} {ef : Ef}
theorem Xlt {v : AV} {ty : Ty} (h : Xrb v ty = true) : X70 v = true ∧ v.size = ty.size ∧ v.isSt = ty.agg := by
  unfold Xrb at h
  simp only [Bool.and_eq_true, beq_iff_eq] at h
  exact ⟨h.1.1, Nat.eq_of_beq_eq_true h.1.2, h.2⟩
theorem Xwx {x : Operand} (ho : o.op = .move x ∨ o.op = .assign x) (h : Xy0 e o x rs = some ef) : X7w P e o ef.us := by
  simp only [Xy0, Option.some.injEq] at h; subst h
  intro C β ω a w K Q hR hN hK
  exact X3k hR hN ho (fun a' h => hK _ _ _ _ h)
theorem X1r {c x y : Operand} (ho : o.op = .pick c x y) (h : X0t e o c x y rs = some ef) : X7w P e o ef.us := by
  unfold X0t at h; split at h
  · rename_i t hc
    simp only [Option.some.injEq] at h; subst h
    intro C β ω a w K Q hR hN hK
    exact X3u hR hN ho hc (fun a' h => hK _ _ _ _ h)
  · cases h
theorem Xy5 (hL : Xe4 P L) {T : Nat} (ho : o.op = .alloc T) (h : Xwp L e o T rs = some ef) : X7w P e o ef.us := by
  unfold Xwp at h; split at h
  · rename_i ty d hT hd
    simp only [Option.some.injEq] at h; subst h
    intro C β ω a w K Q hR hN hK
    exact X0b hL hR (hN d hd) ho hd hT (fun β' a' w' h => hK _ _ _ _ h)
  · cases h
theorem X3m {T : Nat} {x : Operand} (ho : o.op = .box T x) (h : X3y L e o T x rs = some ef) : X7w P e o ef.us := by
  unfold X3y at h; simp only at h; split at h
  · rename_i d hd hx
    simp only [Option.some.injEq] at h; subst h
    intro C β ω a w K Q hR hN hK
    exact X46 hR (hN d hd) ho hd rfl hx (fun β' a' w' h => hK _ _ _ _ (by rw [Xao]; exact h))
  · cases h
theorem X1b (hL : Xe4 P L) {T : Nat} {x : Operand} (ho : o.op = .load T x) (h : Xxs L e o T x rs = some ef) (hob : ef.ob) : X7w P e o ef.us := by
  unfold Xxs at h; split at h
  · cases h
  rename_i ty hT
  split at h
  · rename_i d k off p hx
    split at h
    · rename_i hc
      simp only [Bool.and_eq_true] at hc
      simp only [Option.some.injEq] at h; subst h
      obtain ⟨f1, f2, f3⟩ := Xlt hc.2
      intro C β ω a w K Q hR hN hK
      exact Xvd hL hR hN ho hx hT (Nat.eq_of_beq_eq_true hc.1.1) (Nat.eq_of_beq_eq_true hc.1.2) f1 f2 f3 (fun a' h => hK _ _ _ _ h)
    · cases h
  · rename_i v hx
    split at h
    · rename_i hc
      simp only [Option.some.injEq] at h; subst h
      obtain ⟨f1, f2, f3⟩ := Xlt hc
      intro C β ω a w K Q hR hN hK
      exact Xxi hL hR hN ho hx hT f1 f2 f3 (fun a' h => hK _ _ _ _ h)
    · cases h
  · rename_i g k sz i off p hx
    split at h
    · rename_i sz' rows r rs' hv
      split at h
      · rename_i hc
        simp only [Bool.and_eq_true] at hc
        simp only [Option.some.injEq] at h; subst h
        obtain ⟨f1, f2, f3⟩ := Xlt hc.2
        have e2 := Nat.eq_of_beq_eq_true hc.1.1.2
        subst e2
        intro C β ω a w K Q hR hN hK
        exact Xu0 hL hR hN ho hT hx (Nat.eq_of_beq_eq_true hc.1.1.1.1) hc.1.1.1.2 hv hob (Nat.eq_of_beq_eq_true hc.1.2) f1 f2 f3 (fun a' h => hK _ _ _ _ h)
      · cases h
    · cases h
  · cases h
theorem Xyq (hL : Xe4 P L) {T : Nat} {x y : Operand} (ho : o.op = .store T x y) (h : Xrj L e o T x y rs = some ef) (hob : ef.ob) : X7w P e o ef.us := by
  unfold Xrj at h; simp only at h; split at h
  · cases h
  rename_i ty hT
  split at h
  · rename_i d k off p hx
    split at h
    · rename_i hc
      simp only [Bool.and_eq_true] at hc
      simp only [Option.some.injEq] at h; subst h
      obtain ⟨⟨⟨⟨⟨⟨c1, c2⟩, c3⟩, c4⟩, c5⟩, c6⟩, c7⟩ := hc
      intro C β ω a w K Q hR hN hK
      exact Xs1 hL hR hN ho hx hT rfl c1 (Nat.eq_of_beq_eq_true c2) c3 (Nat.eq_of_beq_eq_true c4) c5 (Nat.eq_of_beq_eq_true c6) (Nat.eq_of_beq_eq_true c7) (fun a' w' h => hK _ _ _ _ (by rw [Xao]; exact h))
    · cases h
  · rename_i g k sz i off p hx
    split at h
    · rename_i sz' rows r rs' hv
      split at h
      · rename_i hc
        simp only [Bool.and_eq_true] at hc
        simp only [Option.some.injEq] at h; subst h
        obtain ⟨⟨⟨⟨⟨⟨⟨c1, c2⟩, c3⟩, c4⟩, c5⟩, c6⟩, c7⟩, c8⟩ := hc
        have e2 := Nat.eq_of_beq_eq_true c4
        subst e2
        intro C β ω a w K Q hR hN hK
        exact Xs6 hL hR hN ho hT hx rfl c1 (Nat.eq_of_beq_eq_true c2) c3 hv hob (Nat.eq_of_beq_eq_true c5) c6 (Nat.eq_of_beq_eq_true c7) (Nat.eq_of_beq_eq_true c8) (fun a' w' h => hK _ _ _ _ (by rw [Xao]; exact h))
      · cases h
    · cases h
  · cases h
theorem Xyj (hL : Xe4 P L) {T i : Nat} {x : Operand} (ho : o.op = .fieldAddr T x i) (h : Xrq L e o T x i rs = some ef) : X7w P e o ef.us := by
  unfold Xrq at h; split at h
  · cases h
  rename_i ty hT
  split at h
  · rename_i ofs s t hf hk
    have hk := Nat.eq_of_beq_eq_true hk
    split at h
    · rename_i d k off p hx
      split at h
      · rename_i hc
        simp only [Option.some.injEq] at h; subst h
        intro C β ω a w K Q hR hN hK
        exact Xs0 hL hR hN ho hx hT hk hf (fun a' h => hK _ _ _ _ h) (Nat.eq_of_beq_eq_true hc)
      · cases h
    · rename_i g k sz n off p hx
      split at h
      · rename_i hc
        simp only [Option.some.injEq] at h; subst h
        intro C β ω a w K Q hR hN hK
        exact Xtz hL hR hN ho hx hT hk hf (fun a' h => hK _ _ _ _ h) (Nat.eq_of_beq_eq_true hc)
      · cases h
    · rename_i v hx
      split at h
      · rename_i hc
        simp only [Bool.and_eq_true] at hc
        simp only [Option.some.injEq] at h; subst h
        intro C β ω a w K Q hR hN hK
        exact Xum hL hR hN ho hx hT hk hf hc.1 (Nat.eq_of_beq_eq_true hc.2) (fun a' h => hK _ _ _ _ h)
      · cases h
    · cases h
  · cases h
theorem Xwj (hL : Xe4 P L) {op : BinOp} {T T' : Nat} {x y : Operand} (ho : o.op = .binOp op T x y T') (h : Xz8 L e o op T x y rs = some ef) (hob : ef.ob) : X7w P e o ef.us := by
  unfold Xz8 at h; split at h
  · rename_i k m k' n hx hy
    split at h
    · rename_i hkk
      have hkk := of_decide_eq_true hkk
      subst hkk
      split at h
      · rename_i b hb
        simp only [Option.some.injEq] at h; subst h
        intro C β ω a w K Q hR hN hK
        exact X4a hR hN ho hx hy hb (fun a' h => hK _ _ _ _ h)
      · split at h
        · split at h
          · simp only [Option.some.injEq] at h; subst h
            intro C β ω a w K Q hR hN hK
            exact X5a hR hN ho hx hy hob.1 hob.2 (fun a' h => hK _ _ _ _ h)
          · cases h
        · cases h
    · cases h
  · rename_i m n hx hy
    split at h
    · rename_i ty hT
      split at h
      · rename_i hk
        simp only [Option.some.injEq] at h; subst h
        intro C β ω a w K Q hR hN hK
        exact X19 hL hR hN ho hx hy hT (Nat.eq_of_beq_eq_true hk) (.inl ⟨rfl, rfl⟩) (fun a' h => hK _ _ _ _ h)
      · rename_i hk
        simp only [Option.some.injEq] at h; subst h
        intro C β ω a w K Q hR hN hK
        exact X19 hL hR hN ho hx hy hT (Nat.eq_of_beq_eq_true hk) (.inr ⟨rfl, rfl⟩) (fun a' h => hK _ _ _ _ h)
      · cases h
    · cases h
  · cases h
theorem X2i (hL : Xe4 P L) {op : BinOp} {T T' : Nat} {x y : Operand} (ho : o.op = .binOp op T x y T') (h : X5e L e o op T x y rs = some ef) (hob : ef.ob) : X7w P e o ef.us := by
  unfold X5e at h; split at h
  · split at h
    · rename_i hb
      simp only [Option.some.injEq] at h; subst h
      obtain ⟨hp, rfl⟩ := hob
      have := Xwj hL ho hb hp
      exact this
    · cases h
  · exact Xwj hL ho h hob
theorem X4y {op : UnOp} {T : Nat} {x : Operand} (ho : o.op = .unOp op T x) (h : X6o e o op x rs = some ef) (hob : ef.ob) : X7w P e o ef.us := by
  unfold X6o at h; split at h
  · rename_i b hx
    simp only [Option.some.injEq] at h; subst h
    intro C β ω a w K Q hR hN hK
    exact X4o hR hN ho hx (fun a' h => hK _ _ _ _ h)
  · rename_i k n hx
    split at h
    · split at h
      · simp only [Option.some.injEq] at h; subst h
        intro C β ω a w K Q hR hN hK
        exact X35 hR hN ho hx hob (fun a' h => hK _ _ _ _ h)
      · cases h
    · cases h
  · cases h
theorem X1p (hL : Xe4 P L) {T T' : Nat} {x : Operand} (ho : o.op = .convert T T' x) (h : X0l L e o T T' x rs = some ef) (hob : ef.ob) : X7w P e o ef.us := by
  unfold X0l at h; split at h
  · rename_i k n ty ty' k' r rs' hx hT hT'
    split at h
    · rename_i hc
      simp only [Bool.and_eq_true, decide_eq_true_eq] at hc
      obtain ⟨⟨c1, c2⟩, c3⟩ := hc
      subst c3
      simp only [Option.some.injEq] at h; subst h
      intro C β ω a w K Q hR hN hK
      exact X2o hL hR hN ho hx hT (Nat.eq_of_beq_eq_true c1) hT' (Nat.eq_of_beq_eq_true c2) hob (fun a' h => hK _ _ _ _ h)
    · cases h
  · cases h
theorem Xu1 {x : Operand} {i : Nat} (ho : o.op = .extract x i) (h : Xop e o x i rs = some ef) : X7w P e o ef.us := by
  unfold Xop at h; split at h
  · rename_i vs hx
    split at h
    · rename_i hd
      simp only [Option.some.injEq] at h; subst h
      intro C β ω a w K Q hR hN hK
      exact Xx3 hR hN ho hx hd (fun a' h => hK _ _ _ _ h)
    · cases h
  · cases h
end
open Go Go.RowKit

section
variable {P : Program} {L : List (Nat × Ty)} {e : X7l} {o : Oper} {rs : List AV} {ef : Ef}
theorem Xyr (hL : Xe4 P L) {T : Nat} {x ix : Operand} (ho : o.op = .indexAddr T x ix) (h : Xrr L e o T x ix rs = some ef) (hob : ef.ob) : X7w P e o ef.us := by
  unfold Xrr at h; split at h
  · rename_i ty kk n hT hi
    split at h
    · rename_i hk
      have hk := Nat.eq_of_beq_eq_true hk
      split at h
      · rename_i sz rows hx
        split at h
        · rename_i r rs'
          split at h
          · rename_i hc
            simp only [Bool.and_eq_true] at hc
            simp only [Option.some.injEq] at h; subst h
            intro C β ω a w K Q hR hN hK
            exact Xpo hL hR hN ho hT hk (by rw [hx]; rfl) hi (Int.toNat_of_nonneg hob.1).symm (Nat.eq_of_beq_eq_true hc.1) hob.2 hc.2 (fun a' h => hK _ _ _ _ h)
          · cases h
        · cases h
      · rename_i g k hx
        split at h
        · rename_i sz rows hv
          split at h
          · rename_i hc
            simp only [Bool.and_eq_true] at hc
            split at h
            · rename_i hl
              simp only [Option.some.injEq] at h; subst h
              intro C β ω a w K Q hR hN hK
              exact Xs8 hL hR hN ho hT hk hx (Nat.eq_of_beq_eq_true hc.1) hl hv hi (Int.toNat_of_nonneg hob.1).symm (Nat.eq_of_beq_eq_true hc.2) hob.2 (fun a' h => hK _ _ _ _ h)
            · rename_i hl
              split at h
              · rename_i r rs'
                split at h
                · rename_i hd
                  simp only [Option.some.injEq] at h; subst h
                  intro C β ω a w K Q hR hN hK
                  exact Xpo hL hR hN ho hT hk (by rw [hx]; simp only [Xuk]; rw [hc.1, hl]; simpa using hv) hi (Int.toNat_of_nonneg hob.1).symm (Nat.eq_of_beq_eq_true hc.2) hob.2 hd (fun a' h => hK _ _ _ _ h)
                · cases h
              · cases h
          · cases h
        · cases h
      · cases h
    · split at h
      · rename_i hk
        have hk := Nat.eq_of_beq_eq_true hk
        split at h
        · rename_i d k off p hx
          split at h
          · rename_i hc
            simp only [Option.some.injEq] at h; subst h
            intro C β ω a w K Q hR hN hK
            exact Xs7 hL hR hN ho hT hk hx (Nat.eq_of_beq_eq_true hc) hi (Int.toNat_of_nonneg hob.1).symm hob.2 (fun a' h => hK _ _ _ _ h)
          · cases h
        · rename_i v hx
          split at h
          · rename_i hc
            simp only [Bool.and_eq_true] at hc
            simp only [Option.some.injEq] at h; subst h
            intro C β ω a w K Q hR hN hK
            exact Xqs hL hR hN ho hT hk hx hi (Int.toNat_of_nonneg hob.1).symm hob.2 hc.1 (Nat.eq_of_beq_eq_true hc.2) (fun a' h => hK _ _ _ _ h)
          · cases h
        · cases h
      · cases h
  · cases h
theorem Xy3 (hL : Xe4 P L) {T : Nat} {parts : Array (Nat × Operand)} (ho : o.op = .build T parts) (h : Xrn L e o T parts.toList rs = some ef) : X7w P e o ef.us := by
  unfold Xrn at h; split at h
  · cases h
  rename_i ty hT
  simp only at h
  split at h
  · rename_i hc
    simp only [Bool.and_eq_true, List.all_eq_true] at hc
    obtain ⟨⟨⟨⟨c1, c2⟩, c3⟩, c4⟩, c5⟩ := hc
    simp only [Option.some.injEq] at h; subst h
    intro C β ω a w K Q hR hN hK
    exact X0n hL hR hN ho hT (Nat.eq_of_beq_eq_true c1) c2 rfl rfl rfl c3 c4 c5 (fun a' h => hK _ _ _ _ (by rw [Xao]; exact h))
  · cases h
theorem X0y {c : Call} {x : Operand} (ho : o.op = .call c) (hc : c.callee = .value x) (h : Xxu P L e o x c.args.toList c.argTypes.toList rs = some ef) (hob : ef.ob) : X7w P e o ef.us := by
  unfold Xxu at h; simp only at h; split at h
  · rename_i f r rs' hx
    split at h
    · rename_i hcc
      simp only [Bool.and_eq_true, List.all_eq_true] at hcc
      simp only [Option.some.injEq] at h; subst h
      intro C β ω a w K Q hR hN hK
      exact X28 hR hN ho hc hx rfl (by simpa using Nat.eq_of_beq_eq_true hcc.1) rfl hcc.2 hob (fun a' w' h => hK _ _ _ _ (by rw [Xao]; exact h))
    · cases h
  · rename_i f caps r rs' hx
    split at h
    · rename_i hcc
      simp only [Bool.and_eq_true, List.all_eq_true] at hcc
      simp only [Option.some.injEq] at h; subst h
      intro C β ω a w K Q hR hN hK
      exact Xxz hR hN ho hc hx rfl (by simpa using Nat.eq_of_beq_eq_true hcc.1.1) rfl hcc.1.2 hcc.2 hob (fun a' w' h => hK _ _ _ _ (by rw [Xao]; exact h))
    · cases h
  · cases h
theorem Xqd : ∀ {l : List AV} {k : IntKind} {ns : List Int}, Xpe l = some (k, ns) → l = ns.map (AV.int k)
  | [], k, ns, h => by simp [Xpe] at h
  | [v], k, ns, h => by
    cases v <;> simp [Xpe] at h
    obtain ⟨rfl, rfl⟩ := h; rfl
  | v :: u :: r, k, ns, h => by
    cases v <;> simp only [Xpe] at h <;> try (cases h; done)
    rename_i k1 n1
    split at h
    · rename_i k' ns' h'
      split at h
      · rename_i hk
        have hk := of_decide_eq_true hk
        subst hk
        simp only [Option.some.injEq, Prod.mk.injEq] at h
        obtain ⟨rfl, rfl⟩ := h
        rw [Xqd h']; rfl
      · cases h
    · cases h
theorem Xux (hL : Xe4 P L) {c : Call} {b : Builtin} (ho : o.op = .call c) (hc : c.callee = .builtin b) (h : Xor L e o b c.args.toList c.argTypes.toList rs = some ef) (hob : ef.ob) : X7w P e o ef.us := by
  unfold Xor at h; split at h
  · rename_i x T ts hargs htys
    have hargs : c.args = #[x] := by rw [← Array.toList_inj, hargs]
    have htys' : c.argTypes[0]? = some T := by rw [← Array.getElem?_toList, htys]; rfl
    unfold X4c at h; split at h
    · cases h
    rename_i ty hT
    split at h
    · cases h
    rename_i hk
    have hk := Nat.eq_of_beq_eq_true hk
    split at h
    · rename_i sz rows hx
      simp only [Option.some.injEq] at h; subst h
      intro C β ω a w K Q hR hN hK
      exact Xwo hL hR hN ho hc hargs htys' hT hk (.inl ⟨sz, rows, by rw [hx]; rfl, rfl⟩) (fun a' h => hK _ _ _ _ h)
    · rename_i hx
      simp only [Option.some.injEq] at h; subst h
      intro C β ω a w K Q hR hN hK
      exact Xwo hL hR hN ho hc hargs htys' hT hk (.inr (.inl ⟨by rw [hx]; rfl, rfl⟩)) (fun a' h => hK _ _ _ _ h)
    · rename_i g k hx
      split at h
      · rename_i sz rows hv
        split at h
        · rename_i hcc
          simp only [Option.some.injEq] at h; subst h
          intro C β ω a w K Q hR hN hK
          cases hl : (e (.o g)).live with
          | true => exact Xwo hL hR hN ho hc hargs htys' hT hk (.inr (.inr ⟨g, k, sz, rows, hx, Nat.eq_of_beq_eq_true hcc, hl, hv, rfl⟩)) (fun a' h => hK _ _ _ _ h)
          | false => exact Xwo hL hR hN ho hc hargs htys' hT hk (.inl ⟨sz, rows, by rw [hx]; simp only [Xuk]; rw [hcc, hl]; simpa using hv, rfl⟩) (fun a' h => hK _ _ _ _ h)
        · cases h
      · cases h
    · cases h
  · rename_i s x T T2 hargs htys
    have hargs : c.args = #[s, x] := by rw [← Array.toList_inj, hargs]
    have htys' : c.argTypes = #[T, T2] := by rw [← Array.toList_inj, htys]
    unfold Xpn at h; split at h
    · rename_i ty ty2 d hT hT2 hd
      split at h
      · rename_i ety hE
        simp only at h
        split at h
        · rename_i g k hs
          split at h
          · rename_i sz ys sz' rows hcc hx hv
            simp only [Bool.and_eq_true] at hcc
            obtain ⟨⟨⟨c1, c2⟩, c3⟩, c4⟩ := hcc
            split at h
            · rename_i hq
              simp only [Bool.and_eq_true] at hq
              obtain ⟨⟨⟨q1, q2⟩, q3⟩, q4⟩ := hq
              have q3 := Nat.eq_of_beq_eq_true q3
              subst q3
              simp only [Option.some.injEq] at h; subst h
              intro C β ω a w K Q hR hN hK
              exact Xtk hL hR (hN d hd) ho hd hc hargs htys' hT (Nat.eq_of_beq_eq_true c1) hT2 (Nat.eq_of_beq_eq_true c2) hE (Nat.eq_of_beq_eq_true c3) rfl (Nat.eq_of_beq_eq_true q4) (.inl ⟨k, hs, Nat.eq_of_beq_eq_true q1, q2, hv⟩) hx hob (Nat.le_of_ble_eq_true c4)
                (fun ω' a' w' h => hK _ _ _ _ (by rw [Xao]; exact h))
            · cases h
          · cases h
        · rename_i hs
          split at h
          · rename_i sz ys hcc hx
            simp only [Bool.and_eq_true] at hcc
            obtain ⟨⟨⟨c1, c2⟩, c3⟩, c4⟩ := hcc
            split at h
            · rename_i q4
              simp only [Option.some.injEq] at h; subst h
              intro C β ω a w K Q hR hN hK
              exact Xtk hL hR (hN d hd) ho hd hc hargs htys' hT (Nat.eq_of_beq_eq_true c1) hT2 (Nat.eq_of_beq_eq_true c2) hE (Nat.eq_of_beq_eq_true c3) rfl (Nat.eq_of_beq_eq_true q4) (g := d) (rows := []) (.inr ⟨hs, rfl, rfl⟩) hx (by simpa using hob) (Nat.le_of_ble_eq_true c4)
                (fun ω' a' w' h => hK _ _ _ _ (by rw [Xao]; exact h))
            · cases h
          · cases h
        · cases h
      · cases h
    · cases h
  · split at h
    · rename_i k n ns hi
      simp only [Option.some.injEq] at h; subst h
      intro C β ω a w K Q hR hN hK
      exact Xtl hR hN ho (Xqd hi) (.inl ⟨hc, rfl⟩) (fun a' h => hK _ _ _ _ h)
    · cases h
  · split at h
    · rename_i k n ns hi
      simp only [Option.some.injEq] at h; subst h
      intro C β ω a w K Q hR hN hK
      exact Xtl hR hN ho (Xqd hi) (.inr ⟨hc, rfl⟩) (fun a' h => hK _ _ _ _ h)
    · cases h
  · cases h
theorem Xsl (hL : Xe4 P L) {T : Nat} {l c : Operand} (ho : o.op = .makeSlice T l c) (h : Xks L e o T l c rs = some ef) (hob : ef.ob) : X7w P e o ef.us := by
  unfold Xks at h; split at h
  · rename_i ty d kl n km m hT hd hl hc
    split at h
    · rename_i ety hE
      split at h
      · rename_i hcc
        simp only [Bool.and_eq_true] at hcc
        simp only [Option.some.injEq] at h; subst h
        obtain ⟨o1, o2, o3⟩ := hob
        have hk := Nat.eq_of_beq_eq_true hcc.1
        obtain ⟨_, i', t2, t3, t4, t5, t6⟩ := Xep (Xau hL hT) hk
        have o4 : m.toNat ≤ 281474976710656 := Nat.le_trans (Nat.le_mul_of_pos_left _ (by omega)) o3
        intro C β ω a w K Q hR hN hK
        exact Xta hL hR (hN d hd) ho hd hT hk hE hl hc (Int.toNat_of_nonneg o1).symm (Int.toNat_of_nonneg (by omega)).symm (by omega) o3 (Nat.eq_of_beq_eq_true hcc.2) (by omega) (fun ω' a' w' h => hK _ _ _ _ h)
      · cases h
    · cases h
  · cases h
theorem Xqt (hL : Xe4 P L) {T n : Nat} {parts : Array (Nat × Operand)} (ho : o.op = .buildSlice T n parts) (h : Xfp L e o T n parts.toList rs = some ef) : X7w P e o ef.us := by
  unfold Xfp at h; split at h
  · rename_i ty d hT hd
    split at h
    · rename_i ety hE
      simp only at h
      split at h
      · rename_i rows hcc hrows
        simp only [Bool.and_eq_true, List.all_eq_true] at hcc
        obtain ⟨⟨⟨⟨c1, c2⟩, c3⟩, c4⟩, c5⟩ := hcc
        split at h
        · rename_i hq
          simp only [Bool.and_eq_true, List.all_eq_true] at hq
          simp only [Option.some.injEq] at h; subst h
          intro C β ω a w K Q hR hN hK
          exact Xr9 hL hR (hN d hd) ho hd hT (Nat.eq_of_beq_eq_true c1) hE (Nat.eq_of_beq_eq_true c2) rfl rfl rfl c3 c4 hrows (Nat.eq_of_beq_eq_true hq.1) (fun r hr => Nat.eq_of_beq_eq_true (hq.2 r hr)) (Nat.le_of_ble_eq_true c5)
            (fun ω' a' w' h => hK _ _ _ _ (by rw [Xao]; exact h))
        · cases h
      · cases h
    · cases h
  · cases h
theorem Xqa {x : Option Operand} {n d : Nat} {p : Prop} (h : Xra e x n d = some p) (hp : p) : Xxc e x n d := by
  unfold Xra at h; split at h
  · simp only [Option.some.injEq] at h; subst h; exact hp
  · rename_i x
    split at h
    · rename_i k m hx
      simp only [Option.some.injEq] at h; subst h
      exact ⟨k, m, hx, hp⟩
    · cases h
theorem Xyo (hL : Xe4 P L) {T : Nat} {x : Operand} {lo hi mx : Option Operand} (ho : o.op = .slice T x lo hi mx) (h : Xrc L e o T x lo hi mx rs = some ef) (hob : ef.ob) : X7w P e o ef.us := by
  unfold Xrc at h; split at h
  · rename_i ty k1 l k2 u rs' hT
    simp only at h
    split at h
    · rename_i sz rows hk hx
      split at h
      · rename_i p1 p2 p3 hsz hp1 hp2 hp3
        simp only [Bool.and_eq_true] at hsz
        simp only [Option.some.injEq] at h; subst h
        obtain ⟨o1, o2, o2', o3, o4⟩ := hob
        intro C β ω a w K Q hR hN hK
        refine X1q hL hR hN ho hT (Nat.eq_of_beq_eq_true hk) rfl hx (Nat.eq_of_beq_eq_true hsz.1) (Xqa hp1 o1) (Xqa hp2 o2) (m := u.toNat) ?_ o3 o4 (fun a' h => hK _ _ _ _ (by rw [Xao]; exact h))
        cases mx with
        | none => trivial
        | some y =>
          refine ⟨by simpa using hsz.2, ?_, o4, Nat.le_refl _⟩
          have := Xqa hp3 o2'
          exact this
      · cases h
    · cases h
  · cases h
theorem Xtc {fn : Fn} {first caps : Array Operand} (ho : o.op = .makeFunc fn first caps) (h : Xie e o fn first.toList caps.toList rs = some ef) : X7w P e o ef.us := by
  unfold Xie at h; split at h
  · rename_i f hf hc
    simp only [Option.some.injEq] at h; subst h
    have hf : first = #[] := by rw [← Array.toList_inj, hf]
    subst hf
    intro C β ω a w K Q hR hN hK
    exact Xu6 hR hN ho hc rfl (fun a' h => hK _ _ _ _ (by rw [Xao]; exact h))
  · cases h

theorem X3d {x : Operand} (ho : o.op = .nilCheck x) (h : X5f e o x rs = some ef) : X7w P e o ef.us := by
  unfold X5f at h; split at h
  · rename_i d k off p hx
    split at h
    · rename_i hk
      simp only [Option.some.injEq] at h; subst h
      intro C β ω a w K Q hR hN hK
      have hv := Xat hR x
      rw [hx] at hv
      have hpv := hv.2 (Nat.eq_of_beq_eq_true hk)
      have : (execOp a.eval o).run P w = .ok (.value (a.eval x)) w := by
        unfold execOp; rw [ho]; simp only [hpv]; rfl
      exact Xbv this (hK _ _ _ _ (Xd5 hR hN hv))
    · cases h
  · rename_i g k sz i off p hx
    split at h
    · rename_i hk
      simp only [Option.some.injEq] at h; subst h
      intro C β ω a w K Q hR hN hK
      have hv := Xat hR x
      rw [hx] at hv
      obtain ⟨blk, _, hpv⟩ := hv.2 (Nat.eq_of_beq_eq_true hk)
      have : (execOp a.eval o).run P w = .ok (.value (a.eval x)) w := by
        unfold execOp; rw [ho]; simp only [hpv]; rfl
      exact Xbv this (hK _ _ _ _ (Xd5 hR hN hv))
    · cases h
  · cases h
theorem Xrw (hL : Xe4 P L) (h : Xrx P L e o rs = some ef) (hob : ef.ob) : X7w P e o ef.us := by
  unfold Xrx at h; split at h
  · rename_i x ho; exact Xwx (.inl ho) h
  · rename_i x ho; exact Xwx (.inr ho) h
  · rename_i ho; exact X1r ho h
  · rename_i ho; exact Xy5 hL ho h
  · rename_i ho; exact X3m ho h
  · rename_i ho; exact Xy3 hL ho h
  · rename_i ho; exact Xqt hL ho h
  · rename_i ho; exact X1b hL ho h hob
  · rename_i ho; exact Xyq hL ho h hob
  · rename_i ho; exact X2i hL ho h hob
  · rename_i ho; exact X4y ho h hob
  · rename_i ho; exact X1p hL ho h hob
  · rename_i ho; exact Xtc ho h
  · rename_i ho; exact Xsl hL ho h hob
  · rename_i ho; exact Xyo hL ho h hob
  · rename_i ho; exact Xyj hL ho h
  · rename_i ho; exact Xyr hL ho h hob
  · rename_i ho; exact Xu1 ho h
  · rename_i ho; exact X3d ho h
  · rename_i c ho
    split at h
    · rename_i hc; exact X0y ho hc h hob
    · rename_i hc; exact Xux hL ho hc h hob
    · cases h
  · cases h
theorem X3e (hL : Xe4 P L) (h : X5d P L e o rs = some ef) (hob : ef.ob) : X7w P e o ef.us := by
  unfold X5d at h; split at h
  · split at h
    · rename_i ef0 h0
      split at h
      · rename_i us' p hr
        simp only [Option.some.injEq] at h; subst h
        obtain ⟨o1, o2⟩ := hob
        have := Xt5 hr o2
        show X7w P e o us'
        rw [this]
        exact Xrw hL h0 o1
      · cases h
    · cases h
  · split at h
    · rename_i h0
      simp only [Option.some.injEq] at h; subst h
      obtain ⟨o1, rfl⟩ := hob
      have := Xrw hL h0 o1
      exact this
    · cases h
  · exact Xrw hL h hob
theorem Xuu (hL : Xe4 P L) (h : X2a P L e o rs = some ef) (hob : ef.ob) : X7w P e o ef.us := by
  unfold X2a at h; split at h
  · exact X3e hL h hob
  · exact Xrw hL h hob
theorem X0f (hL : Xe4 P L) {c : Call} {x : Operand} {T : Nat} {tr : List Nat} (ho : o.op = .call c) (hc : c.callee = .builtin .len) (ha : c.args.toList = [x]) (ht : c.argTypes.toList = T :: tr) (h : Xw8 L e o x T rs = some ef) : X7w P e o ef.us := by
  unfold Xw8 at h; split at h
  · rename_i ty g k sz lo n hT hx
    split at h
    · rename_i hk
      simp only [Bool.and_eq_true] at hk
      simp only [Option.some.injEq] at h; subst h
      intro C β ω a w K Q hR hN hK
      exact Xw9 hL hR hN ho hc (by rw [← Array.toList_inj, ha]) (by rw [← Array.getElem?_toList, ht]; rfl) hT (Nat.eq_of_beq_eq_true hk.1) hx (Nat.eq_of_beq_eq_true hk.2) (fun a' h => hK _ _ _ _ h)
    · cases h
  · cases h
theorem Xx4 (hL : Xe4 P L) {T : Nat} {x ix : Operand} (ho : o.op = .indexAddr T x ix) (h : Xmz L e o T x ix rs = some ef) (hob : ef.ob) : X7w P e o ef.us := by
  unfold Xmz at h; split at h
  · rename_i ty g k sz lo n kk m hT hx hi
    split at h
    · rename_i hk
      simp only [Bool.and_eq_true] at hk
      simp only [Option.some.injEq] at h; subst h
      intro C β ω a w K Q hR hN hK
      exact Xtt hL hR hN ho hT (Nat.eq_of_beq_eq_true hk.1.1) hx (Nat.eq_of_beq_eq_true hk.1.2) hi (Int.toNat_of_nonneg hob.1).symm (Nat.eq_of_beq_eq_true hk.2) hob.2 (fun a' h => hK _ _ _ _ h)
    · cases h
  · cases h
theorem Xxq (hL : Xe4 P L) {T : Nat} {x : Operand} {lo hi : Option Operand} (ho : o.op = .slice T x lo hi Option.none) (h : Xnb L e o T x lo hi rs = some ef) (hob : ef.ob) : X7w P e o ef.us := by
  unfold Xnb at h; split at h
  · rename_i ty g k k1 k2 k3 l n rs' hT hx
    split at h
    · rename_i sz rows p1 hv hp1
      split at h
      · rename_i p2 hp2 hk
        simp only [Bool.and_eq_true] at hk
        simp only [Option.some.injEq] at h; subst h
        obtain ⟨o1, o2, o3, o4⟩ := hob
        intro C β ω a w K Q hR hN hK
        exact Xt1 hL hR hN ho hT (Nat.eq_of_beq_eq_true hk.1.1.1) hx (Nat.eq_of_beq_eq_true hk.1.1.2) hk.1.2 hv (Nat.eq_of_beq_eq_true hk.2) (Xqa hp1 o1) (Xqa hp2 o2) o3 o4 (fun a' h => hK _ _ _ _ h)
      · cases h
    · cases h
  · cases h
theorem Xz3 {c : Call} {x : Operand} {sz : Nat} {rows : List AV} (ho : o.op = .call c) (hc : c.callee = .value x) (h : Xrk P L e o x c.args.toList c.argTypes.toList sz rows rs = some ef) (hob : ef.ob) : X7w P e o ef.us := by
  unfold Xrk at h; split at h
  · rename_i f d hx hd
    simp only at h
    split at h
    · rename_i hk
      rw [Bool.and_eq_true, List.all_eq_true] at hk
      simp only [Option.some.injEq] at h; subst h
      intro C β ω a w K Q hR hN hK
      exact X1f (L := L) hR (hN d hd) hd ho hc hx rfl (Nat.eq_of_beq_eq_true hk.1) hk.2 hob (fun ω' a' w' h => hK _ _ _ _ (by rw [Xao]; exact h))
    · cases h
  · cases h
theorem Xy4 {c : Call} {x : Operand} {all' : List AV} {r : AV} (ho : o.op = .call c) (hc : c.callee = .value x) (h : Xq6 P L e o x c.args.toList c.argTypes.toList all' r rs = some ef) (hob : ef.ob) : X7w P e o ef.us := by
  unfold Xq6 at h; split at h
  · rename_i f y rest t0 tys hx ha ht
    split at h
    · rename_i g k sz lo n hy
      simp only at h
      split at h
      · rename_i sz2 all hv
        split at h
        · rename_i hk
          simp only [Bool.and_eq_true, List.all_eq_true] at hk
          simp only [Option.some.injEq] at h; subst h
          obtain ⟨⟨⟨⟨c1, c2⟩, c3⟩, c4⟩, c5⟩ := hk
          have c3 := Nat.eq_of_beq_eq_true c3
          subst c3
          intro C β ω a w K Q hR hN hK
          exact X0g (L := L) (t0 := t0) hR hN ho hc hx ha hy rfl (Nat.eq_of_beq_eq_true c1) c2 hv (Nat.eq_of_beq_eq_true c4) c5 hob (fun a' w' h => hK _ _ _ _ (by rw [Xao]; exact h))
        · cases h
      · cases h
    · cases h
  · cases h
theorem Xyi {c : Call} {x : Operand} {v' : AV} {r : AV} (ho : o.op = .call c) (hc : c.callee = .value x) (h : Xq4 P L e o x c.args.toList c.argTypes.toList v' r rs = some ef) (hob : ef.ob) : X7w P e o ef.us := by
  unfold Xq4 at h; split at h
  · rename_i f y rest t0 tys hx ha ht
    split at h
    · rename_i d k off p hy
      simp only at h
      split at h
      · rename_i hk
        simp only [Bool.and_eq_true, List.all_eq_true] at hk
        simp only [Option.some.injEq] at h; subst h
        obtain ⟨⟨⟨⟨⟨⟨c1, c2⟩, c3⟩, c4⟩, c5⟩, c6⟩, c7⟩ := hk
        have c3 := Nat.eq_of_beq_eq_true c3
        subst c3
        have c4 : p = [] := by simpa using c4
        subst c4
        intro C β ω a w K Q hR hN hK
        exact X0q (L := L) hR hN ho hc hx ha hy rfl (Nat.eq_of_beq_eq_true c1) c2 (fun hn => by rw [hn] at c7; simp [X70] at c7) (Nat.eq_of_beq_eq_true c5) c6 hob (fun a' w' h => hK _ _ _ _ (by rw [Xao]; exact h))
      · cases h
    · cases h
  · cases h
theorem X2p (hL : Xe4 P L) (h : X3w P L e o rs = some ef) (hob : ef.ob) : X7w P e o ef.us := by
  unfold X3w at h; split at h
  · rename_i c ho
    split at h
    · rename_i hc
      split at h
      · rename_i x T tr ha ht; exact X0f hL ho hc ha ht h
      · cases h
    · rename_i x hc
      split at h
      · exact Xz3 ho hc h hob
      · exact Xy4 ho hc h hob
      · exact Xyi ho hc h hob
      · cases h
    · cases h
  · rename_i ho; exact Xx4 hL ho h hob
  · rename_i ho; exact Xxq hL ho h hob
  · cases h
theorem X13 (hL : Xe4 P L) (h : X0i P L e o rs = some ef) (hob : ef.ob) : X7w P e o ef.us := by
  unfold X0i at h; split at h
  · exact X2p hL h hob
  · unfold X5w at h; split at h
    · rename_i h0
      simp only [Option.some.injEq] at h; subst h
      obtain ⟨o1, rfl⟩ := hob
      have := Xuu hL h0 o1
      exact this
    · exact Xuu hL h hob
  · exact Xuu hL h hob
end
open Go Go.RowKit

def AV.refs : AV → List Loc
  | .ptr d _ _ _ => [.b d]
  | .own g _ => [.o g]
  | .optr g _ _ _ _ _ => [.o g]
  | .win g _ _ _ _ => [.o g]
  | .clo _ caps => caps.map fun dk => .b dk.1
  | _ => []

def Xu5 (e : X7l) : List Operand → List (Loc × LV)
  | [] => []
  | .tmp t :: r => (.t t, ⟨(e (.t t)).k, false, (e (.t t)).v⟩) :: Xu5 e r
  | _ :: r => Xu5 e r
def X7k (e : X7l) (g : Bool) : List Operand → Prop
  | [] => True
  | .tmp t :: r => (g = true → (e (.t t)).live = false) ∧ X7k e g r
  | _ :: r => X7k e g r

def Xjd (e : X7l) (o : Oper) : List Operand := match o.op with
  | .pick c x y => (match X73 e c with
    | .bool true => [c, x]
    | .bool false => [c, y]
    | _ => o.op.operands.toList)
  | _ => o.op.operands.toList
theorem Xxa {e : X7l} {o : Oper} {x : Operand} (h : x ∈ Xjd e o) : x ∈ o.op.operands.toList := by
  unfold Xjd at h
  split at h
  · rename_i c x' y' ho
    have : o.op.operands.toList = [c, x', y'] := by rw [ho]; rfl
    rw [this]
    split at h
    · simp only [List.mem_cons, List.not_mem_nil, or_false] at h ⊢; rcases h with h | h <;> simp [h]
    · simp only [List.mem_cons, List.not_mem_nil, or_false] at h ⊢; rcases h with h | h <;> simp [h]
    · rwa [this] at h
  · exact h
theorem Xyd {e e' : X7l} {o : Oper} (h : ∀ x ∈ o.op.operands.toList, X73 e' x = X73 e x) : Xjd e' o = Xjd e o := by
  unfold Xjd
  split
  · rename_i c x y ho
    have : o.op.operands.toList = [c, x, y] := by rw [ho]; rfl
    rw [this] at h
    rw [h c (by simp)]
  · rfl
def X6w : Bool → Prop → Prop
  | true, p => p
  | false, _ => True
theorem X5y {g : Bool} {p : Prop} (h : X6w g p) : g = true → p := by
  cases g
  · intro k; cases k
  · exact fun _ => h
def Xr1 (P : Program) (L : List (Nat × Ty)) (ops : Array Oper) (e : X7l) (o : Oper) (rs : List AV) : Option Ef := match o.guard with
  | Option.none => X0i P L e o rs
  | some (j, want) => match (ops[j]?).bind (·.dst), o.dst with
    | some t, some d => (match (e (.t t)).v with
      | .bool b => (match X0i P L (Xa8 e (Xu5 e (Xjd e o))) o rs with
        | some ef => (match ef.us with
          | [(.t d', x)] => (match Nat.beq d d' with
            | true => some ⟨[(.t d, ⟨x.k, !(!(e (.t t)).live && (b == want)), x.v⟩)], X7k e (!(e (.t t)).live && (b == want)) (Xjd e o) ∧ X6w (!(e (.t t)).live && (b == want)) (ef.ob ∧ x.live = false), ef.rs⟩
            | false => Option.none)
          | _ => Option.none)
        | Option.none => Option.none)
      | _ => Option.none)
    | _, _ => Option.none

def X58 (P : Program) (ops : Array Oper) (e : X7l) (o : Oper) (us : List (Loc × LV)) : Prop :=
  ∀ (C : Cx) (β : Nat → Nat) (ω : Nat → Value) (a : Act) (w : World) (K : Act → World → Prop) (Q : Exit → Act → World → Prop), R C β ω e a w → (∀ d, o.dst = some d → d < C.N) → (∀ β' ω' a' w', R C β' ω' (Xa8 e us) a' w' → K a' w') →
    if Region.wanted o (yielded ops a.tmps) = true then o.wp P a w K Q else K (a.put o.dst undef) w

theorem X03 {e : X7l} {g : Bool} (hg : g = true) : ∀ {xs : List Operand}, X7k e g xs → Xa8 e (Xu5 e xs) = e := by
  have key : ∀ (xs : List Operand) (e' : X7l), X7k e g xs → (∀ l, e' l = e l) → ∀ l, Xa8 e' (Xu5 e xs) l = e l := by
    intro xs
    induction xs with
    | nil => intro e' _ h l; exact h l
    | cons x xs ih =>
      intro e' h he l
      cases x with
      | tmp t =>
        obtain ⟨h1, h2⟩ := h
        refine ih _ h2 (fun l' => ?_) l
        by_cases hl : l' = .t t
        · subst hl
          rw [Xbj]
          have := h1 hg
          cases hx : e (.t t)
          rw [hx] at this; simp only at this ⊢; rw [this]
        · rw [Xbx _ _ hl]; exact he l'
      | const c => exact ih e' h he l
      | «global» c => exact ih e' h he l
      | func c => exact ih e' h he l
  intro xs h
  funext l
  exact key xs e h (fun _ => rfl) l

section
variable {P : Program} {L : List (Nat × Ty)} {ops : Array Oper} {e : X7l} {o : Oper} {rs : List AV} {ef : Ef}
theorem Xw3 (hL : Xe4 P L) (h : Xr1 P L ops e o rs = some ef) (hob : ef.ob) : X58 P ops e o ef.us := by
  unfold Xr1 at h; split at h
  · rename_i hg
    intro C β ω a w K Q hR hN hK
    rw [if_pos (by simp [Region.wanted, hg])]
    exact X13 hL h hob C β ω a w K Q hR hN hK
  · rename_i j want hg
    split at h
    · rename_i t d ht hd
      split at h
      · rename_i b hb
        split at h
        · rename_i ef' he
          split at h
          · rename_i d' x hus
            split at h
            · rename_i hdd
              have hdd := Nat.eq_of_beq_eq_true hdd
              subst hdd
              simp only [Option.some.injEq] at h; subst h
              obtain ⟨ob1, ob2⟩ := hob
              have ob2 := X5y ob2
              intro C β ω a w K Q hR hN hK
              have hy : Region.wanted o (yielded ops a.tmps) = (!(e (.t t)).live && (b == want)) := by
                unfold Region.wanted
                rw [hg]
                simp only
                cases hlv : (e (.t t)).live with
                | true =>
                  have hu := hR.tu t hlv
                  have : yielded ops a.tmps j = Option.none := by
                    unfold yielded
                    rw [ht]
                    simp only [Option.bind_some]
                    cases hq : a.tmps[t]? with
                    | none => rfl
                    | some v =>
                      have : a.tmps.getD t undef = v := by simp [hq]
                      rw [hu] at this; subst this; rfl
                  rw [this]; rfl
                | false =>
                  have hv := hR.tm t hlv
                  rw [hb] at hv
                  have hv : a.tmps.getD t undef = .bool b := by simpa [Xky, Xgb, X6u] using hv
                  have : yielded ops a.tmps j = some b := by
                    unfold yielded
                    rw [ht]
                    simp only [Option.bind_some]
                    cases hq : a.tmps[t]? with
                    | none => simp [hq] at hv; cases hv
                    | some v =>
                      have : a.tmps.getD t undef = v := by simp [hq]
                      rw [hv] at this; subst this; rfl
                  rw [this]; simp
              rw [hy]
              cases hgv : (!(e (.t t)).live && (b == want)) with
              | true =>
                simp only [if_true]
                obtain ⟨o1, o2⟩ := ob2 hgv
                have hsame := X03 hgv ob1
                rw [hsame] at he
                have hst := X13 hL he o1
                rw [hus] at hst
                refine hst C β ω a w K Q hR hN (fun β' ω' a' w' h' => hK β' ω' a' w' ?_)
                rw [hgv]
                simp only [Bool.not_true]
                have : x = ⟨x.k, false, x.v⟩ := by cases x; simp only at o2; rw [o2]
                have e1 : Xa8 e [(Loc.t d, x)] = Xa8 e [(Loc.t d, ⟨x.k, false, x.v⟩)] := by rw [← this]
                rw [e1] at h'
                exact h'
              | false =>
                simp only [Bool.false_eq_true, if_false]
                refine hK β ω _ _ ?_
                rw [hd, hgv]
                exact Xvp hR (hN d hd) ⟨fun k => (by simp at k), fun _ => rfl⟩
            · cases h
          · cases h
        · cases h
      · cases h
    · cases h

def X3x (P : Program) (L : List (Nat × Ty)) (ops : Array Oper) : List Oper → X7l → List AV → Option (X7l × Prop × List AV)
  | [], e, rs => some (e, True, rs)
  | o :: r, e, rs => match Xr1 P L ops e o rs with
    | Option.none => Option.none
    | some ef => (match X3x P L ops r (Xa8 e ef.us) ef.rs with
      | Option.none => Option.none
      | some (e', ob, rs') => some (e', ef.ob ∧ ob, rs'))
theorem Xnn (hL : Xe4 P L) {Q : Exit → Act → World → Prop} {C : Cx} : ∀ {l : List Oper} {e : X7l} {rs rs' : List AV} {e' : X7l} {ob : Prop} {β : Nat → Nat} {ω : Nat → Value} {a : Act} {w : World}, X3x P L ops l e rs = some (e', ob, rs') → ob → (∀ o ∈ l, ∀ d, o.dst = some d → d < C.N) →
    (∀ β' ω' a' w', R C β' ω' e' a' w' → Q .normal a' w') → R C β ω e a w → wpList P ops Q l a w
  | [], e, rs, rs', e', ob, β, ω, a, w, h, _, _, hQ, hR => by
    simp only [X3x, Option.some.injEq, Prod.mk.injEq] at h
    obtain ⟨rfl, _⟩ := h
    exact wpList_nil (hQ _ _ _ _ hR)
  | o :: l, e, rs, rs', e', ob, β, ω, a, w, h, hob, hN, hQ, hR => by
    unfold X3x at h
    split at h
    · cases h
    · rename_i ef hs
      split at h
      · cases h
      · rename_i e2 ob2 rs2 hr
        simp only [Option.some.injEq, Prod.mk.injEq] at h
        obtain ⟨rfl, rfl, rfl⟩ := h
        refine wpList_step (fun K hK => ?_)
        refine Xw3 hL hs hob.1 C β ω a w K Q hR (hN o (by simp)) (fun β' ω' a' w' h' => hK _ _ ?_)
        exact Xnn hL hr hob.2 (fun o' ho' => hN o' (by simp [ho'])) hQ h'
end
end Am
end Go.Proofs.YtmlgfablnbbceaaGreat

