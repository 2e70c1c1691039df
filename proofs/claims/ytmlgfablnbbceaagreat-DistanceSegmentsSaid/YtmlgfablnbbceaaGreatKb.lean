/- What is proved: see the last text of this claim. -/
import Derived.Test.YtmlgfablnbbceaaGreatKa
set_option linter.all false
namespace Go.Proofs.YtmlgfablnbbceaaGreat
namespace Am
open Go Go.RowKit

section
variable {P : Program} {L : List (Nat × Ty)} {e e' : X7l} {o : Oper} {rs : List AV}

def Ag (e e' : X7l) (v : AV) : Prop := ∀ l ∈ v.refs, e' l = e l
theorem X32 {l x : Loc} {v : LV} (h : e' x = e x) : X7z e' l v x = X7z e l v x := by
  unfold X7z; split
  · rfl
  · exact h
theorem Xfj {x : Loc} : ∀ {us : List (Loc × LV)} {e e' : X7l}, e' x = e x → Xa8 e' us x = Xa8 e us x
  | [], _, _, h => h
  | (l, v) :: us, _, _, h => by simp only [Xa8]; exact Xfj (X32 h)
theorem Xk2 {v : AV} {us : List (Loc × LV)} (h : Ag e e' v) : Ag (Xa8 e us) (Xa8 e' us) v := fun l hl => Xfj (h l hl)
theorem X3n {v : AV} (h : Ag e e' v) : X01 e' v = X01 e v := by
  cases v <;> try rfl
  rename_i g k
  have := h (.o g) (by simp [AV.refs])
  simp only [X01, this]
theorem Xl2 : ∀ {vs : List AV} {e e' : X7l}, (∀ v ∈ vs, Ag e e' v) → X6r e' vs = X6r e vs
  | [], _, _, _ => rfl
  | v :: vs, _, _, h => by
    simp only [X6r]
    rw [X3n (h v (by simp)), Xl2 (fun u hu => Xk2 (h u (by simp [hu])))]
theorem X2h {v : AV} (h : Ag e e' v) : Xuk e' v = Xuk e v := by
  cases v <;> try rfl
  rename_i g k
  have := h (.o g) (by simp [AV.refs])
  simp only [Xuk, this]
theorem Xsv {v : AV} {T : Nat} (h : Ag e e' v) : X7f L e' T v = X7f L e T v := by unfold X7f; rw [X2h h]
theorem Xp9 : ∀ {xs : List (Nat × AV)}, (∀ x ∈ xs, Ag e e' x.2) → Xg6 L e' xs = Xg6 L e xs
  | [], _ => rfl
  | (T, v) :: r, h => by simp only [Xg6]; rw [Xsv (h (T, v) (by simp)), Xp9 (fun x hx => h x (by simp [hx]))]

theorem X4f {T : Nat} {x : Operand} (hv : X73 e' x = X73 e x) (hr : Ag e e' (X73 e x)) (hd : ∀ d, o.dst = some d → e' (.b d) = e (.b d)) : X3y L e' o T x rs = X3y L e o T x rs := by
  unfold X3y; simp only [hv]
  have h1 : X6r e' [X73 e x] = X6r e [X73 e x] := Xl2 (fun v hv => by simp at hv; subst hv; exact hr)
  rw [h1, Xsv (Xk2 hr)]
  cases hdd : o.dst with
  | none => rfl
  | some d =>
    have q := Xfj (us := X6r e [X73 e x]) (hd d hdd)
    cases X70 (X7f L (Xa8 e (X6r e [X73 e x])) T (X73 e x)) <;> simp [q]
theorem X3j {T : Nat} {x : Operand} (hv : X73 e' x = X73 e x) (hr : Ag e e' (X73 e x)) : Xxs L e' o T x rs = Xxs L e o T x rs := by
  unfold Xxs; rw [hv]
  cases Xdu L T with
  | none => rfl
  | some ty =>
    cases hx : X73 e x <;> try rfl
    · rename_i d k off p
      have := hr (.b d) (by rw [hx]; simp [AV.refs])
      simp only [this]
    · rename_i g k sz i off p
      have := hr (.o g) (by rw [hx]; simp [AV.refs])
      simp only [this]
theorem X1k {T : Nat} {x y : Operand} (hv : X73 e' x = X73 e x) (hr : Ag e e' (X73 e x)) (hv2 : X73 e' y = X73 e y) (hr2 : Ag e e' (X73 e y)) : Xrj L e' o T x y rs = Xrj L e o T x y rs := by
  unfold Xrj; simp only [hv, hv2]
  have h1 : X6r e' [X73 e y] = X6r e [X73 e y] := Xl2 (fun v hv => by simp at hv; subst hv; exact hr2)
  rw [h1, Xsv (Xk2 hr2)]
  cases Xdu L T with
  | none => rfl
  | some ty =>
    cases hx : X73 e x <;> try rfl
    · rename_i d k off p
      have := hr (.b d) (by rw [hx]; simp [AV.refs])
      simp only [Xfj (us := X6r e [X73 e y]) this]
    · rename_i g k sz i off p
      have := hr (.o g) (by rw [hx]; simp [AV.refs])
      simp only [Xfj (us := X6r e [X73 e y]) this]
theorem X05 {T i : Nat} {x : Operand} (hv : X73 e' x = X73 e x) (hr : Ag e e' (X73 e x)) : Xrq L e' o T x i rs = Xrq L e o T x i rs := by
  unfold Xrq; rw [hv]
  cases Xdu L T with
  | none => rfl
  | some ty =>
    cases hx : X73 e x <;> try rfl
    · rename_i d k off p
      have := hr (.b d) (by rw [hx]; simp [AV.refs])
      simp only [this]
    · rename_i g k sz n off p
      have := hr (.o g) (by rw [hx]; simp [AV.refs])
      simp only [this]
theorem X0p {T : Nat} {x ix : Operand} (hv : X73 e' x = X73 e x) (hr : Ag e e' (X73 e x)) (hv2 : X73 e' ix = X73 e ix) : Xrr L e' o T x ix rs = Xrr L e o T x ix rs := by
  unfold Xrr; rw [hv, hv2]
  cases Xdu L T with
  | none => rfl
  | some ty =>
    cases hx : X73 e x <;> try rfl
    case ptr d k off p =>
      have := hr (.b d) (by rw [hx]; simp [AV.refs])
      simp only [this]
    case own g k =>
      have := hr (.o g) (by rw [hx]; simp [AV.refs])
      simp only [this]
theorem X1j {T : Nat} {parts : List (Nat × Operand)} (hv : ∀ p ∈ parts, X73 e' p.2 = X73 e p.2) (hr : ∀ p ∈ parts, Ag e e' (X73 e p.2)) : Xrn L e' o T parts rs = Xrn L e o T parts rs := by
  unfold Xrn
  cases Xdu L T with
  | none => rfl
  | some ty =>
    have h0 : (parts.map fun p => (X3l (ty.flds.map (·.2.2)) p.1, X73 e' p.2)) = parts.map fun p => (X3l (ty.flds.map (·.2.2)) p.1, X73 e p.2) := List.map_congr_left fun p hp => by rw [hv p hp]
    simp only [h0]
    have h2 : ∀ x ∈ (parts.map fun p => (X3l (ty.flds.map (·.2.2)) p.1, X73 e p.2)), Ag e e' x.2 := fun x hx => by
      obtain ⟨p, hp, rfl⟩ := List.mem_map.1 hx; exact hr p hp
    have h1 : X6r e' ((parts.map fun p => (X3l (ty.flds.map (·.2.2)) p.1, X73 e p.2)).map (·.2)) = X6r e ((parts.map fun p => (X3l (ty.flds.map (·.2.2)) p.1, X73 e p.2)).map (·.2)) := Xl2 (fun v hv => by
      obtain ⟨x, hx, rfl⟩ := List.mem_map.1 hv; exact h2 x hx)
    rw [h1, Xp9 (fun x hx => Xk2 (h2 x hx))]
theorem Xr5 {T n : Nat} {parts : List (Nat × Operand)} (hv : ∀ p ∈ parts, X73 e' p.2 = X73 e p.2) (hr : ∀ p ∈ parts, Ag e e' (X73 e p.2)) (hd : ∀ d, o.dst = some d → e' (.o d) = e (.o d)) : Xfp L e' o T n parts rs = Xfp L e o T n parts rs := by
  unfold Xfp
  cases Xdu L T with
  | none => rfl
  | some ty =>
    cases hdd : o.dst with
    | none => rfl
    | some d =>
      simp only
      cases Xdu L ty.elem with
      | none => rfl
      | some ety =>
        have h0 : (parts.map fun p => (ty.elem, X73 e' p.2)) = parts.map fun p => (ty.elem, X73 e p.2) := List.map_congr_left fun p hp => by rw [hv p hp]
        simp only [h0]
        have h2 : ∀ x ∈ (parts.map fun p => (ty.elem, X73 e p.2)), Ag e e' x.2 := fun x hx => by
          obtain ⟨p, hp, rfl⟩ := List.mem_map.1 hx; exact hr p hp
        have h1 : X6r e' ((parts.map fun p => (ty.elem, X73 e p.2)).map (·.2)) = X6r e ((parts.map fun p => (ty.elem, X73 e p.2)).map (·.2)) := Xl2 (fun v hv => by
          obtain ⟨x, hx, rfl⟩ := List.mem_map.1 hv; exact h2 x hx)
        rw [h1, Xp9 (fun x hx => Xk2 (h2 x hx)), Xfj (hd d hdd)]
theorem Xpw : ∀ {l : List (Nat × Nat)}, (∀ dk ∈ l, e' (.b dk.1) = e (.b dk.1)) → Xf1 e' l = Xf1 e l ∧ Xle e' l = Xle e l
  | [], _ => ⟨rfl, rfl⟩
  | dk :: l, h => by
    obtain ⟨h1, h2⟩ := Xpw (l := l) (fun x hx => h x (by simp [hx]))
    simp only [Xf1, Xle, h dk (by simp), h1, h2, and_self]
theorem X21 {x : Operand} {args : List Operand} {tys : List Nat} (hv : X73 e' x = X73 e x) (hr : Ag e e' (X73 e x)) (hva : ∀ y ∈ args, X73 e' y = X73 e y) (hra : ∀ y ∈ args, Ag e e' (X73 e y)) : Xxu P L e' o x args tys rs = Xxu P L e o x args tys rs := by
  unfold Xxu
  have h0 : args.map (X73 e') = args.map (X73 e) := List.map_congr_left hva
  simp only [hv, h0]
  have h2 : ∀ y ∈ tys.zip (args.map (X73 e)), Ag e e' y.2 := fun y hy => by
    have := (List.of_mem_zip hy).2
    obtain ⟨p, hp, hpe⟩ := List.mem_map.1 this
    rw [← hpe]; exact hra p hp
  have h1 : X6r e' ((tys.zip (args.map (X73 e))).map (·.2)) = X6r e ((tys.zip (args.map (X73 e))).map (·.2)) := Xl2 (fun v hv => by
    obtain ⟨y, hy, rfl⟩ := List.mem_map.1 hv; exact h2 y hy)
  rw [h1, Xp9 (fun y hy => Xk2 (h2 y hy))]
  cases hx : X73 e x <;> try rfl
  case fn f => cases rs <;> rfl
  case clo f caps =>
  obtain ⟨q1, q2⟩ := Xpw (e := Xa8 e (X6r e ((tys.zip (args.map (X73 e))).map (·.2)))) (e' := Xa8 e' (X6r e ((tys.zip (args.map (X73 e))).map (·.2)))) (l := caps) (fun dk hdk => Xfj (hr (.b dk.1) (by rw [hx]; simp only [AV.refs]; exact List.mem_map.2 ⟨dk, hdk, rfl⟩)))
  cases rs with
  | nil => rfl
  | cons r rs => simp only [q1, q2]
theorem X37 {T : Nat} {x : Operand} (hv : X73 e' x = X73 e x) (hr : Ag e e' (X73 e x)) : X4c L e' o x T rs = X4c L e o x T rs := by
  unfold X4c; rw [hv]
  cases Xdu L T with
  | none => rfl
  | some ty =>
    cases hx : X73 e x <;> try rfl
    rename_i g k
    have := hr (.o g) (by rw [hx]; simp [AV.refs])
    simp only [this]
theorem Xzd {T T2 : Nat} {s x : Operand} (hv : X73 e' x = X73 e x) (hr : Ag e e' (X73 e x)) (hvs : X73 e' s = X73 e s) (hrs : Ag e e' (X73 e s)) (hd : ∀ d, o.dst = some d → e' (.o d) = e (.o d)) : Xpn L e' o s x T T2 rs = Xpn L e o s x T T2 rs := by
  unfold Xpn
  cases Xdu L T with
  | none => rfl
  | some ty =>
    cases Xdu L T2 with
    | none => rfl
    | some ty2 =>
      cases hdd : o.dst with
      | none => rfl
      | some d =>
        simp only
        cases Xdu L ty.elem with
        | none => rfl
        | some ety =>
          simp only [hv, hvs]
          have h1 : X6r e' [X73 e x] = X6r e [X73 e x] := Xl2 (fun v hv => by simp at hv; subst hv; exact hr)
          rw [h1, Xsv (Xk2 hr), Xfj (hd d hdd)]
          cases hs : X73 e s <;> try rfl
          case own g k =>
          have := hrs (.o g) (by rw [hs]; simp [AV.refs])
          simp only [Xfj (us := X6r e [X73 e x]) this]
theorem Xve {fn : Fn} {first caps : List Operand} (hv : ∀ y ∈ caps, X73 e' y = X73 e y) (hr : ∀ y ∈ caps, Ag e e' (X73 e y)) : Xie e' o fn first caps rs = Xie e o fn first caps rs := by
  have h0 : caps.map (X73 e') = caps.map (X73 e) := List.map_congr_left hv
  have h1 : ∀ v ∈ caps.map (X73 e), Ag e e' v := fun v hv => by obtain ⟨y, hy, rfl⟩ := List.mem_map.1 hv; exact hr y hy
  have key1 : ∀ (vs : List AV), (∀ v ∈ vs, Ag e e' v) → Xnu e' vs = Xnu e vs := by
    intro vs
    induction vs with
    | nil => intro _; rfl
    | cons v vs ih =>
      intro h
      cases v <;> try rfl
      rename_i d k off p
      simp only [Xnu, h (.ptr d k off p) (by simp) (.b d) (by simp [AV.refs]), ih (fun u hu => h u (by simp [hu]))]
  have key2 : ∀ (vs : List AV) (e e' : X7l), (∀ v ∈ vs, Ag e e' v) → Xqj e' vs = Xqj e vs := by
    intro vs
    induction vs with
    | nil => intro _ _ _; rfl
    | cons v vs ih =>
      intro e e' h
      cases v <;> simp only [Xqj] <;> try exact ih e e' (fun u hu => h u (by simp [hu]))
      rename_i d k off p
      have hq := h (.ptr d k off p) (by simp) (.b d) (by simp [AV.refs])
      have := ih (X7z e (.b d) ⟨(e (.b d)).k, false, (e (.b d)).v⟩) (X7z e' (.b d) ⟨(e (.b d)).k, false, (e (.b d)).v⟩) (fun u hu => Xk2 (us := [(.b d, ⟨(e (.b d)).k, false, (e (.b d)).v⟩)]) (h u (by simp [hu])))
      rw [hq, this]
  unfold Xie
  rw [h0, key1 _ h1]
  simp only [key2 _ e e' h1]
theorem Xo8 {x : Option Operand} {n d : Nat} (hv : ∀ y, x = some y → X73 e' y = X73 e y) : Xra e' x n d = Xra e x n d := by
  unfold Xra
  cases x with
  | none => rfl
  | some y => simp only [hv y rfl]
theorem X1h {T : Nat} {x : Operand} {lo hi mx : Option Operand} (hv : X73 e' x = X73 e x) (hr : Ag e e' (X73 e x)) (h1 : ∀ y, lo = some y → X73 e' y = X73 e y) (h2 : ∀ y, hi = some y → X73 e' y = X73 e y) (h3 : ∀ y, mx = some y → X73 e' y = X73 e y) : Xrc L e' o T x lo hi mx rs = Xrc L e o T x lo hi mx rs := by
  unfold Xrc
  have q1 : X6r e' [X73 e x] = X6r e [X73 e x] := Xl2 (fun v hv => by simp at hv; subst hv; exact hr)
  have q2 : ∀ n d, Xra e' lo n d = Xra e lo n d := fun n d => Xo8 h1
  have q3 : ∀ n d, Xra e' hi n d = Xra e hi n d := fun n d => Xo8 h2
  have q4 : X7f L (Xa8 e' (X6r e [X73 e x])) T (X73 e x) = X7f L (Xa8 e (X6r e [X73 e x])) T (X73 e x) := Xsv (Xk2 hr)
  have q5 : ∀ n d, Xra e' mx n d = Xra e mx n d := fun n d => Xo8 h3
  simp only [hv, q1, q2, q3, q4, q5]

def X6x : Op → Bool
  | .move _ => false
  | .assign _ => false
  | _ => true
def Xk4 (e : X7l) (o : Oper) : List Loc :=
  (o.op.operands.toList.flatMap fun x => match x with
    | .tmp t => .t t :: (bif X6x o.op then (X73 e x).refs else [])
    | _ => []) ++ (match o.dst with
    | some d => [.b d, .o d]
    | Option.none => [])
theorem Xia (h : ∀ l ∈ Xk4 e o, e' l = e l) {x : Operand} (hx : x ∈ o.op.operands.toList) : X73 e' x = X73 e x ∧ (X6x o.op = true → Ag e e' (X73 e x)) := by
  cases x with
  | tmp t =>
    have h1 : e' (.t t) = e (.t t) := h _ (List.mem_append_left _ (List.mem_flatMap.2 ⟨.tmp t, hx, by simp⟩))
    refine ⟨by simp only [X73, h1], fun hq l hl => h _ (List.mem_append_left _ (List.mem_flatMap.2 ⟨.tmp t, hx, by simp only [hq, cond_true]; exact List.mem_cons_of_mem _ hl⟩))⟩
  | const c =>
    refine ⟨rfl, fun _ l hl => ?_⟩
    simp only [X73] at hl
    unfold X7r at hl; split at hl <;> simp [AV.refs] at hl
  | «global» g => exact ⟨rfl, fun _ l hl => by simp [X73, AV.refs] at hl⟩
  | func f => exact ⟨rfl, fun _ l hl => by simp [X73, AV.refs] at hl⟩
theorem Xxy (h : ∀ l ∈ Xk4 e o, e' l = e l) : Xrx P L e' o rs = Xrx P L e o rs := by
  have hv : ∀ x ∈ o.op.operands.toList, X73 e' x = X73 e x := fun x hx => (Xia h hx).1
  have hr : X6x o.op = true → ∀ x ∈ o.op.operands.toList, Ag e e' (X73 e x) := fun hq x hx => (Xia h hx).2 hq
  have hd : ∀ d, o.dst = some d → e' (.b d) = e (.b d) ∧ e' (.o d) = e (.o d) := fun d hd =>
    ⟨h _ (List.mem_append_right _ (by rw [hd]; simp)), h _ (List.mem_append_right _ (by rw [hd]; simp))⟩
  unfold Xrx
  generalize hop : o.op = op at *
  cases op <;> try rfl
  case move x => simp only [Xy0]; rw [hv x (by simp [Op.operands])]
  case assign x => simp only [Xy0]; rw [hv x (by simp [Op.operands])]
  case pick c x y => simp only [X0t]; rw [hv x (by simp [Op.operands]), hv y (by simp [Op.operands]), hv c (by simp [Op.operands])]
  case alloc T =>
    simp only [Xwp]
    cases Xdu L T with
    | none => rfl
    | some ty =>
      cases hdd : o.dst with
      | none => rfl
      | some d => simp only [(hd d hdd).1]
  case box T x => exact X4f (hv x (by simp [Op.operands])) (hr rfl x (by simp [Op.operands])) (fun d hdd => (hd d hdd).1)
  case build T parts => exact X1j (fun p hp => hv p.2 (by simp only [Op.operands]; simpa using ⟨p.1, by simpa using hp⟩)) (fun p hp => hr rfl p.2 (by simp only [Op.operands]; simpa using ⟨p.1, by simpa using hp⟩))
  case buildSlice T n parts => exact Xr5 (fun p hp => hv p.2 (by simp only [Op.operands]; simpa using ⟨p.1, by simpa using hp⟩)) (fun p hp => hr rfl p.2 (by simp only [Op.operands]; simpa using ⟨p.1, by simpa using hp⟩)) (fun d hdd => (hd d hdd).2)
  case load T x => exact X3j (hv x (by simp [Op.operands])) (hr rfl x (by simp [Op.operands]))
  case store T x y => exact X1k (hv x (by simp [Op.operands])) (hr rfl x (by simp [Op.operands])) (hv y (by simp [Op.operands])) (hr rfl y (by simp [Op.operands]))
  case binOp b T x y T' => simp only [X5e, Xz8, hv x (by simp [Op.operands]), hv y (by simp [Op.operands])]
  case unOp b T x => simp only [X6o, hv x (by simp [Op.operands])]
  case convert T T' x => simp only [X0l, hv x (by simp [Op.operands])]
  case makeFunc fn first caps => exact Xve (fun y hy => hv y (by simp [Op.operands]; exact .inr (by simpa using hy))) (fun y hy => hr rfl y (by simp [Op.operands]; exact .inr (by simpa using hy)))
  case makeSlice T l c =>
    simp only [Xks, hv l (by simp [Op.operands]), hv c (by simp [Op.operands])]
    cases Xdu L T with
    | none => rfl
    | some ty =>
      cases hdd : o.dst with
      | none => rfl
      | some d =>
        cases X73 e l <;> try rfl
        cases X73 e c <;> try rfl
        simp only [(hd d hdd).2]
  case slice T x lo hi mx =>
    exact X1h (hv x (by simp [Op.operands])) (hr rfl x (by simp [Op.operands])) (fun y hy => hv y (by subst hy; simp [Op.operands])) (fun y hy => hv y (by subst hy; simp [Op.operands])) (fun y hy => hv y (by subst hy; simp [Op.operands]))
  case fieldAddr T x i => exact X05 (hv x (by simp [Op.operands])) (hr rfl x (by simp [Op.operands]))
  case indexAddr T x ix => exact X0p (hv x (by simp [Op.operands])) (hr rfl x (by simp [Op.operands])) (hv ix (by simp [Op.operands]))
  case extract x i => simp only [Xop, hv x (by simp [Op.operands])]
  case nilCheck x =>
    have h0 := hv x (by simp [Op.operands])
    have h1 := hr rfl x (by simp [Op.operands])
    simp only [X5f, h0]
    cases hx : X73 e x <;> try rfl
    · rename_i d k off p
      have := h1 (.b d) (by rw [hx]; simp [AV.refs])
      simp only [this]
    · rename_i g k sz i off p
      have := h1 (.o g) (by rw [hx]; simp [AV.refs])
      simp only [this]
  case call c =>
    have hva : ∀ y ∈ c.args.toList, X73 e' y = X73 e y := fun y hy => hv y (by simp only [Op.operands, Call.operands]; simp; exact .inr (by simpa using hy))
    have hra : ∀ y ∈ c.args.toList, Ag e e' (X73 e y) := fun y hy => hr rfl y (by simp only [Op.operands, Call.operands]; simp; exact .inr (by simpa using hy))
    simp only
    cases hc : c.callee with
    | value x => exact X21 (hv x (by simp [Op.operands, Call.operands, hc])) (hr rfl x (by simp [Op.operands, Call.operands, hc])) hva hra
    | invoke r m => rfl
    | builtin b =>
      simp only
      have h0 : c.args.toList.map (X73 e') = c.args.toList.map (X73 e) := List.map_congr_left hva
      unfold Xor
      generalize c.args.toList = args at *
      generalize c.argTypes.toList = tys at *
      split
      · exact X37 (hva _ (by simp)) (hra _ (by simp))
      · exact Xzd (hva _ (by simp)) (hra _ (by simp)) (hva _ (by simp)) (hra _ (by simp)) (fun d hdd => (hd d hdd).2)
      · rw [h0]
      · rw [h0]
      · rfl
theorem X2l (h : ∀ l ∈ Xk4 e o, e' l = e l) : X5g e' o = X5g e o := by
  have hv : ∀ x ∈ o.op.operands.toList, X73 e' x = X73 e x := fun x hx => (Xia h hx).1
  unfold X5g
  generalize hop : o.op = op at *
  cases op <;> try rfl
  case store T x y => simp only [hv x (by simp [Op.operands])]
theorem Xxd (h : ∀ l ∈ Xk4 e o, e' l = e l) : X2a P L e' o rs = X2a P L e o rs := by
  unfold X2a X5d
  simp only [Xxy h, X2l h]
theorem X3q {T : Nat} {x : Operand} (hv : X73 e' x = X73 e x) (hr : Ag e e' (X73 e x)) : Xw8 L e' o x T rs = Xw8 L e o x T rs := by
  unfold Xw8; rw [hv]
  cases Xdu L T with
  | none => rfl
  | some ty =>
    cases hx : X73 e x <;> try rfl
    have := hr (.o _) (by rw [hx]; simp [AV.refs]; rfl)
    simp only [this]
theorem Xz7 {T : Nat} {x ix : Operand} (hv : X73 e' x = X73 e x) (hr : Ag e e' (X73 e x)) (hv2 : X73 e' ix = X73 e ix) : Xmz L e' o T x ix rs = Xmz L e o T x ix rs := by
  unfold Xmz; rw [hv, hv2]
  cases Xdu L T with
  | none => rfl
  | some ty =>
    cases hx : X73 e x <;> try rfl
    have := hr (.o _) (by rw [hx]; simp [AV.refs]; rfl)
    cases X73 e ix <;> try rfl
    simp only [this]
theorem Xzv {T : Nat} {x : Operand} {lo hi : Option Operand} (hv : X73 e' x = X73 e x) (hr : Ag e e' (X73 e x)) (h1 : ∀ y, lo = some y → X73 e' y = X73 e y) (h2 : ∀ y, hi = some y → X73 e' y = X73 e y) : Xnb L e' o T x lo hi rs = Xnb L e o T x lo hi rs := by
  unfold Xnb
  have q2 : ∀ n d, Xra e' lo n d = Xra e lo n d := fun n d => Xo8 h1
  have q3 : ∀ n d, Xra e' hi n d = Xra e hi n d := fun n d => Xo8 h2
  rw [hv]
  cases Xdu L T with
  | none => rfl
  | some ty =>
    cases hx : X73 e x <;> try rfl
    have := hr (.o _) (by rw [hx]; simp [AV.refs]; rfl)
    cases rs with
    | nil => rfl
    | cons r rs' =>
      cases r <;> try rfl
      simp only [this, q2, q3]
theorem Xvz {args : List Operand} {tys : List Nat} (hva : ∀ y ∈ args, X73 e' y = X73 e y) (hra : ∀ y ∈ args, Ag e e' (X73 e y)) : args.map (X73 e') = args.map (X73 e) ∧ X6r e' (args.map (X73 e)) = X6r e (args.map (X73 e)) ∧ Xg6 L (Xa8 e' (X6r e (args.map (X73 e)))) (tys.zip (args.map (X73 e))) = Xg6 L (Xa8 e (X6r e (args.map (X73 e)))) (tys.zip (args.map (X73 e))) := by
  have h0 : args.map (X73 e') = args.map (X73 e) := List.map_congr_left hva
  have h2 : ∀ v ∈ args.map (X73 e), Ag e e' v := fun v hv => by
    obtain ⟨p, hp, rfl⟩ := List.mem_map.1 hv; exact hra p hp
  exact ⟨h0, Xl2 h2, Xp9 (fun x hx => Xk2 (h2 x.2 (List.of_mem_zip hx).2))⟩
theorem X02 {x : Operand} {args : List Operand} {tys : List Nat} {sz : Nat} {rows : List AV} (hv : X73 e' x = X73 e x) (hva : ∀ y ∈ args, X73 e' y = X73 e y) (hra : ∀ y ∈ args, Ag e e' (X73 e y)) (hd : ∀ d, o.dst = some d → e' (.o d) = e (.o d)) : Xrk P L e' o x args tys sz rows rs = Xrk P L e o x args tys sz rows rs := by
  obtain ⟨h0, h1, h2⟩ := Xvz (L := L) (tys := tys) hva hra
  unfold Xrk; rw [hv]
  simp only [h0, h1, h2]
  cases X73 e x <;> try rfl
  cases hdd : o.dst with
  | none => rfl
  | some d =>
    simp only
    rw [Xfj (hd d hdd)]
theorem X0c {x : Operand} {args : List Operand} {tys : List Nat} {all' : List AV} {r : AV} (hv : X73 e' x = X73 e x) (hva : ∀ y ∈ args, X73 e' y = X73 e y) (hra : ∀ y ∈ args, Ag e e' (X73 e y)) : Xq6 P L e' o x args tys all' r rs = Xq6 P L e o x args tys all' r rs := by
  unfold Xq6; rw [hv]
  cases X73 e x <;> try rfl
  cases args with
  | nil => rfl
  | cons y rest =>
    cases tys with
    | nil => rfl
    | cons t0 tys =>
      obtain ⟨h0, h1, h2⟩ := Xvz (L := L) (tys := tys) (args := rest) (fun z hz => hva z (by simp [hz])) (fun z hz => hra z (by simp [hz]))
      simp only [hva y (by simp), h0, h1, h2]
      cases hy : X73 e y <;> try rfl
      rename_i g k sz lo n
      have := hra y (by simp) (.o g) (by rw [hy]; simp [AV.refs])
      simp only
      rw [Xfj (us := X6r e (rest.map (X73 e))) this]
theorem X1s {x : Operand} {args : List Operand} {tys : List Nat} {v' : AV} {r : AV} (hv : X73 e' x = X73 e x) (hva : ∀ y ∈ args, X73 e' y = X73 e y) (hra : ∀ y ∈ args, Ag e e' (X73 e y)) : Xq4 P L e' o x args tys v' r rs = Xq4 P L e o x args tys v' r rs := by
  unfold Xq4; rw [hv]
  cases X73 e x <;> try rfl
  cases args with
  | nil => rfl
  | cons y rest =>
    cases tys with
    | nil => rfl
    | cons t0 tys =>
      obtain ⟨h0, h1, h2⟩ := Xvz (L := L) (tys := tys) (args := rest) (fun z hz => hva z (by simp [hz])) (fun z hz => hra z (by simp [hz]))
      simp only [hva y (by simp), h0, h1, h2]
      cases hy : X73 e y <;> try rfl
      rename_i d k off p
      have := hra y (by simp) (.b d) (by rw [hy]; simp [AV.refs])
      simp only
      rw [Xfj (us := X6r e (rest.map (X73 e))) this]
theorem Xxj (h : ∀ l ∈ Xk4 e o, e' l = e l) : X3w P L e' o rs = X3w P L e o rs := by
  have hv : ∀ x ∈ o.op.operands.toList, X73 e' x = X73 e x := fun x hx => (Xia h hx).1
  have hr : X6x o.op = true → ∀ x ∈ o.op.operands.toList, Ag e e' (X73 e x) := fun hq x hx => (Xia h hx).2 hq
  have hd : ∀ d, o.dst = some d → e' (.o d) = e (.o d) := fun d hd => h _ (List.mem_append_right _ (by rw [hd]; simp))
  unfold X3w
  generalize hop : o.op = op at *
  cases op <;> try rfl
  case slice T x lo hi mx =>
    cases mx with
    | some z => rfl
    | none => exact Xzv (hv x (by simp [Op.operands])) (hr rfl x (by simp [Op.operands])) (fun y hy => hv y (by subst hy; simp [Op.operands])) (fun y hy => hv y (by subst hy; simp [Op.operands]))
  case indexAddr T x ix => exact Xz7 (hv x (by simp [Op.operands])) (hr rfl x (by simp [Op.operands])) (hv ix (by simp [Op.operands]))
  case call c =>
    have hva : ∀ y ∈ c.args.toList, X73 e' y = X73 e y := fun y hy => hv y (by simp only [Op.operands, Call.operands]; simp; exact .inr (by simpa using hy))
    have hra : ∀ y ∈ c.args.toList, Ag e e' (X73 e y) := fun y hy => hr rfl y (by simp only [Op.operands, Call.operands]; simp; exact .inr (by simpa using hy))
    simp only
    cases hc : c.callee with
    | value x =>
      have hvx := hv x (by simp [Op.operands, Call.operands, hc])
      simp only [X02 (tys := c.argTypes.toList) hvx hva hra hd, X0c (tys := c.argTypes.toList) hvx hva hra, X1s (tys := c.argTypes.toList) hvx hva hra]
    | invoke r m => rfl
    | builtin b =>
      cases b <;> try rfl
      simp only
      generalize c.args.toList = args at *
      generalize c.argTypes.toList = tys at *
      split
      · exact X3q (hva _ (by simp)) (hra _ (by simp))
      · rfl
theorem Xti (h : ∀ l ∈ Xk4 e o, e' l = e l) : X0i P L e' o rs = X0i P L e o rs := by
  unfold X0i X5w
  simp only [Xxj h, Xxd h]
end
open Go Go.RowKit

section
variable {P : Program} {L : List (Nat × Ty)} {ops : Array Oper} {e e' : X7l} {o : Oper} {rs : List AV} {ef : Ef}

def Xza (ops : Array Oper) (o : Oper) : List Loc := match o.guard with
  | Option.none => []
  | some (j, _) => (match (ops[j]?).bind (·.dst) with
    | some t => [.t t]
    | Option.none => [])
def Xl5 (ops : Array Oper) (e : X7l) (o : Oper) : List Loc := match o.guard with
  | Option.none => Xk4 e o
  | some _ => Xza ops o ++ Xk4 (Xa8 e (Xu5 e (Xjd e o))) o
theorem X1x : ∀ {xs : List Operand}, (∀ t, Operand.tmp t ∈ xs → e' (.t t) = e (.t t)) → Xu5 e' xs = Xu5 e xs ∧ ∀ g, X7k e' g xs = X7k e g xs
  | [], _ => ⟨rfl, fun _ => rfl⟩
  | x :: xs, h => by
    obtain ⟨h1, h2⟩ := X1x (xs := xs) (fun t ht => h t (by simp [ht]))
    cases x with
    | tmp t => simp only [Xu5, X7k, h t (by simp), h1, h2, implies_true, and_self]
    | const c => exact ⟨by simp only [Xu5, h1], fun g => by simp only [X7k, h2]⟩
    | «global» c => exact ⟨by simp only [Xu5, h1], fun g => by simp only [X7k, h2]⟩
    | func c => exact ⟨by simp only [Xu5, h1], fun g => by simp only [X7k, h2]⟩
theorem Xvr (h : ∀ l ∈ Xl5 ops e o, e' l = e l) : Xr1 P L ops e' o rs = Xr1 P L ops e o rs := by
  unfold Xr1
  cases hg : o.guard with
  | none =>
    simp only
    refine Xti (fun l hl => h l ?_)
    unfold Xl5; rw [hg]; exact hl
  | some jw =>
    obtain ⟨j, want⟩ := jw
    have h' : ∀ l ∈ Xza ops o ++ Xk4 (Xa8 e (Xu5 e (Xjd e o))) o, e' l = e l := fun l hl => h l (by unfold Xl5; rw [hg]; exact hl)
    have ht : ∀ t, Operand.tmp t ∈ o.op.operands.toList → e' (.t t) = e (.t t) := fun t ht => h' _ (List.mem_append_right _ (by
      unfold Xk4
      exact List.mem_append_left _ (List.mem_flatMap.2 ⟨.tmp t, ht, by simp⟩)))
    have hvv : ∀ x ∈ o.op.operands.toList, X73 e' x = X73 e x := fun x hx => by
      cases x with
      | tmp t => simp only [X73, ht t hx]
      | _ => rfl
    have q0 := Xyd hvv
    obtain ⟨q1, q2⟩ := X1x (xs := Xjd e o) (fun t hx => ht t (Xxa hx))
    have q3 : X0i P L (Xa8 e' (Xu5 e (Xjd e o))) o rs = X0i P L (Xa8 e (Xu5 e (Xjd e o))) o rs :=
      Xti (fun l hl => Xfj (h' l (List.mem_append_right _ hl)))
    simp only [q0, q1, q2, q3]
    cases hj : (ops[j]?).bind (·.dst) with
    | none => rfl
    | some t =>
      have : e' (.t t) = e (.t t) := h' _ (List.mem_append_left _ (by unfold Xza; rw [hg]; simp only [hj]; simp))
      cases o.dst with
      | none => rfl
      | some d => simp only [this]

abbrev Xrd := List (Loc × LV) × List Loc
def X2j (P : Program) (L : List (Nat × Ty)) (ops : Array Oper) : List Oper → X7l → List AV → Option (List Xrd × Prop × List AV)
  | [], _, rs => some ([], True, rs)
  | o :: r, e, rs => match Xr1 P L ops e o rs with
    | Option.none => Option.none
    | some ef => (match X2j P L ops r (Xa8 e ef.us) ef.rs with
      | Option.none => Option.none
      | some (l, ob, rs') => some ((ef.us, Xl5 ops e o) :: l, ef.ob ∧ ob, rs'))
def Xhv : List Xrd → Nat → (Nat → Bool) → X7l → X7l
  | [], _, _, e => e
  | s :: l, i, b, e => Xhv l (i + 1) b (if b i = true then Xa8 e s.1 else e)
def wr (s : Xrd) (x : Loc) : Bool := s.1.any fun y => y.1.beq x
def Xya (l : List Loc) (x : Loc) : Bool := l.any fun y => y.beq x
theorem Xmi {l : List Loc} {x : Loc} : Xya l x = true ↔ x ∈ l := by
  unfold Xya; rw [List.any_eq_true]
  constructor
  · rintro ⟨y, h1, h2⟩; rw [Loc.beq_iff.1 h2] at h1; exact h1
  · intro h; exact ⟨x, h, Loc.beq_iff.2 rfl⟩

theorem Xlu {x : Loc} : ∀ {us : List (Loc × LV)} {e : X7l}, (us.any fun y => y.1.beq x) = false → Xa8 e us x = e x
  | [], _, _ => rfl
  | (l, v) :: us, e, h => by
    rw [List.any_cons, Bool.or_eq_false_iff] at h
    simp only [Xa8]
    rw [Xlu h.2, Xbx _ _ (fun hc => by rw [hc, Loc.beq_iff.2 rfl] at h; cases h.1)]
theorem Xvo {x : Loc} : ∀ {us : List (Loc × LV)} {e e' : X7l}, (us.any fun y => y.1.beq x) = true → Xa8 e us x = Xa8 e' us x
  | [], _, _, h => by cases h
  | (l, v) :: us, e, e', h => by
    simp only [Xa8]
    by_cases hx : (us.any fun y => y.1.beq x) = true
    · exact Xvo hx
    · rw [Xlu (by simpa using hx), Xlu (by simpa using hx)]
      rw [List.any_cons, Bool.or_eq_true] at h
      have := Loc.beq_iff.1 (h.resolve_right hx)
      rw [← this, Xbj, Xbj]
theorem Xms {x : Loc} {b b' : Nat → Bool} : ∀ {l : List Xrd} {i : Nat} {e e' : X7l}, e x = e' x → (∀ j s, l[j]? = some s → wr s x = true → b (i + j) = b' (i + j)) → Xhv l i b e x = Xhv l i b' e' x
  | [], _, _, _, h, _ => h
  | s :: l, i, e, e', h, hb => by
    simp only [Xhv]
    refine Xms ?_ (fun j s' hj hw => by have := hb (j + 1) s' (by simpa using hj) hw; rwa [show i + (j + 1) = i + 1 + j by omega] at this)
    cases hw : wr s x with
    | false =>
      have hw' : (s.1.any fun y => y.1.beq x) = false := hw
      by_cases h1 : b i = true <;> by_cases h2 : b' i = true <;> simp only [h1, h2, if_true, if_false, Bool.false_eq_true, Xlu hw', h]
    | true =>
      have := hb 0 s rfl hw
      simp only [Nat.add_zero] at this
      rw [this]
      split
      · exact Xvo hw
      · exact h
theorem Xtx {x : Loc} {b : Nat → Bool} : ∀ {l : List Xrd} {i k : Nat} {e e2 : X7l} {s : Xrd}, l[k]? = some s → wr s x = true → b (i + k) = true → (∀ j s', l[j]? = some s' → k < j → wr s' x = true → b (i + j) = false) → Xhv l i b e x = Xa8 e2 s.1 x
  | [], _, _, _, _, _, h, _, _, _ => by simp at h
  | s0 :: l, i, 0, e, e2, s, h, hw, hb, hl => by
    simp only [List.getElem?_cons_zero, Option.some.injEq] at h
    subst h
    simp only [Xhv, Nat.add_zero] at hb ⊢
    rw [if_pos hb]
    have : Xhv l (i + 1) b (Xa8 e s0.1) x = Xhv l (i + 1) (fun _ => false) (Xa8 e2 s0.1) x := Xms (Xvo hw) (fun j s' hj hw' => by
      have := hl (j + 1) s' (by simpa using hj) (by omega) hw'
      rwa [show i + (j + 1) = i + 1 + j by omega] at this)
    rw [this]
    have key : ∀ (l : List Xrd) (i : Nat) (e : X7l), Xhv l i (fun _ => false) e x = e x := by
      intro l
      induction l with
      | nil => intro _ _; rfl
      | cons s l ih => intro i e; simp only [Xhv, Bool.false_eq_true, if_false]; exact ih _ _
    exact key _ _ _
  | s0 :: l, i, k + 1, e, e2, s, h, hw, hb, hl => by
    simp only [List.getElem?_cons_succ] at h
    simp only [Xhv]
    exact Xtx h hw (by rwa [show i + (k + 1) = i + 1 + k by omega] at hb) (fun j s' hj hk hw' => by
      have := hl (j + 1) s' (by simpa using hj) (by omega) hw'
      rwa [show i + (j + 1) = i + 1 + j by omega] at this)

theorem Xyk : ∀ {os : List Oper} {e : X7l} {rs rs' : List AV} {l : List Xrd} {ob : Prop} (k : Nat), X2j P L ops os e rs = some (l, ob, rs') → ob → l.length = os.length ∧ ∀ i o, os[i]? = some o →
    ∃ rs1 ef, Xr1 P L ops (Xhv l k (fun j => decide (j < k + i)) e) o rs1 = some ef ∧ ef.ob ∧ l[i]? = some (ef.us, Xl5 ops (Xhv l k (fun j => decide (j < k + i)) e) o)
  | [], e, rs, rs', l, ob, k, h, _ => by
    simp only [X2j, Option.some.injEq, Prod.mk.injEq] at h
    obtain ⟨rfl, _⟩ := h
    exact ⟨rfl, fun i o hi => by simp at hi⟩
  | o :: os, e, rs, rs', l, ob, k, h, hob => by
    unfold X2j at h
    split at h
    · cases h
    · rename_i ef hs
      split at h
      · cases h
      · rename_i l2 ob2 rs2 hr
        simp only [Option.some.injEq, Prod.mk.injEq] at h
        obtain ⟨rfl, rfl, rfl⟩ := h
        obtain ⟨h1, h2⟩ := Xyk (k + 1) hr hob.2
        refine ⟨by simp [h1], fun i o' hi => ?_⟩
        have key : ∀ (l : List Xrd) (i : Nat) (e : X7l), Xhv l (i + 1) (fun j => decide (j < i)) e = e := by
          intro l
          induction l with
          | nil => intro _ _; rfl
          | cons s l ih =>
            intro i e
            simp only [Xhv]
            rw [if_neg (by simp)]
            have : ∀ (l : List Xrd) (i k : Nat) (e : X7l), i ≤ k → Xhv l k (fun j => decide (j < i)) e = e := by
              intro l
              induction l with
              | nil => intro _ _ _ _; rfl
              | cons s l ih => intro i k e hk; simp only [Xhv]; rw [if_neg (by simp; omega)]; exact ih i (k + 1) e (by omega)
            exact this l i (i + 1 + 1) e (by omega)
        have key2 : ∀ (l : List Xrd) (i k : Nat) (e : X7l), i ≤ k → Xhv l k (fun j => decide (j < i)) e = e := by
          intro l
          induction l with
          | nil => intro _ _ _ _; rfl
          | cons s l ih => intro i k e hk; simp only [Xhv]; rw [if_neg (by simp; omega)]; exact ih i (k + 1) e (by omega)
        cases i with
        | zero =>
          simp only [List.getElem?_cons_zero, Option.some.injEq] at hi
          subst hi
          refine ⟨rs, ef, ?_, hob.1, ?_⟩
          · simp only [Xhv, Nat.add_zero]
            rw [if_neg (by simp), key2 _ _ _ _ (by omega)]; exact hs
          · simp only [Xhv, Nat.add_zero, List.getElem?_cons_zero]
            rw [if_neg (by simp), key2 _ _ _ _ (by omega)]
        | succ i =>
          simp only [List.getElem?_cons_succ] at hi ⊢
          obtain ⟨rs1, ef', g1, g2, g3⟩ := h2 i o' hi
          simp only [Xhv]
          rw [if_pos (by simp), show k + (i + 1) = k + 1 + i by omega]
          exact ⟨rs1, ef', g1, g2, g3⟩

def Xuv (o : Oper) : List Nat := (o.after.toList.filter fun d => Region.binds .any d).map (·.on)
def Xz9 : List Oper → List (List Nat) → List (List Nat)
  | [], acc => acc
  | o :: r, acc => Xz9 r (acc ++ [((Xuv o).flatMap fun k => k :: acc.getD k []).eraseDups])
def Xkx : List Oper → Nat → Bool
  | [], _ => true
  | o :: r, i => (Xuv o).all (fun k => Nat.blt k i) && Xkx r (i + 1)
def Xu7 (os : List Oper) (b : Nat → Bool) : Prop := ∀ i o, os[i]? = some o → b i = true → ∀ k ∈ Xuv o, b k = true
theorem Xu4 {os : List Oper} {b : Nat → Bool} (hc : Xu7 os b) : ∀ (r : List Oper) (acc : List (List Nat)) (m : Nat), os.drop m = r → acc.length = m → (∀ i l, acc[i]? = some l → ∀ j ∈ l, b i = true → b j = true) →
    ∀ i l, (Xz9 r acc)[i]? = some l → ∀ j ∈ l, b i = true → b j = true
  | [], acc, m, _, _, h => h
  | o :: r, acc, m, hd, hl, h => by
    unfold Xz9
    have ho : os[m]? = some o := by
      have := congrArg (fun l => l[0]?) hd
      simpa using this
    refine Xu4 hc r _ (m + 1) ?_ (by simp [hl]) ?_
    · rw [← List.drop_drop, hd]; rfl
    · intro i l hi j hj hb
      by_cases hlt : i < acc.length
      · rw [List.getElem?_append_left hlt] at hi
        exact h i l hi j hj hb
      · rw [List.getElem?_append_right (by omega)] at hi
        have hi0 : i - acc.length = 0 := by
          have := (List.getElem?_eq_some_iff.1 hi).1
          simp at this; omega
        rw [hi0] at hi
        simp only [List.getElem?_cons_zero, Option.some.injEq] at hi
        subst hi
        have him : i = m := by omega
        subst him
        rw [List.mem_eraseDups, List.mem_flatMap] at hj
        obtain ⟨k, hk, hj⟩ := hj
        have hbk := hc i o ho hb k hk
        rcases List.mem_cons.1 hj with rfl | hj
        · exact hbk
        · cases hak : acc[k]? with
          | none => rw [List.getD_eq_getElem?_getD, hak] at hj; simp at hj
          | some l' => rw [List.getD_eq_getElem?_getD, hak] at hj; exact h k l' hak j hj hbk

def Xqu (s t : Xrd) : Bool := s.1.any fun y => Xya t.2 y.1 || wr t y.1
def Xw1 (A : List (List Nat)) (s : Xrd) (i : Nat) : List Xrd → Nat → Bool
  | [], _ => true
  | t :: r, j => (!(Xqu s t || Xqu t s) || (A.getD j []).contains i) && Xw1 A s i r (j + 1)
def Xre (A : List (List Nat)) : List Xrd → Nat → Bool
  | [], _ => true
  | s :: r, i => Xw1 A s i r (i + 1) && Xre A r (i + 1)
theorem Xs5 {A : List (List Nat)} {s : Xrd} {i : Nat} : ∀ {l : List Xrd} {j : Nat}, Xw1 A s i l j = true → ∀ k t, l[k]? = some t → (Xqu s t || Xqu t s) = true → i ∈ A.getD (j + k) []
  | [], _, _, k, t, h, _ => by simp at h
  | t0 :: l, j, h, k, t, hk, hc => by
    unfold Xw1 at h
    rw [Bool.and_eq_true] at h
    cases k with
    | zero =>
      simp only [List.getElem?_cons_zero, Option.some.injEq] at hk
      subst hk
      rw [hc] at h
      simpa using h.1
    | succ k =>
      have := Xs5 h.2 k t (by simpa using hk) hc
      rwa [show j + (k + 1) = j + 1 + k by omega]
theorem Xpa {A : List (List Nat)} : ∀ {l : List Xrd} {m : Nat}, Xre A l m = true → ∀ i j s t, l[i]? = some s → l[j]? = some t → i < j → (Xqu s t || Xqu t s) = true → (m + i) ∈ A.getD (m + j) []
  | [], _, _, i, j, s, t, h, _, _, _ => by simp at h
  | s0 :: l, m, h, i, j, s, t, hi, hj, hij, hc => by
    unfold Xre at h
    rw [Bool.and_eq_true] at h
    cases j with
    | zero => omega
    | succ j =>
      cases i with
      | zero =>
        simp only [List.getElem?_cons_zero, Option.some.injEq] at hi
        subst hi
        have := Xs5 h.1 j t (by simpa using hj) hc
        rwa [show m + (j + 1) = m + 1 + j by omega]
      | succ i =>
        have := Xpa h.2 i j s t (by simpa using hi) (by simpa using hj) (by omega) hc
        rwa [show m + (i + 1) = m + 1 + i by omega, show m + (j + 1) = m + 1 + j by omega]

theorem X1w : ∀ {os : List Oper} {m : Nat}, Xkx os m = true → ∀ i o, os[i]? = some o → ∀ k ∈ Xuv o, k < m + i
  | [], _, _, i, o, h => by simp at h
  | o0 :: os, m, h, i, o, hi => by
    unfold Xkx at h
    rw [Bool.and_eq_true, List.all_eq_true] at h
    cases i with
    | zero =>
      simp only [List.getElem?_cons_zero, Option.some.injEq] at hi
      subst hi
      intro k hk
      have := h.1 k hk
      simpa using this
    | succ i =>
      intro k hk
      have := X1w h.2 i o (by simpa using hi) k hk
      omega
end
open Go Go.RowKit

section
variable {P : Program} {L : List (Nat × Ty)} {ops : Array Oper} {e e' : X7l} {rs : List AV}

theorem Xi0 {listed : Array Bool} {i : Nat} : i ∈ Region.ready .any ops listed ↔ i < ops.size ∧ listed.getD i true = false ∧ ∃ o, ops[i]? = some o ∧ ∀ k ∈ Xuv o, listed.getD k false = true := by
  unfold Region.ready
  rw [List.mem_filter, List.mem_range, Bool.and_eq_true]
  constructor
  · rintro ⟨h1, h2, h3⟩
    refine ⟨h1, by simpa using h2, ?_⟩
    cases ho : ops[i]? with
    | none => rw [ho] at h3; simp at h3
    | some o =>
      rw [ho] at h3
      simp only [Option.map_some, Option.getD_some] at h3
      refine ⟨o, rfl, fun k hk => ?_⟩
      unfold Xuv at hk
      obtain ⟨d, hd, rfl⟩ := List.mem_map.1 hk
      rw [List.mem_filter] at hd
      have := Array.all_eq_true_iff_forall_mem.1 h3 d (by simpa using hd.1)
      rw [hd.2] at this
      simpa using this
  · rintro ⟨h1, h2, o, ho, h3⟩
    refine ⟨h1, by simpa using h2, ?_⟩
    rw [ho]
    simp only [Option.map_some, Option.getD_some]
    rw [Array.all_eq_true_iff_forall_mem]
    intro d hd
    cases hb : Region.binds .any d with
    | false => simp
    | true =>
      have := h3 d.on (by unfold Xuv; exact List.mem_map.2 ⟨d, List.mem_filter.2 ⟨by simpa using hd, hb⟩, rfl⟩)
      simpa using this

def X7h (listed : Array Bool) (j : Nat) : Bool := listed.getD j false
theorem Xwi (hL : Xe4 P L) (hm : P.follows .mixedOrders = true) {id : Nat} {Q : Exit → Act → World → Prop} {C : Cx} {l : List Xrd} {ob : Prop} {rs' : List AV} {β : Nat → Nat} {ω : Nat → Value} {a : Act} {w : World}
    (hrun : X2j P L ops ops.toList e rs = some (l, ob, rs')) (hob : ob) (hind : Xre (Xz9 ops.toList []) l 0 = true) (hlow : Xkx ops.toList 0 = true) (hN : ∀ o ∈ ops.toList, ∀ d, o.dst = some d → d < C.N)
    (hQ : ∀ β' ω' a' w', R C β' ω' (Xhv l 0 (fun _ => true) e) a' w' → Q .normal a' w') (hR : R C β ω e a w) : (Code.region id ops true).wp P Q a w := by
  obtain ⟨hlen, hat⟩ := Xyk 0 hrun hob
  have hlen' : l.length = ops.size := by simpa using hlen
  refine wp_region_any hm ?_
  have main : ∀ (fuel : Nat) (listed : Array Bool) (a : Act) (w : World), listed.size = ops.size → ((List.range ops.size).filter fun j => !X7h listed j).length = fuel → Xu7 ops.toList (X7h listed) →
      (∃ β ω, R C β ω (Xhv l 0 (X7h listed) e) a w) → wpAny P .any ops Q fuel listed a w := by
    intro fuel
    induction fuel with
    | zero =>
      intro listed a w hs hf hc ⟨β, ω, hR⟩
      have hall : ∀ j, j < ops.size → X7h listed j = true := by
        intro j hj
        have := List.eq_nil_of_length_eq_zero hf
        rw [List.filter_eq_nil_iff] at this
        simpa using this j (List.mem_range.2 hj)
      refine ⟨?_, ?_⟩
      · rw [List.eq_nil_iff_forall_not_mem]
        intro i hi
        obtain ⟨h1, h2, _⟩ := Xi0.1 hi
        have h3 := hall i h1
        have hsz : i < listed.size := by omega
        simp only [X7h, Array.getD, hsz, dif_pos] at h2 h3
        rw [h2] at h3; cases h3
      · refine hQ β ω a w ?_
        have : Xhv l 0 (X7h listed) e = Xhv l 0 (fun _ => true) e := by
          funext x
          refine Xms rfl (fun j s hj _ => ?_)
          have := (List.getElem?_eq_some_iff.1 hj).1
          rw [hall (0 + j) (by omega)]
        rw [this] at hR; exact hR
    | succ fuel ih =>
      intro listed a w hs hf hc ⟨β, ω, hR⟩
      refine ⟨fun hnil => ?_, fun i hi => ?_⟩
      · -- the X0j that is not listed is ready
        exfalso
        have hex : ∃ j, j < ops.size ∧ X7h listed j = false := by
          have hne : ((List.range ops.size).filter fun j => !X7h listed j) ≠ [] := by
            intro h0; rw [h0] at hf; simp at hf
          obtain ⟨j, hj⟩ := List.exists_mem_of_ne_nil _ hne
          rw [List.mem_filter, List.mem_range] at hj
          exact ⟨j, hj.1, by simpa using hj.2⟩
        have hmin : ∃ j, j < ops.size ∧ X7h listed j = false ∧ ∀ k, k < j → X7h listed k = true := by
          obtain ⟨j, hj, hl⟩ := hex
          have : ∀ m, m ≤ j → (∃ j, j < ops.size ∧ X7h listed j = false ∧ ∀ k, k < j → X7h listed k = true) ∨ ∀ k, k < m → X7h listed k = true := by
            intro m
            induction m with
            | zero => intro _; right; intro k hk; omega
            | succ m ihm =>
              intro hmj
              rcases ihm (by omega) with h | h
              · exact .inl h
              · cases hlm : X7h listed m with
                | false => exact .inl ⟨m, by omega, hlm, h⟩
                | true =>
                  right; intro k hk
                  by_cases hkm : k = m
                  · rw [hkm]; exact hlm
                  · exact h k (by omega)
          rcases this j (Nat.le_refl _) with h | h
          · exact h
          · exact ⟨j, hj, hl, h⟩
        obtain ⟨j, hj, hl, hk⟩ := hmin
        have : j ∈ Region.ready .any ops listed := Xi0.2 ⟨hj, by
          have hsz : j < listed.size := by omega
          simp only [X7h, Array.getD, hsz, dif_pos] at hl ⊢; exact hl, ops[j], Array.getElem?_eq_getElem hj, fun k hke => by
          have := X1w hlow j ops[j] (by simp [hj]) k hke
          exact hk k (by omega)⟩
        rw [hnil] at this; cases this
      · obtain ⟨h1, h2, o, ho, h3⟩ := Xi0.1 hi
        have ho' : ops.toList[i]? = some o := by simpa using ho
        obtain ⟨rs1, ef, g1, g2, g3⟩ := hat i o ho'
        simp only [Nat.zero_add] at g1 g3
        have hli : X7h listed i = false := by
          have hsz : i < listed.size := by omega
          simp only [X7h, Array.getD, hsz, dif_pos] at h2 ⊢; exact h2
        have hanc := Xu4 hc ops.toList [] 0 rfl rfl (fun i l h => by simp at h)
        have hancD : ∀ x y, y ∈ (Xz9 ops.toList []).getD x [] → X7h listed x = true → X7h listed y = true := by
          intro x y hy hx
          cases hq : (Xz9 ops.toList [])[x]? with
          | none => rw [List.getD_eq_getElem?_getD, hq] at hy; simp at hy
          | some l' => rw [List.getD_eq_getElem?_getD, hq] at hy; exact hanc x l' hq y hy hx
        -- the set with i added is closed, too
        let b' : Nat → Bool := fun j => if j = i then true else X7h listed j
        have hc' : Xu7 ops.toList b' := by
          intro j oj hj hb k hk
          simp only [b'] at hb ⊢
          split
          · rfl
          · by_cases hji : j = i
            · subst hji
              rw [ho'] at hj; simp only [Option.some.injEq] at hj; subst hj
              exact h3 k hk
            · rw [if_neg hji] at hb; exact hc j oj hj hb k hk
        have hancD' : ∀ x y, y ∈ (Xz9 ops.toList []).getD x [] → b' x = true → b' y = true := by
          intro x y hy hx
          have hanc' := Xu4 hc' ops.toList [] 0 rfl rfl (fun i l h => by simp at h)
          cases hq : (Xz9 ops.toList [])[x]? with
          | none => rw [List.getD_eq_getElem?_getD, hq] at hy; simp at hy
          | some l' => rw [List.getD_eq_getElem?_getD, hq] at hy; exact hanc' x l' hq y hy hx
        -- who touches what i touches is listed exactly if it stands before i
        have ord : ∀ j s, l[j]? = some s → j ≠ i → (Xqu s (ef.us, Xl5 ops (Xhv l 0 (fun j => decide (j < i)) e) o) || Xqu (ef.us, Xl5 ops (Xhv l 0 (fun j => decide (j < i)) e) o) s) = true → X7h listed j = decide (j < i) := by
          intro j s hj hji hcl
          rcases Nat.lt_or_gt_of_ne hji with hlt | hgt
          · have hm := Xpa hind j i s _ hj g3 hlt hcl
            simp only [Nat.zero_add] at hm
            have := hancD' i j hm (by simp [b'])
            simp only [b', if_neg hji] at this
            rw [this]; simp [hlt]
          · have hm := Xpa hind i j _ s g3 hj hgt (by rw [Bool.or_comm]; exact hcl)
            simp only [Nat.zero_add] at hm
            cases hlj : X7h listed j with
            | false => simp; omega
            | true => have := hancD j i hm hlj; rw [hli] at this; cases this
        have agree : ∀ x ∈ Xl5 ops (Xhv l 0 (fun j => decide (j < i)) e) o, Xhv l 0 (X7h listed) e x = Xhv l 0 (fun j => decide (j < i)) e x := by
          intro x hx
          refine Xms rfl (fun j s hj hw => ?_)
          simp only [Nat.zero_add]
          by_cases hji : j = i
          · subst hji; rw [hli]; simp
          · refine ord j s hj hji ?_
            rw [Bool.or_eq_true]; left
            unfold Xqu
            rw [List.any_eq_true]
            unfold wr at hw
            rw [List.any_eq_true] at hw
            obtain ⟨y, hy, hyx⟩ := hw
            refine ⟨y, hy, ?_⟩
            rw [Loc.beq_iff.1 hyx, Bool.or_eq_true]
            left; exact Xmi.2 hx
        have hst : Xr1 P L ops (Xhv l 0 (X7h listed) e) o rs1 = some ef := by rw [Xvr agree]; exact g1
        have hstp := Xw3 hL hst g2
        have hnext : Xa8 (Xhv l 0 (X7h listed) e) ef.us = Xhv l 0 (X7h (listed.setIfInBounds i true)) e := by
          have hsz : i < listed.size := by omega
          have hlst : ∀ j, X7h (listed.setIfInBounds i true) j = b' j := by
            intro j
            simp only [X7h, b', Array.getD_eq_getD_getElem?]
            by_cases hji : j = i
            · subst hji; simp [hsz]
            · rw [if_neg hji, Array.getElem?_setIfInBounds_ne (Ne.symm hji)]
          funext x
          have e0 : Xhv l 0 (X7h (listed.setIfInBounds i true)) e x = Xhv l 0 b' e x := Xms rfl (fun j s _ _ => hlst _)
          rw [e0]
          cases hw : wr (ef.us, Xl5 ops (Xhv l 0 (fun j => decide (j < i)) e) o) x with
          | true =>
            refine (Xtx (k := i) g3 hw (by simp [b']) (fun j s' hj hij hw' => ?_)).symm
            simp only [Nat.zero_add]
            have hji : j ≠ i := by omega
            simp only [b', if_neg hji]
            have := ord j s' hj hji (by
              rw [Bool.or_eq_true]; right
              unfold Xqu
              rw [List.any_eq_true]
              have hw0 := hw
              unfold wr at hw0
              rw [List.any_eq_true] at hw0
              obtain ⟨y, hy, hyx⟩ := hw0
              refine ⟨y, hy, ?_⟩
              rw [Loc.beq_iff.1 hyx, Bool.or_eq_true]
              right; exact hw')
            rw [this]; simp; omega
          | false =>
            rw [Xlu hw]
            refine Xms rfl (fun j s hj hw' => ?_)
            simp only [Nat.zero_add, b']
            by_cases hji : j = i
            · subst hji
              rw [g3] at hj; simp only [Option.some.injEq] at hj; subst hj
              rw [hw] at hw'; cases hw'
            · rw [if_neg hji]
        have hdstN : ∀ d, o.dst = some d → d < C.N := hN o (List.mem_of_getElem? ho')
        have hstep := hstp C β ω a w (fun a' w' => wpAny P .any ops Q fuel (listed.setIfInBounds i true) a' w') Q hR hdstN (fun β' ω' a' w' h' => by
          refine ih _ a' w' (by simpa using hs) ?_ ?_ ⟨β', ω', by rw [← hnext]; exact h'⟩
          · -- one fewer
            have hsz : i < listed.size := by omega
            have hlst : ∀ j, X7h (listed.setIfInBounds i true) j = if j = i then true else X7h listed j := by
              intro j
              simp only [X7h, Array.getD_eq_getD_getElem?]
              by_cases hji : j = i
              · subst hji; simp [hsz]
              · rw [if_neg hji, Array.getElem?_setIfInBounds_ne (Ne.symm hji)]
            have cnt : ∀ (r : List Nat), r.Nodup → i ∈ r → (r.filter fun j => !X7h (listed.setIfInBounds i true) j).length + 1 = (r.filter fun j => !X7h listed j).length := by
              intro r
              induction r with
              | nil => intro _ h; cases h
              | cons x r ihr =>
                intro hnd hmem
                rw [List.nodup_cons] at hnd
                rw [List.filter_cons, List.filter_cons]
                by_cases hxi : x = i
                · subst hxi
                  have : (r.filter fun j => !X7h (listed.setIfInBounds x true) j) = r.filter fun j => !X7h listed j := List.filter_congr (fun j hj => by
                    rw [hlst, if_neg (fun (hjx : j = x) => hnd.1 (by rw [← hjx]; exact hj))])
                  rw [this, hlst, if_pos rfl, hli]; simp
                · have := ihr hnd.2 ((List.mem_cons.1 hmem).resolve_left (Ne.symm hxi))
                  rw [hlst, if_neg hxi]
                  cases X7h listed x <;> simp <;> omega
            have := cnt (List.range ops.size) List.nodup_range (List.mem_range.2 h1)
            omega
          · intro j oj hj hb k hk
            have hsz : i < listed.size := by omega
            have hlst : ∀ j, X7h (listed.setIfInBounds i true) j = b' j := by
              intro j
              simp only [X7h, b', Array.getD_eq_getD_getElem?]
              by_cases hji : j = i
              · subst hji; simp [hsz]
              · rw [if_neg hji, Array.getElem?_setIfInBounds_ne (Ne.symm hji)]
            rw [hlst] at hb ⊢
            exact hc' j oj hj hb k hk)
        unfold wpOp
        rw [ho]
        simp only
        split
        · rename_i hw; rw [if_pos hw] at hstep; exact .inl hstep
        · rename_i hw; rw [if_neg hw] at hstep; exact hstep
  refine main ops.size _ a _ (by simp) ?_ ?_ ⟨β, ω, ?_⟩
  · have : ∀ j, X7h (Array.replicate ops.size false) j = false := by
      intro j; simp [X7h, Array.getD_eq_getD_getElem?, Array.getElem?_replicate]; split <;> simp
    rw [List.filter_eq_self.2 (fun j _ => by rw [this]; rfl), List.length_range]
  · intro i o _ hb
    have : X7h (Array.replicate ops.size false) i = false := by
      simp [X7h, Array.getD_eq_getD_getElem?, Array.getElem?_replicate]; split <;> simp
    rw [this] at hb; cases hb
  · have h0 : Xhv l 0 (X7h (Array.replicate ops.size false)) e = e := by
      have key : ∀ (l : List Xrd) (i : Nat) (e : X7l), Xhv l i (X7h (Array.replicate ops.size false)) e = e := by
        intro l
        induction l with
        | nil => intro _ _; rfl
        | cons s l ih =>
          intro i e
          have : X7h (Array.replicate ops.size false) i = false := by
            simp [X7h, Array.getD_eq_getD_getElem?, Array.getElem?_replicate]; split <;> simp
          simp only [Xhv, this, Bool.false_eq_true, if_false]; exact ih _ _
      exact key _ _ _
    rw [h0]
    exact Xy9 hR ⟨rfl, rfl, rfl, Nat.le_refl _, fun _ _ => rfl⟩
end
open Go Go.RowKit

def Xez : List (Loc × LV) → X7l
  | [] => fun _ => ⟨0, false, .none⟩
  | (l, x) :: r => fun l' => if l'.beq l = true then x else Xez r l'
def Xhb (live : List (Loc × LV)) : Bool := live.all fun x => x.2.v.refs.all fun l => Xya (live.map (·.1)) l

theorem Xus {live : List (Loc × LV)} {e : X7l} (h : live.map (fun x => e x.1) = live.map (·.2)) {x : Loc} (hx : x ∈ live.map (·.1)) : Xez live x = e x := by
  induction live with
  | nil => simp at hx
  | cons y r ih =>
    obtain ⟨l, v⟩ := y
    simp only [List.map_cons, List.cons.injEq] at h
    simp only [Xez]
    split
    · rename_i hb; rw [Loc.beq_iff.1 hb]; exact h.1.symm
    · rename_i hb
      simp only [List.map_cons, List.mem_cons] at hx
      exact ih h.2 (hx.resolve_left (fun hc => hb (Loc.beq_iff.2 hc)))
theorem Xi1 {live : List (Loc × LV)} {x : Loc} (hx : x ∉ live.map (·.1)) : Xez live x = ⟨0, false, .none⟩ := by
  induction live with
  | nil => rfl
  | cons y r ih =>
    obtain ⟨l, v⟩ := y
    simp only [List.map_cons, List.mem_cons, not_or] at hx
    simp only [Xez]
    rw [if_neg (fun hb => hx.1 (Loc.beq_iff.1 hb))]
    exact ih hx.2
theorem X0h {live : List (Loc × LV)} {x : Loc} (hx : x ∈ live.map (·.1)) : ∃ y ∈ live, Xez live x = y.2 := by
  induction live with
  | nil => simp at hx
  | cons y r ih =>
    obtain ⟨l, v⟩ := y
    simp only [Xez]
    split
    · exact ⟨(l, v), by simp, rfl⟩
    · rename_i hb
      simp only [List.map_cons, List.mem_cons] at hx
      obtain ⟨z, h1, h2⟩ := ih (hx.resolve_left (fun hc => hb (Loc.beq_iff.2 hc)))
      exact ⟨z, by simp [h1], h2⟩
theorem X1e {v : AV} {d : Nat} (h : Loc.b d ∉ v.refs) : v.noB d = true := by
  cases v <;> try rfl
  · rename_i d' k off p
    simp only [AV.refs, List.mem_singleton, Loc.b.injEq] at h
    simp only [AV.noB]
    cases hb : Nat.beq d' d with
    | true => exact absurd (Nat.eq_of_beq_eq_true hb).symm h
    | false => rfl
  · rename_i f caps
    simp only [AV.refs, List.mem_map, not_exists, not_and, Loc.b.injEq] at h
    simp only [AV.noB, List.all_eq_true]
    intro dk hdk
    cases hb : Nat.beq dk.1 d with
    | true => exact absurd (Nat.eq_of_beq_eq_true hb) (h dk hdk)
    | false => rfl
theorem X1c {v : AV} {g : Nat} (h : Loc.o g ∉ v.refs) : v.noO g = true := by
  cases v <;> try rfl
  · rename_i g' k
    simp only [AV.refs, List.mem_singleton, Loc.o.injEq] at h
    simp only [AV.noO]
    cases hb : Nat.beq g' g with
    | true => exact absurd (Nat.eq_of_beq_eq_true hb).symm h
    | false => rfl
  · rename_i g' k sz i off p
    simp only [AV.refs, List.mem_singleton, Loc.o.injEq] at h
    simp only [AV.noO]
    cases hb : Nat.beq g' g with
    | true => exact absurd (Nat.eq_of_beq_eq_true hb).symm h
    | false => rfl
  · rename_i g' k sz lo n
    simp only [AV.refs, List.mem_singleton, Loc.o.injEq] at h
    simp only [AV.noO]
    cases hb : Nat.beq g' g with
    | true => exact absurd (Nat.eq_of_beq_eq_true hb).symm h
    | false => rfl
def X5m (N : Nat) (C : Cx) : Prop := C.N = N ∧ (C.K = none ∨ ∃ u, C.K = some (N, 1, u))
theorem Xl4 {N : Nat} {C : Cx} {β : Nat → Nat} {ω : Nat → Value} {e : X7l} {a : Act} {w : World} (h : R C β ω e a w) {live : List (Loc × LV)} (hC : X5m N C) (hv : live.map (fun x => e x.1) ++ [e (.o N)] = live.map (·.2) ++ [Xez live (.o N)]) (hl : Xhb live = true) : R C β ω (Xez live) a w := by
  obtain ⟨hv, hO⟩ := List.append_inj' hv rfl
  simp only [List.cons.injEq, and_true] at hO
  have hrefs : ∀ t l, l ∈ (Xez live (.t t)).v.refs → l ∈ live.map (·.1) := by
    intro t l hm
    by_cases ht : Loc.t t ∈ live.map (·.1)
    · obtain ⟨y, h1, h2⟩ := X0h ht
      rw [h2] at hm
      unfold Xhb at hl
      rw [List.all_eq_true] at hl
      have := List.all_eq_true.1 (hl y h1) l hm
      exact Xmi.1 this
    · rw [Xi1 ht] at hm; simp [AV.refs] at hm
  refine X30 h (fun t => ?_) (fun d => ?_) (fun g => ?_) (fun g k u hK => ?_)
  · by_cases ht : Loc.t t ∈ live.map (·.1)
    · exact .inl (Xus hv ht)
    · right; rw [Xi1 ht]; exact ⟨rfl, rfl⟩
  · by_cases hd : Loc.b d ∈ live.map (·.1)
    · exact .inl (Xus hv hd)
    · right; rw [Xi1 hd]; exact ⟨rfl, fun t => X1e (fun hm => hd (hrefs t _ hm))⟩
  · by_cases hd : Loc.o g ∈ live.map (·.1)
    · exact .inl (Xus hv hd)
    · right; rw [Xi1 hd]; exact ⟨rfl, fun t => X1c (fun hm => hd (hrefs t _ hm))⟩
  · rcases hC.2 with hc | ⟨u', hc⟩
    · rw [hc] at hK; cases hK
    · rw [hc] at hK; simp only [Option.some.injEq, Prod.mk.injEq] at hK
      rw [← hK.1]; exact hO.symm

def X6t (P : Program) (N : Nat) (c : Code) (Q : Exit → X7l → Prop) (e : X7l) : Prop :=
  ∀ (C : Cx) (β : Nat → Nat) (ω : Nat → Value) (a : Act) (w : World), X5m N C → R C β ω e a w → c.wp P (fun en a' w' => ∃ e' β' ω', Q en e' ∧ R C β' ω' e' a' w') a w

section
variable {P : Program} {L : List (Nat × Ty)} {N : Nat} {Q : Exit → X7l → Prop} {e : X7l}

def X2k (P : Program) (N : Nat) (y : Code) (Q : Exit → X7l → Prop) : Exit → X7l → Prop
  | .normal, e => X6t P N y Q e
  | en, e => Q en e
theorem Xe {x y : Code} (h : X6t P N x (X2k P N y Q) e) : X6t P N (.seq x y) Q e := by
  intro C β ω a w hN hR
  refine wp_seq (wp_mono (h C β ω a w hN hR) ?_)
  rintro en a' w' ⟨e', β', ω', hq, hR'⟩
  cases en with
  | normal => exact hq C β' ω' a' w' hN hR'
  | _ => exact ⟨e', β', ω', hq, hR'⟩
theorem Xn (h : Q .normal e) : X6t P N .skip Q e := fun _ β ω _ _ _ hR => wp_skip ⟨e, β, ω, h, hR⟩
theorem Xg (h : Q .ret e) : X6t P N .ret Q e := fun _ β ω _ _ _ hR => wp_ret ⟨e, β, ω, h, hR⟩
theorem Z3 {id : Nat} (h : Q (.exit id) e) : X6t P N (.exit id) Q e := fun _ β ω _ _ _ hR => wp_exit ⟨e, β, ω, h, hR⟩
theorem X06 {c : Operand} {x y : Code} {b : Bool} (hc : X73 e c = .bool b) (hx : b = true → X6t P N x Q e) (hy : b = false → X6t P N y Q e) : X6t P N (.cond c x y) Q e := by
  intro C β ω a w hN hR
  have h1 := Xok hR hc
  exact wp_cond_split h1 (fun h => hx h C β ω a w hN hR) (fun h => hy h C β ω a w hN hR)
def X1v (id : Nat) (Q : Exit → X7l → Prop) : Exit → X7l → Prop
  | .exit id', e => if Nat.beq id' id = true then Q .normal e else Q (.exit id') e
  | en, e => Q en e
theorem X6 {id : Nat} {c : Code} (h : X6t P N c (X1v id Q) e) : X6t P N (.block id c) Q e := by
  intro C β ω a w hN hR
  refine wp_block (wp_mono (h C β ω a w hN hR) ?_)
  rintro en a' w' ⟨e', β', ω', hq, hR'⟩
  cases en with
  | exit id' =>
    simp only [X1v] at hq
    simp only [Exit.inBlock]
    by_cases hi : id' = id
    · subst hi; rw [if_pos (Nat.beq_refl _)] at hq; rw [if_pos rfl]; exact ⟨e', β', ω', hq, hR'⟩
    · rw [if_neg (fun hb => hi (Nat.eq_of_beq_eq_true hb))] at hq; rw [if_neg hi]; exact ⟨e', β', ω', hq, hR'⟩
  | _ => exact ⟨e', β', ω', hq, hR'⟩
theorem X2b {p : Nat → Prop} : ∀ (n k : Nat), k ≤ n → p k → ∃ m, p m ∧ ∀ j, p j → m ≤ j
  | 0, k, hk, h => ⟨0, by have : k = 0 := by omega
                          rwa [this] at h, fun _ _ => Nat.zero_le _⟩
  | n + 1, k, hk, h => by
    by_cases hl : ∃ j, p j ∧ j < k
    · obtain ⟨j, hj, hjk⟩ := hl
      exact X2b n j (by omega) hj
    · exact ⟨k, h, fun j hj => Nat.le_of_not_lt (fun hc => hl ⟨j, hj, hc⟩)⟩
theorem X0j {p : Nat → Prop} (h : ∃ n, p n) : ∃ m, p m ∧ ∀ j, p j → m ≤ j := let ⟨k, hk⟩ := h; X2b k k (Nat.le_refl _) hk
open Classical in
noncomputable def Xpf (p : Nat → Prop) : Nat := if h : ∃ n, p n then Classical.choose (X0j h) else 0
theorem Xtf {p : Nat → Prop} (h : ∃ n, p n) : p (Xpf p) := by
  unfold Xpf; rw [dif_pos h]; exact (Classical.choose_spec (X0j h)).1
theorem Xxl {p : Nat → Prop} {j : Nat} (h : p j) : Xpf p ≤ j := by
  unfold Xpf; rw [dif_pos ⟨j, h⟩]; exact (Classical.choose_spec (X0j ⟨j, h⟩)).2 j h
theorem X0e {c : Code} {Q' : Exit → X7l → Prop} (h : X6t P N c Q e) (hq : ∀ en e, Q en e → Q' en e) : X6t P N c Q' e := by
  intro C β ω a w hN hR
  refine wp_mono (h C β ω a w hN hR) ?_
  rintro en a' w' ⟨e', β', ω', h1, h2⟩
  exact ⟨e', β', ω', hq _ _ h1, h2⟩
theorem Xcz {c : Code} {live : List (Loc × LV)} (hv : live.map (fun x => e x.1) ++ [e (.o N)] = live.map (·.2) ++ [Xez live (.o N)]) (hl : Xhb live = true) (h : X6t P N c Q (Xez live)) : X6t P N c Q e :=
  fun C β ω a w hN hR => h C β ω a w hN (Xl4 hR hN hv hl)

def X36 (P : Program) (L : List (Nat × Ty)) (ops : Array Oper) (N : Nat) (draw : Bool) (e : X7l) (rs : List AV) (locs : List Loc) : Option (Prop × List LV) :=
  match ops.toList.all (fun o => match o.dst with | some d => Nat.blt d N | Option.none => true), draw with
  | true, false => (match X3x P L ops ops.toList e rs with
    | some (e', ob, []) => some (ob, locs.map e')
    | _ => Option.none)
  | true, true => (match X2j P L ops ops.toList e rs with
    | some (l, ob, []) => (match Xre (Xz9 ops.toList []) l 0 && Xkx ops.toList 0 with
      | true => some (ob, locs.map (Xhv l 0 (fun _ => true) e))
      | false => Option.none)
    | _ => Option.none)
  | false, _ => Option.none
def tr : Nat → Prop → Prop
  | 0, p => p
  | n + 1, p => True ∧ tr n p
theorem Xzl {n : Nat} {p : Prop} (h : p) : tr n p := by
  induction n with
  | zero => exact h
  | succ n ih => exact ⟨trivial, ih⟩
theorem Xmw (hL : Xe4 P L) (hm : P.follows .mixedOrders = true) {id : Nat} {ops : Array Oper} {draw : Bool} (rs : List AV) (live : List (Loc × LV)) (ob : Prop) (h : X36 P L ops N draw e rs (live.map (·.1) ++ [.o N]) = some (ob, live.map (·.2) ++ [Xez live (.o N)])) (hob : ob) (hl : Xhb live = true) (hQ : Q .normal (Xez live)) : X6t P N (.region id ops draw) Q e := by
  intro C β ω a w hN hR
  unfold X36 at h
  split at h
  · rename_i hd
    rw [List.all_eq_true] at hd
    have hdst : ∀ o ∈ ops.toList, ∀ d, o.dst = some d → d < C.N := fun o ho d hod => by
      have := hd o ho
      rw [hod] at this
      rw [hN.1]; simpa using this
    split at h
    · rename_i e' ob' hr
      simp only [Option.some.injEq, Prod.mk.injEq] at h
      obtain ⟨rfl, hv⟩ := h
      refine wp_region_list (Xnn hL hr hob hdst (fun β' ω' a' w' h' => ?_) hR)
      exact ⟨_, β', ω', hQ, Xl4 h' hN (by rw [List.map_append, List.map_map] at hv; exact hv) hl⟩
    · cases h
  · rename_i hd
    rw [List.all_eq_true] at hd
    have hdst : ∀ o ∈ ops.toList, ∀ d, o.dst = some d → d < C.N := fun o ho d hod => by
      have := hd o ho
      rw [hod] at this
      rw [hN.1]; simpa using this
    split at h
    · rename_i l ob' hr
      split at h
      · rename_i hi
        rw [Bool.and_eq_true] at hi
        simp only [Option.some.injEq, Prod.mk.injEq] at h
        obtain ⟨rfl, hv⟩ := h
        refine Xwi hL hm hr hob hi.1 hi.2 hdst (fun β' ω' a' w' h' => ?_) hR
        exact ⟨_, β', ω', hQ, Xl4 h' hN (by rw [List.map_append, List.map_map] at hv; exact hv) hl⟩
      · cases h
    · cases h
  · cases h

def X16 (L : List (Nat × Ty)) (e : X7l) : List ResultVar → Option (List AV)
  | [] => some []
  | .tmp t :: r => (match (e (.t t)).live, X70 (Xuk e (e (.t t)).v) with
    | false, true => (match X16 L e r with
      | some vs => some (Xuk e (e (.t t)).v :: vs)
      | Option.none => Option.none)
    | _, _ => Option.none)
  | .cell t T :: r => (match (e (.t t)).live, (e (.t t)).v, Xdu L T with
    | false, .ptr d k off p, some ty => (match Nat.beq k (e (.b d)).k && Nat.beq ((e (.b d)).v.at p) off && Xrb ((e (.b d)).v.get p) ty with
      | true => (match X16 L e r with
        | some vs => some ((e (.b d)).v.get p :: vs)
        | Option.none => Option.none)
      | false => Option.none)
    | _, _, _ => Option.none)
def Xca (L : List (Nat × Ty)) (e : X7l) (rs : List ResultVar) : Option AV := match X16 L e rs with
  | some [v] => some v
  | some vs => some (.tup vs)
  | Option.none => Option.none
theorem Xul (hL : Xe4 P L) {C : Cx} {β : Nat → Nat} {ω : Nat → Value} {a : Act} {w : World} (h : R C β ω e a w) : ∀ {rs : List ResultVar} {vs : List AV}, X16 L e rs = some vs →
    ∃ us : List Value, (rs.mapM (m := Sem) fun r => match r with | .tmp t => pure (a.tmps.getD t undef) | .cell x t => do loadVar t (← asAddr (a.tmps.getD x undef))).run P w = .ok us w ∧ Xlk (Sh C β ω e) w vs us
  | [], vs, hv => by
    simp only [X16, Option.some.injEq] at hv; subst hv
    exact ⟨[], rfl, rfl⟩
  | .tmp t :: r, vs, hv => by
    unfold X16 at hv
    split at hv
    · rename_i hl hd
      split at hv
      · rename_i vs' hr
        simp only [Option.some.injEq] at hv; subst hv
        obtain ⟨us, h1, h2⟩ := Xul hL h hr
        refine ⟨a.tmps.getD t undef :: us, ?_, ⟨_, _, rfl, Xm6 h (h.tm t hl) hd, h2⟩⟩
        rw [List.mapM_cons]
        simp only [Sem.run_bind, Sem.run_pure, Result.andThen_ok, h1]
      · cases hv
    · cases hv
  | .cell t T :: r, vs, hv => by
    unfold X16 at hv
    split at hv
    · rename_i d k off p ty hl hx hT
      split at hv
      · rename_i hc
        simp only [Bool.and_eq_true] at hc
        split at hv
        · rename_i vs' hr
          simp only [Option.some.injEq] at hv; subst hv
          obtain ⟨us, h1, h2⟩ := Xul hL h hr
          obtain ⟨f1, f2, f3⟩ := Xlt hc.2
          have hp := h.tm t hl
          rw [hx] at hp
          have hpt := hp.2 (Nat.eq_of_beq_eq_true hc.1.1)
          have hn := Xfl (S := fun _ => True) f1
          have hn' : (e (.b d)).v ≠ .none := fun hn' => by rw [hn'] at hn; exact hn (by cases p <;> rfl)
          obtain ⟨_, _, cs, T', h3, h4⟩ := h.bx d hn'
          obtain ⟨c1, c2, c3, h5, h6, h7⟩ := Xi5 p h4 hn
          have h8 := Xfs h3 h5 (h6.trans (Nat.eq_of_beq_eq_true hc.1.2))
          obtain ⟨v, h9, h10⟩ := Xi7 (P := P) (Xx9 (Xau hL hT)) h7 h8 f2 f3
          refine ⟨v :: us, ?_, ⟨_, _, rfl, h10, h2⟩⟩
          have hA : (asAddr (a.tmps.getD t undef)).run P w = .ok ⟨β d, off, Option.none⟩ w := by rw [hpt]; rfl
          rw [List.mapM_cons]
          simp only [Sem.run_bind, hA, Sem.run_pure, Result.andThen_ok, h9, h1]
        · cases hv
      · cases hv
    · cases hv
theorem Xzm (hL : Xe4 P L) {C : Cx} {β : Nat → Nat} {ω : Nat → Value} {a : Act} {w : World} (h : R C β ω e a w) {fn : Func} {r : AV} (hr : Xca L e fn.results.toList = some r) :
    ∃ v, (results fn a.tmps).run P w = .ok v w ∧ Xtn (Sh C β ω e) w r v := by
  unfold Xca at hr
  have key : ∀ vs, X16 L e fn.results.toList = some vs → ∃ us : List Value, (results fn a.tmps).run P w = .ok (if h : us.toArray.size = 1 then us.toArray[0] else .tuple us.toArray) w ∧ Xlk (Sh C β ω e) w vs us := by
    intro vs hvs
    obtain ⟨us, h1, h2⟩ := Xul hL h hvs
    refine ⟨us, ?_, h2⟩
    unfold results
    rw [Array.mapM_eq_mapM_toList]
    simp only [map_eq_pure_bind, Sem.run_bind, Sem.run_pure]
    exact (congrArg (fun z : Result (List Value) => (z.andThen fun a w' => Result.ok a.toArray w').andThen fun a w' => Result.ok (if h : a.size = 1 then a[0] else Value.tuple a) w') h1).trans rfl
  split at hr
  · rename_i v0 hv
    simp only [Option.some.injEq] at hr; subst hr
    obtain ⟨us, h1, h2⟩ := key _ hv
    obtain ⟨u, rest, rfl, h3, h4⟩ := h2
    unfold Xlk at h4; subst h4
    refine ⟨u, by rw [h1]; simp, (Xi6 (X3a h3)).2 h3⟩
  · rename_i vs hne hv
    simp only [Option.some.injEq] at hr; subst hr
    obtain ⟨us, h1, h2⟩ := key _ hv
    have hl := Xtv h2
    have : ¬ us.toArray.size = 1 := by
      intro hs
      have : vs.length = 1 := by rw [← hl]; simpa using hs
      obtain ⟨v, rfl⟩ := List.length_eq_one_iff.1 this
      exact hne v rfl
    rw [dif_neg this] at h1
    exact ⟨_, h1, us.toArray, rfl, by simpa using h2⟩
  · cases hr

def X60 : AV → Bool
  | .rptr v => X70 v
  | .fn _ => true
  | v => X70 v
def X4v (args : List AV) : X7l := fun l => match l with
  | .t t => ⟨0, false, args.getD t .none⟩
  | _ => ⟨0, false, .none⟩
theorem Xma {S : Nat → Prop} {w : World} : ∀ {xs : List AV} {vs : List Value} {i : Nat}, Xiz S w xs vs → i < xs.length → ∃ v, vs[i]? = some v ∧ X11 S w (xs.getD i .none) v
  | [], _, i, _, h => by simp at h
  | x :: xs, vs, i, h, hi => by
    obtain ⟨v, rest, rfl, h1, h2⟩ := h
    cases i with
    | zero => exact ⟨v, rfl, h1⟩
    | succ i =>
      obtain ⟨u, h3, h4⟩ := Xma h2 (by simpa using hi)
      exact ⟨u, by simpa using h3, by simpa using h4⟩
theorem Xkb {S : Nat → Prop} {w : World} : ∀ {xs : List AV} {vs : List Value}, Xiz S w xs vs → vs.length = xs.length
  | [], vs, h => by unfold Xiz at h; subst h; rfl
  | x :: xs, vs, h => by obtain ⟨v, rest, rfl, _, h2⟩ := h; simp [Xkb h2]
theorem Xzj {ntmps : Nat} {S : Nat → Prop} {w : World} {args : List AV} {vs : List Value} (hS : ∀ b, S b → b < w.heap.size) (hvs : Xiz S w args vs) (hn : ntmps = N) (hlen : Nat.ble args.length N = true) (ha : args.all X60 = true) :
    R ⟨S, w.heap.size, w, N, fun _ => False, none⟩ (fun _ => 0) (fun _ => undef) (X4v args) { tmps := vs.toArray ++ Array.replicate (ntmps - vs.toArray.size) undef, defers := [] } w := by
    have hl := Xkb hvs
    have hle : args.length ≤ N := Nat.le_of_ble_eq_true hlen
    let C : Cx := ⟨S, w.heap.size, w, N, fun _ => False, none⟩
    have hsh : ∀ b, S b → Sh C (fun _ => 0) (fun _ => undef) (X4v args) b := fun b hb => ⟨.inl hb, by
      rintro (⟨d, k1, _⟩ | ⟨g, k1, _⟩) <;> exact k1 rfl⟩
    refine ⟨?_, rfl, BelX.of (Below.refl _ _), Nat.le_refl _, hS, fun t _ => ?_, fun t ht => (by cases ht), fun d hd => absurd rfl hd, fun d _ hd => absurd rfl hd, fun g => trivial, fun g _ _ hg => absurd rfl hg, fun g _ hg => absurd rfl hg, fun g k u hK => by cases hK⟩
    · simp [C, hl, hn]; omega
    · by_cases ht : t < args.length
      · obtain ⟨v, h1, h2⟩ := Xma hvs ht
        have hv : ({ tmps := vs.toArray ++ Array.replicate (ntmps - vs.toArray.size) undef, defers := [] } : Act).tmps.getD t undef = v := by
          have : t < vs.length := by omega
          have h1' : vs[t] = v := by rw [List.getElem?_eq_getElem this] at h1; simpa using h1
          simp [Array.getD_eq_getD_getElem?, Array.getElem?_append, this, h1']
        rw [hv]
        have hA : X60 (args.getD t .none) = true := by
          rw [List.all_eq_true] at ha
          have : args.getD t .none = args[t] := by simp [List.getD, ht]
          rw [this]; exact ha _ (List.getElem_mem _)
        show Xky _ _ _ _ _ (args.getD t .none) v
        generalize args.getD t .none = x at *
        by_cases hd : X70 x = true
        · rw [Xom hd] at h2
          exact (Xbk hd).2 (Xb2 (fun b hb _ => ⟨hsh b hb, rfl⟩) (Nat.le_refl _) h2)
        · cases x <;> try (exact absurd hA hd)
          · obtain ⟨ad, mem, k1, k2, k3, k4, k5, k6⟩ := h2
            exact ⟨ad, mem, k1, k2, hsh _ k3, k4, Xcx (fun b hb _ => ⟨hsh b hb, rfl⟩) (Nat.le_refl _) k5, k6⟩
          · exact h2
      · have : args.getD t .none = .none := by simp [List.getD, List.getElem?_eq_none (Nat.le_of_not_lt ht)]
        show Xky _ _ _ _ _ (args.getD t .none) _
        rw [this]; trivial
def X52 (L : List (Nat × Ty)) (rv : List ResultVar) (r : AV) : Exit → X7l → Prop
  | .ret, e => Xca L e rv = some r
  | .normal, e => Xca L e rv = some r
  | _, _ => False
theorem Xge (hL : Xe4 P L) {f : Nat} {fn : Func} {c : Code} {args : List AV} {r : AV} (hf : P.funcs[f]? = some fn) (hb : fn.body = some c) (hname : (fn.name == "runtime.NumGoroutine") = false) (hn : fn.ntmps = N) (hlen : Nat.ble args.length N = true) (ha : args.all X60 = true) (hr : X7b r = true)
    (h : X6t P N c (X52 L fn.results.toList r) (X4v args)) : CS P f args r := by
  refine ⟨fun as w => ?_, hr, fun S w vs hS hvs => ?_⟩
  · unfold callFunc
    have hbn : fn.body.isNone = false := by rw [hb]; rfl
    simp only [program, Sem.run_bind, Sem.run, Result.andThen_ok, hf, hname, hbn, Bool.false_eq_true, if_false, Sem.run_pure]
  · have hl := Xkb hvs
    have hle : args.length ≤ N := Nat.le_of_ble_eq_true hlen
    refine calls_of_wp hf hb ?_
    have hR := Xzj (N := N) (ntmps := fn.ntmps) hS hvs hn hlen ha
    refine wp_mono (h _ _ _ _ _ ⟨rfl, .inl rfl⟩ hR) ?_
    rintro en a' w' ⟨e', β', ω', hq, hR'⟩
    have fin : Xca L e' fn.results.toList = some r → ∃ v, (results fn a'.tmps).run P w' = .ok v w' ∧ Below w.heap.size w w' ∧ Xtn (fun b => S b ∨ w.heap.size ≤ b) w' r v := by
      intro hres
      obtain ⟨v, h1, h2⟩ := Xzm hL hR' hres
      exact ⟨v, h1, ⟨hR'.bel.os, hR'.bel.tape, hR'.bel.output, hR'.bel.size, fun k hk => hR'.bel.block k hk id⟩, Xug (fun b hb _ => ⟨hb.1.imp id (fun h => h.resolve_right id), rfl⟩) (Nat.le_refl _) h2⟩
    cases en with
    | normal =>
      obtain ⟨v, h1, h2, h3⟩ := fin hq
      exact bodyPost_end h1 hR'.df ⟨v, rfl, h2, h3⟩
    | ret =>
      obtain ⟨v, h1, h2, h3⟩ := fin hq
      exact bodyPost_ret h1 hR'.df ⟨v, rfl, h2, h3⟩
    | exit id => exact hq.elim
    | goto l => exact hq.elim
    | panic ch => exact hq.elim
    | outgrown => exact hq.elim
end
open Go Go.RowKit

theorem X5u {C : Cx} {β : Nat → Nat} {ω : Nat → Value} {e e' : X7l} {a : Act} {w : World} (h : R C β ω e a w)
    (hb : ∀ d, (e' (.b d)).v = (e (.b d)).v ∧ (e' (.b d)).live = (e (.b d)).live)
    (ho : ∀ g, (e' (.o g)).v = (e (.o g)).v ∧ (e' (.o g)).live = (e (.o g)).live)
    (ht : ∀ t, (e' (.t t)).live = (e (.t t)).live ∧ ∀ (S : Nat → Prop) (v : Value), Xky S w β ω e (e (.t t)).v v → Xky S w β ω e' (e' (.t t)).v v) (hx : ∀ g k u, C.K = some (g, k, u) → k ≤ (e' (.o g)).k ∧ ((e' (.o g)).k = k → (e (.o g)).k = k)) : R C β ω e' a w := by
  have hp : ∀ b, Xn9 β ω e' b ↔ Xn9 β ω e b := fun b => by unfold Xn9; simp only [(hb _).1, (hb _).2, (ho _).1, (ho _).2]
  have hS : Sh C β ω e' = Sh C β ω e := by
    funext b; unfold Sh; rw [hp]
  refine ⟨h.n, h.df, h.bel, h.hb, h.sb, fun t hl => ?_, fun t hl => ?_, fun d hd => ?_, fun d d' hd hd' => ?_, fun g => ?_, fun g g' b h1 h2 h3 h4 => ?_, fun g d h1 h2 h3 => ?_, fun g k u hK => ⟨(hx g k u hK).1, fun hk => (h.kx g k u hK).2 ((hx g k u hK).2 hk)⟩⟩
  · rw [hS]; exact (ht t).2 _ _ (h.tm t (by rw [← (ht t).1]; exact hl))
  · exact h.tu t (by rw [← (ht t).1]; exact hl)
  · rw [hS, (hb d).1]; exact h.bx d (by rw [← (hb d).1]; exact hd)
  · exact h.bi d d' (by rw [← (hb d).1]; exact hd) (by rw [← (hb d').1]; exact hd')
  · have := h.ow g
    unfold X7s at *
    rw [hS, (ho g).1, (ho g).2]; exact this
  · exact h.oi g g' b (by rw [← (ho g).1]; exact h1) (by rw [← (ho g').1]; exact h2) (by rw [← (ho g).2]; exact h3) (by rw [← (ho g').2]; exact h4)
  · exact h.ob g d (by rw [← (ho g).1]; exact h1) (by rw [← (ho g).2]; exact h2) (by rw [← (hb d).1]; exact h3)

def X6q (e : X7l) (ls : List Loc) : AV → AV
  | .ptr d k off p => if (Xya ls (.b d) && Nat.beq k (e (.b d)).k) = true then .ptr d 1 off p else .none
  | .own g k => if (Xya ls (.o g) && Nat.beq k (e (.o g)).k) = true then .own g 1 else .none
  | .optr g k sz i off p => if (Xya ls (.o g) && Nat.beq k (e (.o g)).k) = true then .optr g 1 sz i off p else .none
  | .win g k sz lo n => if (Xya ls (.o g) && Nat.beq k (e (.o g)).k) = true then .win g 1 sz lo n else .none
  | .clo f caps => if (caps.all fun dk => Xya ls (.b dk.1) && Nat.beq dk.2 (e (.b dk.1)).k) = true then .clo f (caps.map fun dk => (dk.1, 1)) else .none
  | v => v
def X2e (e : X7l) (ls : List Loc) (x : Loc × LV) : Loc × LV := match x.1 with
  | .t _ => (x.1, ⟨x.2.k, x.2.live, X6q e ls x.2.v⟩)
  | _ => (x.1, ⟨1, x.2.live, x.2.v⟩)
def Xqw (live : List (Loc × LV)) : List (Loc × LV) := live.map (X2e (Xez live) (live.map (·.1)))
theorem Xv9 {e : X7l} {ls : List Loc} (x : Loc × LV) : (X2e e ls x).1 = x.1 := by unfold X2e; split <;> rfl
theorem Xwc {e : X7l} {ls : List Loc} : ∀ {live : List (Loc × LV)} {l : Loc}, l ∈ live.map (·.1) → Xez (live.map (X2e e ls)) l = (X2e e ls (l, Xez live l)).2
  | [], l, h => by simp at h
  | x :: r, l, h => by
    obtain ⟨l', v⟩ := x
    have hk : (X2e e ls (l', v)) = (l', (X2e e ls (l', v)).2) := Prod.ext (Xv9 _) rfl
    rw [List.map_cons, hk]
    simp only [Xez]
    by_cases hb : l.beq l' = true
    · have := Loc.beq_iff.1 hb; subst this
      rw [if_pos hb, if_pos hb]
    · rw [if_neg hb, if_neg hb]
      simp only [List.map_cons, List.mem_cons] at h
      exact Xwc (h.resolve_left fun hc => hb (Loc.beq_iff.2 hc))
theorem Xxp (live : List (Loc × LV)) : (Xqw live).map (·.1) = live.map (·.1) := by
  unfold Xqw; rw [List.map_map]; exact List.map_congr_left fun x _ => Xv9 x
theorem Xzt {N : Nat} {C : Cx} {β : Nat → Nat} {ω : Nat → Value} {live : List (Loc × LV)} {a : Act} {w : World} (hC : X5m N C) (hk1 : Nat.ble (Xez live (.o N)).k 1 = true) (h : R C β ω (Xez live) a w) : R C β ω (Xez (Xqw live)) a w := by
  have hin : ∀ l, l ∈ live.map (·.1) → Xez (Xqw live) l = (X2e (Xez live) (live.map (·.1)) (l, Xez live l)).2 := fun l hl => Xwc hl
  have hout : ∀ l, l ∉ live.map (·.1) → Xez (Xqw live) l = Xez live l := fun l hl => by
    rw [Xi1 hl, Xi1 (by rw [Xxp]; exact hl)]
  have hB : ∀ d, Xya (live.map (·.1)) (.b d) = true → (Xez (Xqw live) (.b d)).k = 1 := fun d hd => by rw [hin _ (Xmi.1 hd)]; rfl
  have hO : ∀ g, Xya (live.map (·.1)) (.o g) = true → (Xez (Xqw live) (.o g)).k = 1 := fun g hg => by rw [hin _ (Xmi.1 hg)]; rfl
  refine X5u h (fun d => ?_) (fun g => ?_) (fun t => ?_) (fun g k u hK => ?_)
  · by_cases hd : Loc.b d ∈ live.map (·.1)
    · rw [hin _ hd]; exact ⟨rfl, rfl⟩
    · rw [hout _ hd]; exact ⟨rfl, rfl⟩
  · by_cases hd : Loc.o g ∈ live.map (·.1)
    · rw [hin _ hd]; exact ⟨rfl, rfl⟩
    · rw [hout _ hd]; exact ⟨rfl, rfl⟩
  · by_cases hd : Loc.t t ∈ live.map (·.1)
    · rw [hin _ hd]
      refine ⟨rfl, fun S v hv => ?_⟩
      show Xky S w β ω _ (X6q (Xez live) (live.map (·.1)) (Xez live (.t t)).v) v
      generalize (Xez live (.t t)).v = x at hv
      cases x <;> try exact hv
      · rename_i d k off p
        simp only [X6q]; split
        · rename_i hc; rw [Bool.and_eq_true] at hc
          obtain ⟨h1, h2⟩ := hv
          exact ⟨by rw [hB d hc.1]; exact Nat.le_refl _, fun _ => h2 (Nat.eq_of_beq_eq_true hc.2)⟩
        · trivial
      · rename_i g k
        simp only [X6q]; split
        · rename_i hc; rw [Bool.and_eq_true] at hc
          obtain ⟨h1, h2⟩ := hv
          exact ⟨by rw [hO g hc.1]; exact Nat.le_refl _, fun _ => h2 (Nat.eq_of_beq_eq_true hc.2)⟩
        · trivial
      · rename_i g k sz i off p
        simp only [X6q]; split
        · rename_i hc; rw [Bool.and_eq_true] at hc
          obtain ⟨h1, h2⟩ := hv
          exact ⟨by rw [hO g hc.1]; exact Nat.le_refl _, fun _ => h2 (Nat.eq_of_beq_eq_true hc.2)⟩
        · trivial
      · rename_i f caps
        simp only [X6q]; split
        · rename_i hc; rw [List.all_eq_true] at hc
          have hc' : ∀ dk ∈ caps, Xya (live.map (·.1)) (.b dk.1) = true ∧ dk.2 = (Xez live (.b dk.1)).k := fun dk hdk => by
            have := hc dk hdk
            rw [Bool.and_eq_true] at this
            exact ⟨this.1, Nat.eq_of_beq_eq_true this.2⟩
          obtain ⟨arr, h1, h2, h3⟩ := hv
          refine ⟨arr, h1, fun dk hdk => ?_, fun _ => ?_⟩
          · obtain ⟨dk0, hm, rfl⟩ := List.mem_map.1 hdk
            rw [hB _ (hc' dk0 hm).1]; exact Nat.le_refl _
          · rw [h3 (fun dk hdk => (hc' dk hdk).2), List.map_map]; rfl
        · trivial
      · rename_i g k sz lo n
        simp only [X6q]; split
        · rename_i hc; rw [Bool.and_eq_true] at hc
          obtain ⟨h1, h2⟩ := hv
          exact ⟨by rw [hO g hc.1]; exact Nat.le_refl _, fun _ => h2 (Nat.eq_of_beq_eq_true hc.2)⟩
        · trivial
    · rw [hout _ hd]
      refine ⟨rfl, fun S v _ => ?_⟩
      rw [Xi1 hd]; trivial
  · rcases hC.2 with hc | ⟨u', hc⟩
    · rw [hc] at hK; cases hK
    · rw [hc] at hK; simp only [Option.some.injEq, Prod.mk.injEq] at hK
      obtain ⟨rfl, rfl, rfl⟩ := hK
      have h1 := (h.kx N 1 u' hc).1
      have h2 := Nat.le_of_ble_eq_true hk1
      by_cases hd : Loc.o N ∈ live.map (·.1)
      · rw [hO N (Xmi.2 hd)]; exact ⟨Nat.le_refl _, fun _ => by omega⟩
      · rw [hout _ hd]; exact ⟨h1, fun h => h⟩

section
variable {P : Program} {L : List (Nat × Ty)} {N : Nat} {Q : Exit → X7l → Prop} {e : X7l}
theorem Xlh {c : Code} (live live' : List (Loc × LV)) (he : live = live') (h : X6t P N c Q (Xez live')) : X6t P N c Q (Xez live) := he ▸ h
theorem Xio {c : Code} (vs : List AV) (live' : List (Loc × LV)) (hv : live'.map (fun x => Xa8 e (X6r e vs) x.1) ++ [Xa8 e (X6r e vs) (.o N)] = live'.map (·.2) ++ [Xez live' (.o N)]) (hl : Xhb live' = true) (h : X6t P N c Q (Xez live')) : X6t P N c Q e :=
  fun C β ω a w hN hR => h C β ω a w hN (Xl4 (Xm5 hR vs) hN hv hl)
def X5x (N : Nat) (I : Nat → List (Loc × LV) → Prop) (n : Nat) (Q : Exit → X7l → Prop) : Exit → X7l → Prop
  | .normal, e => ∃ m live, m < n ∧ e = Xez live ∧ Nat.ble (Xez live (.o N)).k 1 = true ∧ I m (Xqw live)
  | en, e => Q en e
theorem Z0 {c : Code} {live : List (Loc × LV)} (I : Nat → List (Loc × LV) → Prop) {n : Nat} (hk1 : Nat.ble (Xez live (.o N)).k 1 = true) (h0 : I n (Xqw live)) (h : ∀ n live, I n live → X6t P N c (X5x N I n Q) (Xez live)) : X6t P N (.loop c) Q (Xez live) := by
  have key : X6t P N (.loop c) Q (Xez (Xqw live)) := by
    intro C β ω a w hN hR
    let J : Act → World → Nat → Prop := fun a w n => ∃ live β ω, I n live ∧ R C β ω (Xez live) a w
    refine wp_loop (fun a w => ∃ n, J a w n) (fun a w => Xpf (J a w)) ⟨n, _, β, ω, h0, hR⟩ ?_
    intro a' w' hJ
    obtain ⟨l', β', ω', hI, hR'⟩ := Xtf hJ
    refine wp_mono (h _ l' hI C β' ω' a' w' hN hR') ?_
    rintro en a2 w2 ⟨e2, β2, ω2, hq, hR2⟩
    cases en with
    | normal =>
      obtain ⟨k, l2, hk, rfl, hk2, hI2⟩ := hq
      have hR3 := Xzt hN hk2 hR2
      exact ⟨⟨k, _, β2, ω2, hI2, hR3⟩, Nat.lt_of_le_of_lt (Xxl (p := J a2 w2) ⟨_, β2, ω2, hI2, hR3⟩) hk⟩
    | _ => exact ⟨e2, β2, ω2, hq, hR2⟩
  exact fun C β ω a w hN hR => key C β ω a w hN (Xzt hN hk1 hR)
end
open Go Go.RowKit

theorem X5t {C : Cx} {β : Nat → Nat} {ω : Nat → Value} {e : X7l} {a : Act} {w : World} (h : R C β ω e a w) {t g : Nat} (sz : Nat) (hv : (e (.t t)).v = .nil) (hl : (e (.t t)).live = false) (hg : (e (.o g)).v = .none) :
    R C β (fun g' => if g' = g then .slice none 0 0 else ω g') (X7z (X7z e (.o g) ⟨(e (.o g)).k + 1, true, .sl sz []⟩) (.t t) ⟨0, false, .own g ((e (.o g)).k + 1)⟩) a w := by
  have hval : a.tmps.getD t undef = .slice none 0 0 := by
    have := h.tm t hl
    rw [hv] at this
    simpa [Xky, Xgb, X6u] using this
  generalize he : X7z (X7z e (.o g) ⟨(e (.o g)).k + 1, true, .sl sz []⟩) (.t t) ⟨0, false, .own g ((e (.o g)).k + 1)⟩ = e'
  have et : e' (.t t) = ⟨0, false, .own g ((e (.o g)).k + 1)⟩ := by rw [← he, Xbj]
  have et' : ∀ t', t' ≠ t → e' (.t t') = e (.t t') := fun t' ht => by rw [← he, Xbx _ _ (by simpa using ht), Xbx _ _ (by simp)]
  have eb : ∀ d, e' (.b d) = e (.b d) := fun d => by rw [← he, Xbx _ _ (by simp), Xbx _ _ (by simp)]
  have eg : e' (.o g) = ⟨(e (.o g)).k + 1, true, .sl sz []⟩ := by rw [← he, Xbx _ _ (by simp), Xbj]
  have eo : ∀ g', g' ≠ g → e' (.o g') = e (.o g') := fun g' hg => by rw [← he, Xbx _ _ (by simp), Xbx _ _ (by simpa using hg)]
  have hp : ∀ b, Xn9 β (fun g' => if g' = g then .slice none 0 0 else ω g') e' b ↔ Xn9 β ω e b := by
    intro b
    constructor
    · rintro (⟨d, h1, h2, h3⟩ | ⟨g', h1, h2, h3⟩)
      · rw [eb] at h1 h2; exact .inl ⟨d, h1, h2, h3⟩
      · by_cases hgg : g' = g
        · subst hgg; simp [J7] at h3
        · simp only [if_neg hgg] at h3
          rw [eo g' hgg] at h1 h2; exact .inr ⟨g', h1, h2, h3⟩
    · rintro (⟨d, h1, h2, h3⟩ | ⟨g', h1, h2, h3⟩)
      · exact .inl ⟨d, by rw [eb]; exact h1, by rw [eb]; exact h2, h3⟩
      · have hgg : g' ≠ g := fun hc => by rw [hc] at h1; exact h1 hg
        exact .inr ⟨g', by rw [eo g' hgg]; exact h1, by rw [eo g' hgg]; exact h2, by simp only [if_neg hgg]; exact h3⟩
  have hsh : ∀ b, Sh C β ω e b → Sh C β (fun g' => if g' = g then .slice none 0 0 else ω g') e' b := fun b hb => ⟨hb.1, fun hc => hb.2 ((hp b).1 hc)⟩
  refine Xk1 h h.n h.df (BelX.of (Below.refl _ _)) (Nat.le_refl _) ⟨fun d => .inl ⟨by rw [eb], rfl⟩, fun g' => ?_⟩ (fun b hb _ => ⟨hsh b hb, rfl⟩) (fun t' => ?_) (fun d hd => .inl ⟨by rw [eb], rfl, rfl⟩) (by simp only [eb]; exact h.bi) (fun g' => ?_) (fun g1 g2 b h1 h2 h3 h4 h5 h6 => ?_) (fun g' d h1 h2 h3 => ?_)
  · by_cases hgg : g' = g
    · subst hgg; right; rw [eg]; simp
    · left; simp only [if_neg hgg]; rw [eo g' hgg]; exact ⟨rfl, trivial⟩
  · by_cases ht : t' = t
    · subst ht; right
      rw [et]
      refine ⟨fun _ => ?_, fun hc => by cases hc⟩
      show _ ≤ _ ∧ (_ → _)
      rw [eg]
      refine ⟨Nat.le_refl _, fun _ => ?_⟩
      rw [hval]; simp
    · exact .inl ⟨et' t' ht, rfl⟩
  · by_cases hgg : g' = g
    · subst hgg; right
      unfold X7s; rw [eg]; simp only [if_true]
      exact ⟨none, 0, rfl, Nat.le_refl _, (fun r hr => by cases hr), .inl ⟨rfl, rfl⟩⟩
    · left; rw [eo g' hgg]; exact ⟨rfl, rfl, if_neg hgg, fun _ _ _ => rfl⟩
  · by_cases h7 : g1 = g
    · subst h7; simp [J7] at h5
    · by_cases h8 : g2 = g
      · subst h8; simp [J7] at h6
      · simp only [if_neg h7] at h5; simp only [if_neg h8] at h6
        rw [eo g1 h7] at h1 h3; rw [eo g2 h8] at h2 h4
        exact h.oi g1 g2 b h1 h2 h3 h4 h5 h6
  · by_cases hgg : g' = g
    · subst hgg; simp [J7]
    · simp only [if_neg hgg]; rw [eo g' hgg] at h1 h2; rw [eb] at h3
      exact h.ob g' d h1 h2 h3
def X14 (e : X7l) (t g : Nat) : Bool := match (e (.t t)).v, (e (.t t)).live, (e (.o g)).v with
  | .nil, false, .none => true
  | _, _, _ => false
theorem Xyw {P : Program} {N : Nat} {Q : Exit → X7l → Prop} {e : X7l} {c : Code} (t g sz : Nat) (live' : List (Loc × LV)) (h1 : X14 e t g = true)
    (hv : live'.map (fun x => (X7z (X7z e (.o g) ⟨(e (.o g)).k + 1, true, .sl sz []⟩) (.t t) ⟨0, false, .own g ((e (.o g)).k + 1)⟩) x.1) ++ [(X7z (X7z e (.o g) ⟨(e (.o g)).k + 1, true, .sl sz []⟩) (.t t) ⟨0, false, .own g ((e (.o g)).k + 1)⟩) (.o N)] = live'.map (·.2) ++ [Xez live' (.o N)]) (hl : Xhb live' = true) (h : X6t P N c Q (Xez live')) : X6t P N c Q e := by
  intro C β ω a w hN hR
  unfold X14 at h1
  split at h1
  · rename_i k1 k2 k3
    exact h C β _ a w hN (Xl4 (X5t hR sz k1 k2 k3) hN hv hl)
  · cases h1
open Go Go.RowKit

section
variable {P : Program} {L : List (Nat × Ty)} {N : Nat}

def X55 (L : List (Nat × Ty)) (N : Nat) (rv : List ResultVar) (sz : Nat) (all' : List AV) (r : AV) : Exit → X7l → Prop
  | .ret, e => Xca L e rv = some r ∧ e (.o N) = ⟨1, true, .sl sz all'⟩
  | .normal, e => Xca L e rv = some r ∧ e (.o N) = ⟨1, true, .sl sz all'⟩
  | _, _ => False
def Xx1 (N sz lo n : Nat) (all : List AV) (args : List AV) : X7l := fun l => match l with
  | .t 0 => ⟨0, false, .win N 1 sz lo n⟩
  | .t (t + 1) => ⟨0, false, args.getD t .none⟩
  | .o g => if Nat.beq g N = true then ⟨1, true, .sl sz all⟩ else ⟨0, false, .none⟩
  | _ => ⟨0, false, .none⟩
theorem Xri {S S' : Nat → Prop} {w w' : World} {r : AV} {v : Value} (hf : Xx5 r = true) (h : Xtn S w r v) : Xtn S' w' r v := by
  by_cases h1 : Xf4 r = true
  · have hd := Xsq h1
    exact (Xi6 hd).2 (Xq8 h1 ((Xi6 hd).1 h))
  · cases r <;> try (exact absurd hf h1)
    rename_i vs
    cases vs with
    | nil => obtain ⟨arr, h1, h2⟩ := h; exact ⟨arr, h1, h2⟩
    | cons _ _ => exact absurd hf h1
theorem Xte (v : Value) (vs : List Value) (n t : Nat) : ((v :: vs).toArray ++ Array.replicate n undef).getD (t + 1) undef = (vs.toArray ++ Array.replicate n undef).getD t undef := by
  simp only [Array.getD_eq_getD_getElem?, Array.getElem?_append, List.size_toArray, List.length_cons, List.getElem?_toArray, List.getElem?_cons_succ]
  by_cases h : t < vs.length
  · simp [h]
  · rw [if_neg (by omega), if_neg h]; congr 2; omega
theorem X4n (hL : Xe4 P L) {f : Nat} {fn : Func} {c : Code} {sz lo n : Nat} {all all' : List AV} {args : List AV} {r : AV} (hf : P.funcs[f]? = some fn) (hb : fn.body = some c) (hname : (fn.name == "runtime.NumGoroutine") = false) (hn : fn.ntmps = N) (hlen : Nat.ble (args.length + 1) N = true) (ha : args.all X60 = true) (hr : Xx5 r = true)
    (hfl : Xsu all = true) (hfl' : Xsu all' = true) (h : X6t P N c (X55 L N fn.results.toList sz all' r) (Xx1 N sz lo n all args)) : CW P f sz lo n all args all' r := by
  refine ⟨fun as w => ?_, hfl, hfl', hr, fun S w u blk cw vs hS hnb hblk how hcw hvs => ?_⟩
  · unfold callFunc
    have hbn : fn.body.isNone = false := by rw [hb]; rfl
    simp only [program, Sem.run_bind, Sem.run, Result.andThen_ok, hf, hname, hbn, Bool.false_eq_true, if_false, Sem.run_pure]
  · have hl := Xkb hvs
    have hle : args.length + 1 ≤ N := Nat.le_of_ble_eq_true hlen
    refine calls_of_wp hf hb ?_
    let C : Cx := ⟨S, w.heap.size, w, N, fun b => b = blk, some (N, 1, u)⟩
    have eN : Xx1 N sz lo n all args (.o N) = ⟨1, true, .sl sz all⟩ := by show (if _ then _ else _) = _; rw [if_pos (Nat.beq_refl _)]
    have eO : ∀ g, g ≠ N → Xx1 N sz lo n all args (.o g) = ⟨0, false, .none⟩ := fun g hg => by
      show (if _ then _ else _) = _
      rw [if_neg (fun hc => hg (Nat.eq_of_beq_eq_true hc))]
    have hpriv : ∀ b, Xn9 (fun _ => 0) (fun _ => u) (Xx1 N sz lo n all args) b → b = blk := by
      rintro b (⟨d, k1, _⟩ | ⟨g, k1, k2, k3⟩)
      · exact absurd rfl k1
      · rw [hblk] at k3; exact (Option.some.inj k3).symm
    have hsh : ∀ b, S b → Sh C (fun _ => 0) (fun _ => u) (Xx1 N sz lo n all args) b := fun b hb => ⟨.inl hb, fun hp => by have := hpriv b hp; subst this; exact hnb hb⟩
    have hblt : blk < w.heap.size := by
      obtain ⟨A, cc, q1, _, _, q2 | ⟨blk', cs, T, rfl, q3, q4, _⟩⟩ := how
      · rw [q1, q2.1] at hblk; simp [J7] at hblk
      · have q3 : blk' = blk := q3
        rw [← q3]; exact q4
    have hR : R C (fun _ => 0) (fun _ => u) (Xx1 N sz lo n all args) { tmps := (.slice (some ⟨blk, lo * sz, none⟩) n cw :: vs).toArray ++ Array.replicate (fn.ntmps - (.slice (some ⟨blk, lo * sz, none⟩) n cw :: vs).toArray.size) undef, defers := [] } w := by
      refine ⟨?_, rfl, BelX.of (Below.refl _ _), Nat.le_refl _, hS, fun t _ => ?_, fun t ht => ?_, fun d hd => absurd rfl hd, fun d _ hd => absurd rfl hd, fun g => ?_, fun g g' b h1 h2 h3 h4 _ _ => ?_, fun g d _ _ hd => absurd rfl hd, fun g k u' hK => ?_⟩
      · simp [C, hl, hn]; omega
      · cases t with
        | zero =>
          show Xky _ _ _ _ _ (.win N 1 sz lo n) _
          refine ⟨by rw [eN]; exact Nat.le_refl _, fun _ => ⟨blk, cw, hblk, ?_, hcw⟩⟩
          simp [Array.getD_eq_getD_getElem?, Array.getElem?_append]
        | succ t =>
          show Xky _ _ _ _ _ (args.getD t .none) _
          rw [Xte]
          by_cases ht : t < args.length
          · obtain ⟨v, h1, h2⟩ := Xma hvs ht
            have hv : (vs.toArray ++ Array.replicate (fn.ntmps - (Value.slice (some ⟨blk, lo * sz, none⟩) n cw :: vs).toArray.size) undef).getD t undef = v := by
              have : t < vs.length := by omega
              have h1' : vs[t] = v := by rw [List.getElem?_eq_getElem this] at h1; simpa using h1
              simp [Array.getD_eq_getD_getElem?, Array.getElem?_append, this, h1']
            rw [hv]
            have hA : X60 (args.getD t .none) = true := by
              rw [List.all_eq_true] at ha
              have : args.getD t .none = args[t] := by simp [List.getD, ht]
              rw [this]; exact ha _ (List.getElem_mem _)
            generalize args.getD t .none = x at *
            by_cases hd : X70 x = true
            · rw [Xom hd] at h2
              exact (Xbk hd).2 (Xb2 (fun b hb _ => ⟨hsh b hb, rfl⟩) (Nat.le_refl _) h2)
            · cases x <;> try (exact absurd hA hd)
              · obtain ⟨ad, mem, k1, k2, k3, k4, k5, k6⟩ := h2
                exact ⟨ad, mem, k1, k2, hsh _ k3, k4, Xcx (fun b hb _ => ⟨hsh b hb, rfl⟩) (Nat.le_refl _) k5, k6⟩
              · exact h2
          · have : args.getD t .none = .none := by simp [List.getD, List.getElem?_eq_none (Nat.le_of_not_lt ht)]
            rw [this]; trivial
      · cases t <;> cases ht
      · by_cases hg : g = N
        · subst hg
          unfold X7s; rw [eN]; simp only [if_true]
          exact Xfw hfl (fun b _ hb => .inr hb) how
        · unfold X7s; rw [eO g hg]; trivial
      · by_cases hg : g = N
        · by_cases hg' : g' = N
          · rw [hg, hg']
          · rw [eO g' hg'] at h2; exact absurd rfl h2
        · rw [eO g hg] at h1; exact absurd rfl h1
      · simp only [C, Option.some.injEq, Prod.mk.injEq] at hK
        obtain ⟨rfl, rfl, rfl⟩ := hK
        exact ⟨by rw [eN]; exact Nat.le_refl _, fun _ => rfl⟩
    refine wp_mono (h C _ _ _ _ ⟨rfl, .inr ⟨u, rfl⟩⟩ hR) ?_
    rintro en a' w' ⟨e', β', ω', hq, hR'⟩
    have fin : Xca L e' fn.results.toList = some r ∧ e' (.o N) = ⟨1, true, .sl sz all'⟩ → ∃ v, (results fn a'.tmps).run P w' = .ok v w' ∧ BelX (fun b => b = blk) w.heap.size w w' ∧ Xhc S (fun b => b = blk) w' sz all' u ∧ Xtn S w' r v := by
      rintro ⟨hres, hO⟩
      obtain ⟨v, h1, h2⟩ := Xzm hL hR' hres
      have how' := hR'.ow N
      unfold X7s at how'
      rw [hO] at how'
      simp only [if_true] at how'
      have hu : ω' N = u := (hR'.kx N 1 u rfl).2 (by rw [hO])
      rw [hu] at how'
      exact ⟨v, h1, hR'.bel, Xfw hfl' (fun b hbk _ => by rw [hblk] at hbk; exact (Option.some.inj hbk).symm) how', Xri hr h2⟩
    cases en with
    | normal =>
      obtain ⟨v, h1, h2, h3, h4⟩ := fin hq
      exact bodyPost_end h1 hR'.df ⟨v, rfl, h2, h3, h4⟩
    | ret =>
      obtain ⟨v, h1, h2, h3, h4⟩ := fin hq
      exact bodyPost_ret h1 hR'.df ⟨v, rfl, h2, h3, h4⟩
    | exit id => exact hq.elim
    | goto l => exact hq.elim
    | panic ch => exact hq.elim
    | outgrown => exact hq.elim

def Xx0 (N sz : Nat) (v : AV) (args : List AV) : X7l := fun l => match l with
  | .t 0 => ⟨0, false, .optr N 1 sz 0 0 []⟩
  | .t (t + 1) => ⟨0, false, args.getD t .none⟩
  | .o g => if Nat.beq g N = true then ⟨1, true, .sl sz [v]⟩ else ⟨0, false, .none⟩
  | _ => ⟨0, false, .none⟩
theorem X48 (hL : Xe4 P L) {f : Nat} {fn : Func} {c : Code} {sz : Nat} {v0 v0' : AV} {args : List AV} {r : AV} (hf : P.funcs[f]? = some fn) (hb : fn.body = some c) (hname : (fn.name == "runtime.NumGoroutine") = false) (hn : fn.ntmps = N) (hlen : Nat.ble (args.length + 1) N = true) (ha : args.all X60 = true) (hr : Xx5 r = true)
    (hfl : Xsu [v0] = true) (hfl' : Xsu [v0'] = true) (hs0 : v0.size = sz) (hs1 : v0'.size = sz) (h : X6t P N c (X55 L N fn.results.toList sz [v0'] r) (Xx0 N sz v0 args)) : CB P f sz v0 args v0' r := by
  refine ⟨fun as w => ?_, hfl, hfl', hr, hs0, hs1, fun S w blk vs hS hnb how hvs => ?_⟩
  · unfold callFunc
    have hbn : fn.body.isNone = false := by rw [hb]; rfl
    simp only [program, Sem.run_bind, Sem.run, Result.andThen_ok, hf, hname, hbn, Bool.false_eq_true, if_false, Sem.run_pure]
  · have hl := Xkb hvs
    have hle : args.length + 1 ≤ N := Nat.le_of_ble_eq_true hlen
    refine calls_of_wp hf hb ?_
    generalize hu0 : (Value.slice (some ⟨blk, 0, none⟩) 1 1) = u at how ⊢
    have hblk : J7 u = some blk := by rw [← hu0]; rfl
    let C : Cx := ⟨S, w.heap.size, w, N, fun b => b = blk, some (N, 1, u)⟩
    have eN : Xx0 N sz v0 args (.o N) = ⟨1, true, .sl sz [v0]⟩ := by show (if _ then _ else _) = _; rw [if_pos (Nat.beq_refl _)]
    have eO : ∀ g, g ≠ N → Xx0 N sz v0 args (.o g) = ⟨0, false, .none⟩ := fun g hg => by
      show (if _ then _ else _) = _
      rw [if_neg (fun hc => hg (Nat.eq_of_beq_eq_true hc))]
    have hpriv : ∀ b, Xn9 (fun _ => 0) (fun _ => u) (Xx0 N sz v0 args) b → b = blk := by
      rintro b (⟨d, k1, _⟩ | ⟨g, k1, k2, k3⟩)
      · exact absurd rfl k1
      · rw [hblk] at k3; exact (Option.some.inj k3).symm
    have hsh : ∀ b, S b → Sh C (fun _ => 0) (fun _ => u) (Xx0 N sz v0 args) b := fun b hb => ⟨.inl hb, fun hp => by have := hpriv b hp; subst this; exact hnb hb⟩
    have hblt : blk < w.heap.size := by
      obtain ⟨A, cc, q1, _, _, q2 | ⟨blk', cs, T, rfl, q3, q4, _⟩⟩ := how
      · rw [q1, q2.1] at hblk; simp [J7] at hblk
      · have q3 : blk' = blk := q3
        rw [← q3]; exact q4
    have hR : R C (fun _ => 0) (fun _ => u) (Xx0 N sz v0 args) { tmps := (.pointer (some ⟨blk, 0, none⟩) :: vs).toArray ++ Array.replicate (fn.ntmps - (.pointer (some ⟨blk, 0, none⟩) :: vs).toArray.size) undef, defers := [] } w := by
      refine ⟨?_, rfl, BelX.of (Below.refl _ _), Nat.le_refl _, hS, fun t _ => ?_, fun t ht => ?_, fun d hd => absurd rfl hd, fun d _ hd => absurd rfl hd, fun g => ?_, fun g g' b h1 h2 h3 h4 _ _ => ?_, fun g d _ _ hd => absurd rfl hd, fun g k u' hK => ?_⟩
      · simp [C, hl, hn]; omega
      · cases t with
        | zero =>
          show Xky _ _ _ _ _ (.optr N 1 sz 0 0 []) _
          refine ⟨by rw [eN]; exact Nat.le_refl _, fun _ => ⟨blk, hblk, ?_⟩⟩
          simp [Array.getD_eq_getD_getElem?, Array.getElem?_append]
        | succ t =>
          show Xky _ _ _ _ _ (args.getD t .none) _
          rw [Xte]
          by_cases ht : t < args.length
          · obtain ⟨v, h1, h2⟩ := Xma hvs ht
            have hv : (vs.toArray ++ Array.replicate (fn.ntmps - (Value.pointer (some ⟨blk, 0, none⟩) :: vs).toArray.size) undef).getD t undef = v := by
              have : t < vs.length := by omega
              have h1' : vs[t] = v := by rw [List.getElem?_eq_getElem this] at h1; simpa using h1
              simp [Array.getD_eq_getD_getElem?, Array.getElem?_append, this, h1']
            rw [hv]
            have hA : X60 (args.getD t .none) = true := by
              rw [List.all_eq_true] at ha
              have : args.getD t .none = args[t] := by simp [List.getD, ht]
              rw [this]; exact ha _ (List.getElem_mem _)
            generalize args.getD t .none = x at *
            by_cases hd : X70 x = true
            · rw [Xom hd] at h2
              exact (Xbk hd).2 (Xb2 (fun b hb _ => ⟨hsh b hb, rfl⟩) (Nat.le_refl _) h2)
            · cases x <;> try (exact absurd hA hd)
              · obtain ⟨ad, mem, k1, k2, k3, k4, k5, k6⟩ := h2
                exact ⟨ad, mem, k1, k2, hsh _ k3, k4, Xcx (fun b hb _ => ⟨hsh b hb, rfl⟩) (Nat.le_refl _) k5, k6⟩
              · exact h2
          · have : args.getD t .none = .none := by simp [List.getD, List.getElem?_eq_none (Nat.le_of_not_lt ht)]
            rw [this]; trivial
      · cases t <;> cases ht
      · by_cases hg : g = N
        · subst hg
          unfold X7s; rw [eN]; simp only [if_true]
          exact Xfw hfl (fun b _ hb => .inr hb) how
        · unfold X7s; rw [eO g hg]; trivial
      · by_cases hg : g = N
        · by_cases hg' : g' = N
          · rw [hg, hg']
          · rw [eO g' hg'] at h2; exact absurd rfl h2
        · rw [eO g hg] at h1; exact absurd rfl h1
      · simp only [C, Option.some.injEq, Prod.mk.injEq] at hK
        obtain ⟨rfl, rfl, rfl⟩ := hK
        exact ⟨by rw [eN]; exact Nat.le_refl _, fun _ => rfl⟩
    refine wp_mono (h C _ _ _ _ ⟨rfl, .inr ⟨u, rfl⟩⟩ hR) ?_
    rintro en a' w' ⟨e', β', ω', hq, hR'⟩
    have fin : Xca L e' fn.results.toList = some r ∧ e' (.o N) = ⟨1, true, .sl sz [v0']⟩ → ∃ v, (results fn a'.tmps).run P w' = .ok v w' ∧ BelX (fun b => b = blk) w.heap.size w w' ∧ Xhc S (fun b => b = blk) w' sz [v0'] u ∧ Xtn S w' r v := by
      rintro ⟨hres, hO⟩
      obtain ⟨v, h1, h2⟩ := Xzm hL hR' hres
      have how' := hR'.ow N
      unfold X7s at how'
      rw [hO] at how'
      simp only [if_true] at how'
      have hu : ω' N = u := (hR'.kx N 1 u rfl).2 (by rw [hO])
      rw [hu] at how'
      exact ⟨v, h1, hR'.bel, Xfw hfl' (fun b hbk _ => by rw [hblk] at hbk; exact (Option.some.inj hbk).symm) how', Xri hr h2⟩
    cases en with
    | normal =>
      obtain ⟨v, h1, h2, h3, h4⟩ := fin hq
      exact bodyPost_end h1 hR'.df ⟨v, rfl, h2, h3, h4⟩
    | ret =>
      obtain ⟨v, h1, h2, h3, h4⟩ := fin hq
      exact bodyPost_ret h1 hR'.df ⟨v, rfl, h2, h3, h4⟩
    | exit id => exact hq.elim
    | goto l => exact hq.elim
    | panic ch => exact hq.elim
    | outgrown => exact hq.elim

def X6m (rv : List ResultVar) (sz : Nat) (rows : List AV) : Exit → X7l → Prop
  | .ret, e => ∃ t g k, rv = [.tmp t] ∧ e (.t t) = ⟨0, false, .own g k⟩ ∧ e (.o g) = ⟨k, true, .sl sz rows⟩
  | _, _ => False
theorem X4l {f : Nat} {fn : Func} {c : Code} {args : List AV} {sz : Nat} {rows : List AV} (hf : P.funcs[f]? = some fn) (hb : fn.body = some c) (hname : (fn.name == "runtime.NumGoroutine") = false) (hn : fn.ntmps = N) (hlen : Nat.ble args.length N = true) (ha : args.all X60 = true)
    (hfl : Xsu rows = true) (h : X6t P N c (X6m fn.results.toList sz rows) (X4v args)) : X7a P f args sz rows := by
  refine ⟨fun as w => ?_, hfl, fun S w vs hS hvs => ?_⟩
  · unfold callFunc
    have hbn : fn.body.isNone = false := by rw [hb]; rfl
    simp only [program, Sem.run_bind, Sem.run, Result.andThen_ok, hf, hname, hbn, Bool.false_eq_true, if_false, Sem.run_pure]
  · refine calls_of_wp hf hb ?_
    have hR := Xzj (N := N) (ntmps := fn.ntmps) hS hvs hn hlen ha
    refine wp_mono (h _ _ _ _ _ ⟨rfl, .inl rfl⟩ hR) ?_
    rintro en a' w' ⟨e', β', ω', hq, hR'⟩
    cases en with
    | ret =>
      obtain ⟨t, g, k, h1, h2, h3⟩ := hq
      have how' := hR'.ow g
      unfold X7s at how'
      rw [h3] at how'
      simp only [if_true] at how'
      have hv := hR'.tm t (by rw [h2])
      rw [h2] at hv
      have hv : a'.tmps.getD t undef = ω' g := hv.2 (by rw [h3])
      have hrun : (results fn a'.tmps).run P w' = .ok (a'.tmps.getD t undef) w' := by
        unfold results
        rw [Array.mapM_eq_mapM_toList, h1]
        simp only [map_eq_pure_bind, Sem.run_bind, Sem.run_pure, List.mapM_cons, List.mapM_nil, Result.andThen_ok]
        rfl
      refine bodyPost_ret hrun hR'.df ⟨_, rfl, ⟨hR'.bel.os, hR'.bel.tape, hR'.bel.output, hR'.bel.size, fun k hk => hR'.bel.block k hk id⟩, ?_⟩
      rw [hv]
      exact Xfw hfl (fun b _ hb => hb.resolve_right id) how'
    | normal => exact hq.elim
    | exit id => exact hq.elim
    | goto l => exact hq.elim
    | panic ch => exact hq.elim
    | outgrown => exact hq.elim
end
open Go Go.RowKit

theorem X3b {C : Cx} {β : Nat → Nat} {ω : Nat → Value} {e : X7l} {a : Act} {w : World} (h : R C β ω e a w) {d : Nat} {x : LV}
    (hv : (x.live = false → Xky (Sh C β ω e) w β ω e x.v (a.tmps.getD d undef)) ∧ (x.live = true → a.tmps.getD d undef = undef)) : R C β ω (X7z e (.t d) x) a w := by
  have eb : ∀ d', X7z e (.t d) x (.b d') = e (.b d') := fun d' => Xbx _ _ (by simp)
  have eo : ∀ g, X7z e (.t d) x (.o g) = e (.o g) := fun g => Xbx _ _ (by simp)
  have hp : ∀ b, Xn9 β ω (X7z e (.t d) x) b ↔ Xn9 β ω e b := fun b => by unfold Xn9; simp only [eb, eo]
  have hsh : ∀ b, Sh C β ω (X7z e (.t d) x) b ↔ Sh C β ω e b := fun b => by unfold Sh; rw [hp]
  have hg : Gen β β ω ω e (X7z e (.t d) x) := ⟨fun d' => .inl ⟨by rw [eb], rfl⟩, fun g => .inl ⟨by rw [eo], rfl⟩⟩
  refine Xk1 h h.n h.df (BelX.of (Below.refl _ _)) (Nat.le_refl _) hg (fun b hb _ => ⟨(hsh b).2 hb, rfl⟩) (fun t => ?_) (fun d' hd' => .inl ⟨by rw [eb], rfl, rfl⟩) ?_ (fun g => .inl ⟨by rw [eo], by rw [eo], rfl, fun _ _ _ => rfl⟩) ?_ ?_
  · by_cases ht : t = d
    · subst ht
      right
      rw [Xbj]
      exact ⟨fun hl => Xo7 (fun b hb _ => ⟨(hsh b).2 hb, rfl⟩) (Nat.le_refl _) hg (hv.1 hl), hv.2⟩
    · exact .inl ⟨by rw [Xbx _ _ (by simpa using ht)], rfl⟩
  · simp only [eb]; exact h.bi
  · simp only [eo]; exact h.oi
  · simp only [eo, eb]; exact h.ob
def X1t (e : X7l) (t : Nat) : Bool := match (e (.t t)).v, (e (.t t)).live with
  | .nil, false => true
  | _, _ => false
theorem Xvw {P : Program} {N : Nat} {Q : Exit → X7l → Prop} {e : X7l} {c : Code} (t sz : Nat) (live' : List (Loc × LV)) (h1 : X1t e t = true)
    (hv : live'.map (fun x => (X7z e (.t t) ⟨0, false, .sl sz []⟩) x.1) ++ [(X7z e (.t t) ⟨0, false, .sl sz []⟩) (.o N)] = live'.map (·.2) ++ [Xez live' (.o N)]) (hl : Xhb live' = true) (h : X6t P N c Q (Xez live')) : X6t P N c Q e := by
  intro C β ω a w hN hR
  unfold X1t at h1
  split at h1
  · rename_i k1 k2
    refine h C β _ a w hN (Xl4 (X3b hR ⟨fun _ => ?_, fun hc => by cases hc⟩) hN hv hl)
    have := hR.tm t k2
    rw [k1] at this
    have hval : a.tmps.getD t undef = .slice none 0 0 := by simpa [Xky, Xgb, X6u] using this
    show X6u _ _ (.sl sz []) _
    unfold X6u
    exact ⟨none, 0, by rw [hval]; rfl, Nat.le_refl _, (fun r hr => by cases hr), .inl rfl⟩
  · cases h1
theorem X3g {C : Cx} {β : Nat → Nat} {ω : Nat → Value} {e : X7l} {a : Act} {w : World} (h : R C β ω e a w) {t g k sz lo n : Nat} {rows : List AV} (hv : (e (.t t)).v = .win g k sz lo n) (hl : (e (.t t)).live = false) (hg : e (.o g) = ⟨k, true, .sl sz rows⟩) (hn : lo + n ≤ rows.length) :
    R C β ω (X7z (X7z e (.o g) ⟨k, false, .sl sz rows⟩) (.t t) ⟨0, false, .sl sz ((rows.take (lo + n)).drop lo)⟩) a w := by
  have h1 := Xr7 h (g := g) (sz := sz) (rows := rows) (by rw [hg])
  have hk : (e (.o g)).k = k := by rw [hg]
  rw [hk] at h1
  refine X3b h1 ⟨fun _ => ?_, fun hc => by cases hc⟩
  have hw := h.tm t hl
  rw [hv] at hw
  obtain ⟨blk, c, hb, hval, hc⟩ := hw.2 (by rw [hk])
  have ho := h1.ow g
  unfold X7s at ho
  rw [Xbj] at ho
  simp only [Bool.false_eq_true, if_false] at ho
  have how := h.ow g
  unfold X7s at how
  rw [hg] at how
  simp only [if_true] at how
  rw [hval]
  show X6u _ _ (.sl sz _) [_]
  unfold X6u
  have hlen : ((rows.take (lo + n)).drop lo).length = n := by simp; omega
  refine ⟨some ⟨blk, lo * sz, none⟩, c, by rw [hlen], by omega, ?_, ?_⟩
  · obtain ⟨A, cc, _, _, hz, _⟩ := how
    exact fun r hr => hz r (List.mem_of_mem_take (List.mem_of_mem_drop hr))
  · by_cases h0 : n = 0
    · left; exact List.eq_nil_of_length_eq_zero (by omega)
    right
    obtain ⟨A, cc, q1, q2, hz, q4⟩ := how
    rcases q4 with q4 | ⟨blk', cs, T, rfl, q5, q6, q7, q8, q9⟩
    · rw [q1, q4.1] at hb; simp [J7] at hb
    rw [q1] at hb ho
    simp only [J7, Option.some.injEq] at hb
    subst hb
    have cut := Xzb (l := lo) (h := lo + n) (m := cc) ho (by omega) hn (by omega)
    unfold X6u at cut
    obtain ⟨A2, c2, e1, e2, e3, e4⟩ := cut
    rcases e4 with e4 | ⟨ad, mem, rfl, k1, k2, k3, k4, k5⟩
    · rw [e4] at hlen; simp at hlen; omega
    · simp only [List.cons.injEq, Value.slice.injEq, and_true] at e1
      have had : ad = ⟨blk', lo * sz, none⟩ := by
        have := e1.1
        split at this
        · rename_i hcl
          exfalso; omega
        · simp only [Option.map_some, Option.some.injEq] at this
          rw [← this, Xcs rfl]; simp
      subst had
      exact ⟨_, mem, rfl, rfl, k2, k3, k4, k5⟩
theorem Xyh {P : Program} {N : Nat} {Q : Exit → X7l → Prop} {e : X7l} {c : Code} (t g k sz lo n : Nat) (rows rows' : List AV) (live' : List (Loc × LV)) (hr : rows' = (rows.take (lo + n)).drop lo) (h1 : e (.t t) = ⟨0, false, .win g k sz lo n⟩) (h2 : e (.o g) = ⟨k, true, .sl sz rows⟩) (h3 : lo + n ≤ rows.length)
    (hv : live'.map (fun x => (X7z (X7z e (.o g) ⟨k, false, .sl sz rows⟩) (.t t) ⟨0, false, .sl sz rows'⟩) x.1) ++ [(X7z (X7z e (.o g) ⟨k, false, .sl sz rows⟩) (.t t) ⟨0, false, .sl sz rows'⟩) (.o N)] = live'.map (·.2) ++ [Xez live' (.o N)]) (hl : Xhb live' = true) (h : X6t P N c Q (Xez live')) : X6t P N c Q e :=
  fun C β ω a w hN hR => h C β _ a w hN (Xl4 (hr ▸ X3g hR (by rw [h1]) (by rw [h1]) h2 h3) hN hv hl)
theorem Xzw {P : Program} {f : Nat} {args : List AV} {sz : Nat} {rows : List AV} (h : X7a P f args sz rows) : CS P f args (.sl sz rows) := by
  obtain ⟨h1, h2, h3⟩ := h
  refine ⟨h1, rfl, fun S w vs hS hvs => Calls.mono (h3 S w vs hS hvs) ?_⟩
  rintro en w' ⟨v, rfl, hb, A, c, rfl, hc, hz, h4⟩
  refine ⟨_, rfl, hb, (Xi6 (x := .sl sz rows) rfl).2 ?_⟩
  unfold Xgb X6u
  refine ⟨A, c, rfl, hc, hz, ?_⟩
  rcases h4 with ⟨h5, h6⟩ | ⟨blk, cs, T, h5, h6, h7, h8, h9, h10⟩
  · left; exact List.eq_nil_of_length_eq_zero (by omega)
  · right
    refine ⟨_, _, h5, rfl, .inr h6, h7, Xkd h2 h10, ?_⟩
    exact Xfs h8 (c1 := []) (c3 := cs.toList.drop (rows.length * sz)) (by simp) rfl
open Go Go.RowKit

def X3v (P : Program) (L : List (Nat × Ty)) (N : Nat) : Nat → Code → X7l → List AV → Option (Prop × X7l)
  | 0, _, e, rs => match rs with
    | [] => some (True, e)
    | _ => none
  | n + 1, c, e, rs => match c with
    | .seq x y => (match x with
      | .region _ ops draw => (match ops.toList.all (fun o => match o.dst with | some d => Nat.blt d N | Option.none => true), draw with
        | true, false => (match X3x P L ops ops.toList e rs with
          | some (e', ob, rs') => (match X3v P L N n y e' rs' with
            | some (ob2, e2) => some (ob ∧ ob2, e2)
            | none => none)
          | _ => none)
        | true, true => (match X2j P L ops ops.toList e rs with
          | some (l, ob, rs') => (match Xre (Xz9 ops.toList []) l 0 && Xkx ops.toList 0 with
            | true => (match X3v P L N n y (Xhv l 0 (fun _ => true) e) rs' with
              | some (ob2, e2) => some (ob ∧ ob2, e2)
              | none => none)
            | false => none)
          | _ => none)
        | false, _ => none)
      | _ => none)
    | _ => none
def X4x : Nat → Code → Code
  | 0, c => c
  | n + 1, c => match c with
    | .seq _ y => X4x n y
    | c => c
section
variable {P : Program} {L : List (Nat × Ty)} {N : Nat} {Q : Exit → X7l → Prop}
theorem Xr3 (hL : Xe4 P L) (hm : P.follows .mixedOrders = true) : ∀ (n : Nat) (c : Code) (e : X7l) (rs : List AV) (ob : Prop) (e' : X7l), X3v P L N n c e rs = some (ob, e') → ob → X6t P N (X4x n c) Q e' → X6t P N c Q e
  | 0, c, e, rs, ob, e', h, _, k => by
    unfold X3v at h; split at h
    · simp only [Option.some.injEq, Prod.mk.injEq] at h; rw [h.2]; exact k
    · cases h
  | n + 1, c, e, rs, ob, e', h, ho, k => by
    unfold X3v at h
    split at h
    · rename_i x y
      split at h
      · rename_i id ops draw
        have k : X6t P N (X4x n y) Q e' := k
        split at h
        · rename_i hd
          rw [List.all_eq_true] at hd
          split at h
          · rename_i e1 ob1 rs1 hr
            split at h
            · rename_i ob2 e2 h2
              simp only [Option.some.injEq, Prod.mk.injEq] at h
              obtain ⟨rfl, rfl⟩ := h
              refine Xe ?_
              intro C β ω a w hN hR
              have hdst : ∀ o ∈ ops.toList, ∀ d, o.dst = some d → d < C.N := fun o hom d hod => by
                have := hd o hom
                rw [hod] at this
                rw [hN.1]; simpa using this
              refine wp_region_list (Xnn hL hr ho.1 hdst (fun β' ω' a' w' h' => ?_) hR)
              exact ⟨e1, β', ω', Xr3 hL hm n y e1 rs1 ob2 e2 h2 ho.2 k, h'⟩
            · cases h
          · cases h
        · rename_i hd
          rw [List.all_eq_true] at hd
          split at h
          · rename_i l ob1 rs1 hr
            split at h
            · rename_i hi
              rw [Bool.and_eq_true] at hi
              split at h
              · rename_i ob2 e2 h2
                simp only [Option.some.injEq, Prod.mk.injEq] at h
                obtain ⟨rfl, rfl⟩ := h
                refine Xe ?_
                intro C β ω a w hN hR
                have hdst : ∀ o ∈ ops.toList, ∀ d, o.dst = some d → d < C.N := fun o hom d hod => by
                  have := hd o hom
                  rw [hod] at this
                  rw [hN.1]; simpa using this
                refine Xwi hL hm hr ho.1 hi.1 hi.2 hdst (fun β' ω' a' w' h' => ?_) hR
                exact ⟨_, β', ω', Xr3 hL hm n y _ rs1 ob2 e2 h2 ho.2 k, h'⟩
              · cases h
            · cases h
          · cases h
        · cases h
      · cases h
    · cases h
def X5z (P : Program) (L : List (Nat × Ty)) (N n : Nat) (c : Code) (e : X7l) (rs : List AV) (ls : List Loc) : Option (Prop × List LV) := match X3v P L N n c e rs with
  | some (ob, e') => some (ob, ls.map e')
  | none => none
theorem Xvk (hL : Xe4 P L) (hm : P.follows .mixedOrders = true) (n : Nat) {c : Code} {e : X7l} (rs : List AV) (live : List (Loc × LV)) (ob : Prop) (h : X5z P L N n c e rs (live.map (·.1) ++ [.o N]) = some (ob, live.map (·.2) ++ [Xez live (.o N)])) (hob : ob) (hl : Xhb live = true) (k : X6t P N (X4x n c) Q (Xez live)) : X6t P N c Q e := by
  unfold X5z at h
  split at h
  · rename_i ob' e' hs
    simp only [Option.some.injEq, Prod.mk.injEq] at h
    obtain ⟨rfl, hv⟩ := h
    refine Xr3 hL hm n c e rs ob' e' hs hob (fun C β ω a w hN hR => k C β ω a w hN (Xl4 hR hN ?_ hl))
    rw [List.map_append, List.map_map] at hv; exact hv
  · cases h
end
def X5p (J : List (Loc × LV) → Prop) (Q : Exit → X7l → Prop) : Exit → X7l → Prop
  | .normal, e => ∃ live, e = Xez live ∧ J live
  | en, e => Q en e
theorem Xhh {P : Program} {N : Nat} {Q : Exit → X7l → Prop} {e : X7l} {x y : Code} (J : List (Loc × LV) → Prop) (hx : X6t P N x (X5p J Q) e) (hy : ∀ live, J live → X6t P N y Q (Xez live)) : X6t P N (.seq x y) Q e := by
  refine Xe (X0e hx fun en e' h => ?_)
  cases en with
  | normal => obtain ⟨live, rfl, hJ⟩ := h; exact hy live hJ
  | _ => exact h
abbrev tv (t : Nat) (v : AV) : Loc × LV := (.t t, ⟨0, false, v⟩)
abbrev bv (t : Nat) (v : AV) : Loc × LV := (.b t, ⟨1, true, v⟩)
abbrev ov (t : Nat) (v : AV) : Loc × LV := (.o t, ⟨1, true, v⟩)
abbrev ki (n : Int) : AV := .int .i64 n
abbrev ku (n : Int) : AV := .int .u64 n
abbrev kw (n : Int) : AV := .int .u32 n
abbrev cT (b : Bool) : AV := .tup [.bool b]
abbrev pb (d : Nat) : AV := .ptr d 1 0 []
open Go Go.RowKit
theorem X5r {C : Cx} {β : Nat → Nat} {ω : Nat → Value} {e : X7l} {a : Act} {w : World} (h : R C β ω e a w) {t g k sz : Nat} {rows : List AV} (hv : e (.t t) = ⟨0, false, .own g k⟩) (hg : e (.o g) = ⟨k, true, .sl sz rows⟩) :
    R C β ω (X7z (X7z e (.o g) ⟨k, false, .sl sz rows⟩) (.t t) ⟨0, false, .sl sz rows⟩) a w := by
  have h1 := Xr7 h (g := g) (sz := sz) (rows := rows) (by rw [hg])
  have hk : (e (.o g)).k = k := by rw [hg]
  rw [hk] at h1
  have e1 : X7z e (.o g) ⟨k, false, .sl sz rows⟩ (.t t) = ⟨0, false, .own g k⟩ := by rw [← hv]; rfl
  have e2 : X7z e (.o g) ⟨k, false, .sl sz rows⟩ (.o g) = ⟨k, false, .sl sz rows⟩ := Xbj _ _ _
  have hx := h1.tm t (by rw [e1])
  rw [e1] at hx
  have hd : Xuk (X7z e (.o g) ⟨k, false, .sl sz rows⟩) (.own g k) = .sl sz rows := by simp [Xuk, e2]
  have := Xm6 h1 hx (by rw [hd]; rfl)
  rw [hd] at this
  exact X3b h1 ⟨fun _ => this, fun hc => by cases hc⟩
theorem Xz1 {P : Program} {N : Nat} {Q : Exit → X7l → Prop} {e : X7l} {c : Code} (t g k sz : Nat) (rows : List AV) (live' : List (Loc × LV)) (h1 : e (.t t) = ⟨0, false, .own g k⟩) (h2 : e (.o g) = ⟨k, true, .sl sz rows⟩)
    (hv : live'.map (fun x => (X7z (X7z e (.o g) ⟨k, false, .sl sz rows⟩) (.t t) ⟨0, false, .sl sz rows⟩) x.1) ++ [(X7z (X7z e (.o g) ⟨k, false, .sl sz rows⟩) (.t t) ⟨0, false, .sl sz rows⟩) (.o N)] = live'.map (·.2) ++ [Xez live' (.o N)]) (hl : Xhb live' = true) (h : X6t P N c Q (Xez live')) : X6t P N c Q e :=
  fun C β ω a w hN hR => h C β ω a w hN (Xl4 (X5r hR h1 h2) hN hv hl)
end Am
end Go.Proofs.YtmlgfablnbbceaaGreat

