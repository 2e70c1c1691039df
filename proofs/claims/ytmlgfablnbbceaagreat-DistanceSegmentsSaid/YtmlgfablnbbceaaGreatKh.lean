/- For every input the statement returns true and leaves its arguments as they were. -/
import Derived.Test.YtmlgfablnbbceaaGreatRows
import Derived.Test.YtmlgfablnbbceaaGreatKb
import Derived.WalkKit
import Derived.ProofKit
import Derived.OpenShut
import Derived.Test.YtmlgfablnbbceaaGreatKg
set_option linter.all false
namespace Go.Proofs.YtmlgfablnbbceaaGreat
namespace Am
open Go Go.ChangeShapes Go.WideShapes Go.ChangeAt Go.RowKit
def Xv7 (P : Program) : Nat → List Field → Bool
  | _, [] => true
  | o, f :: fs => Nat.beq f.offset o && Xv7 P (o + P.cellsOf f.type) fs
def X4h (P : Program) : List Field → Nat
  | [] => 0
  | f :: fs => P.cellsOf f.type + X4h P fs
def Xql (P : Program) : Nat → TypeId → Bool
  | 0, _ => false
  | n + 1, t => match P.underlying t with
    | some (.int _) => true
    | some .bool => true
    | some (.struct fs) => Xv7 P 0 fs.toList && Nat.beq (P.cellsOf t) (X4h P fs.toList) && fs.toList.all fun f => Xql P n f.type
    | some (.array m e) => Nat.beq (P.cellsOf t) (m * P.cellsOf e) && Xql P n e
    | _ => false
def X7t (p : TypeId → AV → Prop) : List TypeId → List AV → Prop
  | [], l => l = []
  | t :: ts, l => ∃ x r, l = x :: r ∧ p t x ∧ X7t p ts r
def X7e (P : Program) : Nat → TypeId → AV → Prop
  | 0, _, _ => False
  | n + 1, t, v => match P.underlying t with
    | some (.int k) => ∃ z, v = .int k z ∧ (Lit.int k z).wf = true
    | some .bool => ∃ b, v = .bool b
    | some (.struct fs) => ∃ l, v = .st l ∧ X7t (X7e P n) (fs.toList.map (·.type)) l
    | some (.array m e) => ∃ l, v = .st l ∧ X7t (X7e P n) (List.replicate m e) l
    | _ => False
section
variable {H : Type} {enc : TypeId × Value → H} {P : Program}
def X5v (enc : TypeId × Value → H) (P : Program) (w : World) (t : TypeId) (cs : List Value) (fuel : Nat) (x : DataW H × List MemPlace) (n : Nat) : Prop :=
  x.2 = [] ∧ (∀ (w' : World) (base : Nat) (spare : Nat → Bool) (held : Bool), DataW.trod enc P w' base spare held fuel t cs = some x) ∧ ∃ v, X7e P n t v ∧ ∀ S, X6u S w v cs
theorem Xo4 {w : World} {base : Nat} {spare : Nat → Bool} {held : Bool} {cs : List Value} {fuel n : Nat}
    (ih : ∀ (t : TypeId) (cs : List Value) (x : DataW H × List MemPlace), Xql P n t = true → DataW.trod enc P w base spare held fuel t cs = some x → X5v enc P w t cs fuel x n) :
    ∀ (fs : List Field) (o : Nat) (xs : List (DataW H × List MemPlace)), Xv7 P o fs = true → fs.all (fun f => Xql P n f.type) = true → cs.length = o + X4h P fs →
      fs.mapM (fun f => DataW.trod enc P w base spare held fuel f.type ((cs.drop f.offset).take (P.cellsOf f.type))) = some xs →
      xs.flatMap (·.2) = [] ∧ (∀ (w' : World) (base : Nat) (spare : Nat → Bool) (held : Bool), fs.mapM (fun f => DataW.trod enc P w' base spare held fuel f.type ((cs.drop f.offset).take (P.cellsOf f.type))) = some xs) ∧
      ∃ l, X7t (X7e P n) (fs.map (·.type)) l ∧ ∀ S, Xeb S w l (cs.drop o)
  | [], o, xs, _, _, hl, h => by
    simp only [List.mapM_nil, Option.pure_def, Option.some.injEq] at h; subst h
    refine ⟨rfl, fun _ _ _ _ => rfl, [], rfl, fun S => ?_⟩
    unfold Xeb; exact List.drop_eq_nil_of_le (by simp only [X4h] at hl; omega)
  | f :: fs, o, xs, hc, ha, hl, h => by
    simp only [Xv7, Bool.and_eq_true, Nat.beq_eq] at hc
    simp only [List.all_cons, Bool.and_eq_true] at ha
    simp only [List.mapM_cons, Option.bind_eq_bind, Option.bind_eq_some_iff, Option.pure_def, Option.some.injEq] at h
    obtain ⟨x, hx, ys, hys, rfl⟩ := h
    obtain ⟨e1, e2, v, hv, hr⟩ := ih f.type _ x ha.1 hx
    obtain ⟨k1, k2, l, hl1, hl2⟩ := Xo4 ih fs (o + P.cellsOf f.type) ys hc.2 ha.2 (by simp only [X4h] at hl; omega) hys
    refine ⟨by rw [List.flatMap_cons, e1, k1]; rfl, fun w' b s hd => ?_, v :: l, ⟨v, l, rfl, hv, hl1⟩, fun S => ?_⟩
    · simp only [List.mapM_cons, e2 w' b s hd, k2 w' b s hd, Option.bind_eq_bind, Option.bind_some, Option.pure_def]
    · unfold Xeb
      refine ⟨(cs.drop o).take (P.cellsOf f.type), cs.drop (o + P.cellsOf f.type), ?_, ?_, hl2 S⟩
      · rw [← List.drop_drop, List.take_append_drop]
      · rw [← hc.1]; exact hr S
theorem Xrg {w : World} {base : Nat} {spare : Nat → Bool} {held : Bool} {cs : List Value} {fuel n : Nat} {e : TypeId} (he : Xql P n e = true)
    (ih : ∀ (t : TypeId) (cs : List Value) (x : DataW H × List MemPlace), Xql P n t = true → DataW.trod enc P w base spare held fuel t cs = some x → X5v enc P w t cs fuel x n) :
    ∀ (m o : Nat) (xs : List (DataW H × List MemPlace)), cs.length = (o + m) * P.cellsOf e →
      (List.range' o m).mapM (fun i => DataW.trod enc P w base spare held fuel e ((cs.drop (i * P.cellsOf e)).take (P.cellsOf e))) = some xs →
      xs.flatMap (·.2) = [] ∧ (∀ (w' : World) (base : Nat) (spare : Nat → Bool) (held : Bool), (List.range' o m).mapM (fun i => DataW.trod enc P w' base spare held fuel e ((cs.drop (i * P.cellsOf e)).take (P.cellsOf e))) = some xs) ∧
      ∃ l, X7t (X7e P n) (List.replicate m e) l ∧ ∀ S, Xeb S w l (cs.drop (o * P.cellsOf e))
  | 0, o, xs, hl, h => by
    simp only [List.range'_zero, List.mapM_nil, Option.pure_def, Option.some.injEq] at h; subst h
    refine ⟨rfl, fun _ _ _ _ => rfl, [], rfl, fun S => ?_⟩
    unfold Xeb; exact List.drop_eq_nil_of_le (by rw [hl]; exact Nat.le_refl _)
  | m + 1, o, xs, hl, h => by
    rw [List.range'_succ] at h
    simp only [List.mapM_cons, Option.bind_eq_bind, Option.bind_eq_some_iff, Option.pure_def, Option.some.injEq] at h
    obtain ⟨x, hx, ys, hys, rfl⟩ := h
    obtain ⟨e1, e2, v, hv, hr⟩ := ih e _ x he hx
    obtain ⟨k1, k2, l, hl1, hl2⟩ := Xrg he ih m (o + 1) ys (by rw [hl]; congr 1; omega) hys
    refine ⟨by rw [List.flatMap_cons, e1, k1]; rfl, fun w' b s hd => ?_, v :: l, ⟨v, l, rfl, hv, hl1⟩, fun S => ?_⟩
    · rw [List.range'_succ]; simp only [List.mapM_cons, e2 w' b s hd, k2 w' b s hd, Option.bind_eq_bind, Option.bind_some, Option.pure_def]
    · unfold Xeb
      refine ⟨(cs.drop (o * P.cellsOf e)).take (P.cellsOf e), cs.drop ((o + 1) * P.cellsOf e), ?_, hr S, hl2 S⟩
      rw [Nat.add_mul, Nat.one_mul, ← List.drop_drop, List.take_append_drop]
theorem Xt8 {w : World} {base : Nat} {spare : Nat → Bool} {held : Bool} : ∀ (n fuel : Nat) (t : TypeId) (cs : List Value) (x : DataW H × List MemPlace), Xql P n t = true → DataW.trod enc P w base spare held fuel t cs = some x → X5v enc P w t cs fuel x n
  | 0, _, _, _, _, hf, _ => by simp [Xql] at hf
  | _ + 1, 0, _, _, _, _, h => by simp [DataW.trod] at h
  | n + 1, fuel + 1, t, cs, x, hf, h => by
    have ih := fun t cs x => Xt8 (w := w) (base := base) (spare := spare) (held := held) n fuel t cs x
    unfold Xql at hf
    split at hf
    · rename_i k ht
      obtain ⟨z, rfl, rfl, hw⟩ := DataW.trod_int ht h
      refine ⟨rfl, fun _ _ _ _ => ?_, .int k z, ?_, fun S => ?_⟩
      · unfold DataW.trod; rw [ht]; simp [hw]
      · unfold X7e; rw [ht]; exact ⟨z, rfl, hw⟩
      · unfold X6u; rfl
    · rename_i ht
      have h0 := h
      unfold DataW.trod at h
      rw [ht] at h
      have hb : ∃ b, cs = [.bool b] ∧ x = (.lit (.bool b), []) := by
        split at h <;> simp_all
      obtain ⟨b, rfl, rfl⟩ := hb
      refine ⟨rfl, fun _ _ _ _ => ?_, .bool b, ?_, fun S => ?_⟩
      · unfold DataW.trod; rw [ht]
      · unfold X7e; rw [ht]; exact ⟨b, rfl⟩
      · unfold X6u; rfl
    · rename_i fs ht
      simp only [Bool.and_eq_true, Nat.beq_eq] at hf
      obtain ⟨⟨hc, hz⟩, ha⟩ := hf
      have h0 := h
      unfold DataW.trod at h
      rw [ht] at h
      have hlen : cs.length = P.cellsOf t := (DataW.trod_struct ht h0).choose_spec.choose_spec.2.2.1
      simp only [hlen, if_true, Option.map_eq_some_iff] at h
      obtain ⟨xs, hxs, rfl⟩ := h
      obtain ⟨k1, k2, l, hl1, hl2⟩ := Xo4 ih fs.toList 0 xs hc ha (by omega) hxs
      refine ⟨k1, fun w' b s hd => ?_, .st l, ?_, fun S => ?_⟩
      · unfold DataW.trod; rw [ht]; simp only [hlen, if_true, k2 w' b s hd]; rfl
      · unfold X7e; rw [ht]; exact ⟨l, rfl, hl1⟩
      · unfold X6u; exact hl2 S
    · rename_i m e ht
      simp only [Bool.and_eq_true, Nat.beq_eq] at hf
      obtain ⟨hz, he⟩ := hf
      have h0 := h
      unfold DataW.trod at h
      rw [ht] at h
      have hlen : cs.length = P.cellsOf t := (DataW.trod_array ht h0).choose_spec.choose_spec.2.2.1
      simp only [hlen, if_true, Option.map_eq_some_iff] at h
      obtain ⟨xs, hxs, rfl⟩ := h
      rw [List.range_eq_range'] at hxs
      obtain ⟨k1, k2, l, hl1, hl2⟩ := Xrg he ih m 0 xs (by rw [hlen, hz, Nat.zero_add]) hxs
      refine ⟨k1, fun w' b s hd => ?_, .st l, ?_, fun S => ?_⟩
      · unfold DataW.trod; rw [ht]; simp only [hlen, if_true]; rw [List.range_eq_range', k2 w' b s hd]; rfl
      · unfold X7e; rw [ht]; exact ⟨l, rfl, hl1⟩
      · unfold X6u; have := hl2 S; rw [Nat.zero_mul] at this; exact this
    · cases hf
end
open Go Go.ChangeShapes Go.WideShapes Go.ChangeAt Go.RowKit
section
variable {H : Type} {enc : TypeId × Value → H} {P : Program}
theorem X0v {w : World} {r : Reach} {b0 n : Nat} {t : TypeId} {v : Value} {av : AV} (hv : Value.okWide P w r b0 t v) (hi : X7e P n t av) {S : Nat → Prop} (hr : X6u S w av v.cells.toList) : X11 S w av v := by
  cases n with
  | zero => cases hi
  | succ n =>
    unfold X7e at hi
    split at hi
    · rename_i k ht
      obtain ⟨z, rfl, _⟩ := hi
      obtain ⟨m, rfl⟩ := okWide_int ht hv
      unfold X6u at hr
      have : Value.int k m = .int k z := by simpa [Value.cells] using hr
      rw [this]; show X6u S w (.int k z) [_]; unfold X6u; rfl
    · rename_i ht
      obtain ⟨z, rfl⟩ := hi
      obtain ⟨m, rfl⟩ := okWide_bool ht hv
      unfold X6u at hr
      have : Value.bool m = .bool z := by simpa [Value.cells] using hr
      rw [this]; show X6u S w (.bool z) [_]; unfold X6u; rfl
    · rename_i fs ht
      obtain ⟨l, rfl, _⟩ := hi
      obtain ⟨cs, rfl, _⟩ := okWide_struct ht hv
      unfold X6u at hr
      exact ⟨cs, rfl, hr⟩
    · rename_i m e ht
      obtain ⟨l, rfl, _⟩ := hi
      simp only [Value.okWide, ht] at hv
      obtain ⟨cs, rfl, _⟩ := hv
      unfold X6u at hr
      exact ⟨cs, rfl, hr⟩
    · cases hi
theorem Xw2 {w : World} {base : Nat} {spare : Nat → Bool} {held : Bool} {r : Reach} {b0 n : Nat} : ∀ (ts : List TypeId) (vs : List Value) (ds : List (DataW H)) (p : List MemPlace), ts.all (Xql P n) = true →
    (∀ (j : Nat) t v, ts[j]? = some t → vs[j]? = some v → Value.okWide P w r b0 t v) → DataW.TrodAll enc P w base spare held ts vs ds p →
    p = [] ∧ (∀ (w' : World) (b : Nat) (sp : Nat → Bool) (hd : Bool), DataW.TrodAll enc P w' b sp hd ts vs ds []) ∧ ∃ avs, X7t (X7e P n) ts avs ∧ ∀ S, Xiz S w avs vs
  | [], vs, ds, p, _, _, h => by
    obtain ⟨rfl, rfl, rfl⟩ := trodAll_nil h
    exact ⟨rfl, fun _ _ _ _ => rfl, [], rfl, fun _ => rfl⟩
  | t :: ts, vs, ds, p, ha, hv, h => by
    simp only [List.all_cons, Bool.and_eq_true] at ha
    obtain ⟨v, vs', d, ds', p1, q1, rfl, rfl, rfl, ⟨fuel, h1⟩, h2⟩ := trodAll_cons h
    obtain ⟨e1, e2, av, hi, hr⟩ := Xt8 n fuel t _ _ ha.1 h1
    obtain ⟨k1, k2, avs, hl, hrs⟩ := Xw2 ts vs' ds' q1 ha.2 (fun j t v h3 h4 => hv (j + 1) t v h3 h4) h2
    simp only at e1; subst e1; subst k1
    exact ⟨rfl, fun w' b sp hd => ⟨[], [], ⟨fuel, e2 w' b sp hd⟩, k2 w' b sp hd, rfl⟩, av :: avs, ⟨av, avs, rfl, hi, hl⟩, fun S => ⟨v, vs', rfl, X0v (hv 0 t v rfl rfl) hi (hr S), hrs S⟩⟩
theorem Xzr {f : Func} {s : ChangeSpec} {apart fresh handsOn again : Bool} {W W' : World} {args : Array Value} {v : Value} {ds : List (DataW H)} (hvars : s.vars = [])
    (hW : DataW.Whole enc P f.params.toList s.vars apart W args.toList ds [] [])
    (hres : ∀ (b : Nat) (sp : Nat → Bool) (hd : Bool), DataW.TrodAll enc P W' b sp hd f.resultTypes.toList (v.resultList f.resultTypes.size) (s.fn H (ds ++ [])).results [])
    (hargs : ∀ (b : Nat) (sp : Nat → Bool) (hd : Bool), DataW.TrodAll enc P W' b sp hd f.params.toList args.toList (s.fn H (ds ++ [])).args [])
    (hg : (s.fn H (ds ++ [])).vars = []) (hk : Below W.heap.size W W')
    (hok : ∀ (j : Nat) (t : TypeId) (r : Value), f.resultTypes[j]? = some t → (v.resultList f.resultTypes.size)[j]? = some r → Value.okWide P W' .any 0 t r) :
    s.post enc P f apart fresh handsOn again W args v W' := by
  have hv : ∀ sp, DataW.TrodVars enc P W' sp s.vars (s.fn H (ds ++ [])).vars [] := fun sp => by rw [hvars, hg]; rfl
  refine ⟨ds, [], [], [], [], [], hW, hres _ _ _, hargs _ _ _, hv _, hk.frame _, fun _ => ?_⟩
  refine ⟨hok, _, _, ([] ++ []) ++ [], ⟨[] ++ [], [], trodAll_append (hargs _ _ _) (hres _ _ _), hv _, rfl, ?_, ?_⟩, ?_⟩
  · intro b off hp; simp at hp
  · intro ha; simp
  · intro p hp _; simp at hp
end
open Go Go.ChangeShapes Go.WideShapes Go.ChangeAt Go.RowKit
theorem X10 {n : Int} (h : (Lit.int .i16 n).wf = true) : -32768 ≤ n ∧ n < 32768 := by
  simp [Lit.wf, IntKind.min, IntKind.max, IntKind.signed, IntKind.bits] at h; omega
theorem X5s {n : Int} (h : (Lit.int .u8 n).wf = true) : 0 ≤ n ∧ n < 256 := by
  simp [Lit.wf, IntKind.min, IntKind.max, IntKind.signed, IntKind.bits] at h; omega
theorem Xvl {n t : Nat} {k : IntKind} {v : AV} (ht : Tryz.prog.underlying t = some (.int k)) (h : X7e Tryz.prog (n + 1) t v) : ∃ z, v = .int k z ∧ (Lit.int k z).wf = true := by
  unfold X7e at h; rw [ht] at h; exact h
theorem X44 {P : Program} {n t : Nat} {fs : Array Field} {v : AV} (ht : P.underlying t = some (.struct fs)) (h : X7e P (n + 1) t v) : ∃ l, v = .st l ∧ X7t (X7e P n) (fs.toList.map (·.type)) l := by
  unfold X7e at h; rw [ht] at h; exact h
theorem X27 {P : Program} {n t m e : Nat} {v : AV} (ht : P.underlying t = some (.array m e)) (h : X7e P (n + 1) t v) : ∃ l, v = .st l ∧ X7t (X7e P n) (List.replicate m e) l := by
  unfold X7e at h; rw [ht] at h; exact h
set_option maxRecDepth 100000 in
theorem Xwm {n : Nat} {v : AV} (h : X7e Tryz.prog (n + 2) 29 v) : ∃ s : SpotV, v = Xcy s ∧ (-32768 ≤ s.x ∧ s.x < 32768) ∧ (-32768 ≤ s.y ∧ s.y < 32768) ∧ 0 ≤ s.d ∧ s.d < 256 := by
  obtain ⟨l, rfl, x0, r0, rfl, h0, x1, r1, rfl, h1, x2, r2, rfl, h2, rfl⟩ := X44 Tryz.underlying29 h
  obtain ⟨a, rfl, ha⟩ := Xvl Tryz.underlying27 h0
  obtain ⟨b, rfl, hb⟩ := Xvl Tryz.underlying27 h1
  obtain ⟨c, rfl, hc⟩ := Xvl Tryz.underlying5 h2
  exact ⟨⟨a, b, c⟩, rfl, X10 ha, X10 hb, X5s hc⟩
set_option maxRecDepth 100000 in
theorem Xtw {n : Nat} {v : AV} (h : X7e Tryz.prog (n + 3) 72 v) : ∃ s t : SpotV, v = .st [Xcy s, Xcy t] ∧ ((-32768 ≤ s.x ∧ s.x < 32768) ∧ (-32768 ≤ s.y ∧ s.y < 32768) ∧ 0 ≤ s.d ∧ s.d < 256) ∧ ((-32768 ≤ t.x ∧ t.x < 32768) ∧ (-32768 ≤ t.y ∧ t.y < 32768) ∧ 0 ≤ t.d ∧ t.d < 256) := by
  obtain ⟨l, rfl, x0, r0, rfl, h0, x1, r1, rfl, h1, rfl⟩ := X27 Tryz.underlying72 h
  obtain ⟨s, rfl, hs⟩ := Xwm h0
  obtain ⟨t, rfl, ht⟩ := Xwm h1
  exact ⟨s, t, rfl, hs, ht⟩
theorem own : ownKnob Tryz.prog.godebug = Option.none := by kernel_rfl
set_option maxRecDepth 100000 in
theorem X2w {f : Func} {s : ChangeSpec} {H : Type} {enc : TypeId × Value → H} {n : Nat} {W : World} {vs : Array Value} {args : List AV} {ds : List (DataW H)} (hc : CS Tryz.prog n args (.bool true))
    (hr : ∀ S, Xiz S W args vs.toList) (hvars : s.vars = []) (hrt : f.resultTypes = #[4])
    (hW : DataW.Whole enc Tryz.prog f.params.toList s.vars false W vs.toList ds [] [])
    (hres : (s.fn H (ds ++ [])).results = [.lit (.bool true)]) (hg : (s.fn H (ds ++ [])).vars = []) (hargs : (s.fn H (ds ++ [])).args = ds)
    (hall : ∀ (w' : World) (b : Nat) (sp : Nat → Bool) (hd : Bool), DataW.TrodAll enc Tryz.prog w' b sp hd f.params.toList vs.toList ds []) :
    Calls Tryz.prog n vs W fun e W' => ∃ v, e = .returned v ∧ s.post enc Tryz.prog f false true false false W vs v W' := by
  obtain ⟨_, _, h⟩ := hc
  have h := h (fun _ => False) W vs.toList (fun _ h => h.elim) (hr _)
  refine Calls.mono h ?_
  rintro e W' ⟨v, rfl, hb, hv⟩
  have hv : v = .bool true := by
    have hv : X6u (fun b => False ∨ W.heap.size ≤ b) W' (.bool true) [v] := hv
    unfold X6u at hv; simpa using hv
  subst hv
  refine ⟨_, rfl, Xzr hvars hW (fun _ _ _ => ?_) (fun b sp hd => ?_) hg hb (ok_one hrt rfl (okWide_bool_mk Tryz.underlying4 _))⟩
  · rw [hrt, hres]; exact trodAll_cons_mk (shut_bool Tryz.underlying4 _) trodAll_mk0
  · rw [hargs]; exact hall _ _ _ _
set_option maxRecDepth 100000 in
theorem Xil (os : Os) (started : os.Started) (H : Type) (enc : TypeId × Value → H) :
    ReturnsInHanded {} Tryz.checked os 7 .any (Rows.distanceSegmentsSpec.pre6 enc Tryz.prog Tryz.f7 Rows.distanceSegmentsRow.domain false) (Rows.distanceSegmentsSpec.post enc Tryz.prog Tryz.f7 false true false false) := by
  refine returnsInHanded_of_change (C := Tryz.checked) own started (by kernel_rfl) Tryz.func7
    (ChangeSpec.witness6 (enc := enc) (C := Tryz.checked) false ⟨#[], #[.agg #[.int .i16 0, .int .i16 0, .int .u8 0, .int .i16 0, .int .i16 0, .int .u8 0], .agg #[.int .i16 0, .int .i16 0, .int .u8 0, .int .i16 0, .int .i16 0, .int .u8 0]], []⟩ 8 (by kernel_rfl) (by kernel_rfl) (by kernel_rfl) (by kernel_rfl)) ?_
  intro W base args ds gs before hval0 hW hcnd _
  have hval : ∀ (j : Nat) t v, Tryz.f7.params[j]? = some t → args[j]? = some v → Value.okWide Tryz.prog W .any base t v := hval0
  have hW' := hW
  obtain ⟨p, q, hA0, hV, rfl, hfz, hnd⟩ := hW
  have hA : DataW.TrodAll enc Tryz.prog W 0 (fun _ => true) true Tryz.f7.params.toList args.toList ds p := hA0
  have hp : Tryz.f7.params.toList = [72, 72] := by rw [Tryz.params7]
  obtain ⟨rfl, hall, avs, hl, hr⟩ := Xw2 (n := 4) Tryz.f7.params.toList args.toList ds p (by rw [hp]; kernel_rfl) (fun j t v h1 h2 => hval j t v (by simpa using h1) (by simpa using h2)) hA
  obtain ⟨rfl, rfl⟩ := trodVars_none hV
  rw [hp] at hl
  obtain ⟨x0, r0, rfl, h0, x1, r1, rfl, h1, rfl⟩ := hl
  obtain ⟨a0, a1, rfl, ha0, ha1⟩ := Xtw h0
  obtain ⟨b0, b1, rfl, hb0, hb1⟩ := Xtw h1
  have hd : ∃ d1 d2, ds = [d1, d2] := by
    rw [hp] at hA
    obtain ⟨v0, vs0, d0, ds0, p0, q0, _, rfl, _, _, r0⟩ := trodAll_cons hA
    obtain ⟨v1, vs1, d1, ds1, p1, q1, _, rfl, _, _, r1⟩ := trodAll_cons r0
    obtain ⟨_, rfl, _⟩ := trodAll_nil r1
    exact ⟨d0, d1, rfl⟩
  obtain ⟨d1, d2, rfl⟩ := hd
  simp only [List.append_nil] at hW'
  exact X2w (Xiv a0 a1 b0 b1 ha0 ha1 hb0 hb1) hr rfl (by kernel_rfl) hW' rfl rfl rfl hall
theorem Xka : Rows.distanceSegmentsRow.holds Tryz.pinned (OpenSpec.ofChange Rows.distanceSegmentsSpec) :=
  OpenClaim.holds_of_wide 7 Tryz.f7 rfl rfl rfl rfl rfl rfl rfl ⟨rfl, rfl, rfl, rfl, rfl⟩ rfl rfl rfl rfl rfl (by kernel_rfl) Tryz.func7 (by kernel_rfl)
    (of_decide_eq_true (by kernel_rfl)) (by unfold Func.isWrapper; first | (rw [if_pos (by decide +kernel)]; kernel_rfl) | (rw [if_neg (by decide +kernel)]; exact ⟨rfl, rfl⟩))
    (fun os started H enc _ => Xil os started H enc)
theorem distanceSegments_said : Rows.DistanceSegmentsSaid := Xka
#print axioms distanceSegments_said
end Am
end Go.Proofs.YtmlgfablnbbceaaGreat

