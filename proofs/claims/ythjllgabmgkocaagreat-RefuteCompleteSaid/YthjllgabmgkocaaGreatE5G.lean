/-
  The engine, texts RR.
  Conditions: none beyond the premises of each rule.
-/
import Derived.Test.YthjllgabmgkocaaGreatE5E
namespace Go.E2
open Go.RowKit
section
variable {P : Program} {T : Tr} {c : Ctx} {m : Nat} {F : Fr} {L : List Ent} {H : Cells} {w : World} {ds : List Deferred} {ops : Array Oper} {K : KT} {Q : Exit → Act → World → Prop} {rest : List Oper} {ty : TypeId} {pos : String} {aft : Array Edge} {fs : List Nat}
theorem Yx.deferF {x : Operand} {fv : Go.Fn} {caps : List AV} {us : List Value} (hx : oget ⟨m, ds, none⟩ F x = some (.fn fv caps)) (he : exacts caps = some us) (k : Yx P c ⟨m, ⟨.fn fv us.toArray, #[]⟩ :: ds, none⟩ ops Q rest F L) :
    Yx P c ⟨m, ds, none⟩ ops Q (⟨none, .defer ⟨.value x, #[], #[]⟩, ty, pos, aft, none⟩ :: rest) F L :=
  ⟨fun H w ac hst hF dd => by
    refine wpListIn_plain rfl fun K hK => ?_
    refine ⟨fun _ _ => trivial, ?_⟩
    obtain ⟨vs, e, hr⟩ := (hF.eval hx).inv_fn
    have hv := hr.exact he
    subst hv
    have hr : (execOp ac.eval ⟨none, .defer ⟨.value x, #[], #[]⟩, ty, pos, aft, none⟩).run P w = .ok (.defer ⟨.fn fv vs.toArray, #[]⟩) w := by
      simp [execOp, resolve, e, Deferred.ofValue]
    show Oper.uponIn _ _ _ _ _ _ _ ((Oper.semAt none ac.eval _).run P w)
    rw [Oper.semAt_none, hr, Oper.uponIn_defer]
    exact hK ⟨ac.tmps, ⟨.fn fv vs.toArray, #[]⟩ :: ac.defers⟩ w (k.out H w ⟨ac.tmps, ⟨.fn fv vs.toArray, #[]⟩ :: ac.defers⟩ hst ⟨by rw [hF.ds], hF.size, hF.rel⟩ dd)⟩
theorem XK.deferF [TabOK P T] {x : Operand} {fv : Go.Fn} {caps : List AV} {us : List Value} (hx : oget ⟨m, ds, none⟩ F x = some (.fn fv caps)) (he : exacts caps = some us)
    (k : wpl P T c ⟨m, ⟨.fn fv us.toArray, #[]⟩ :: ds, none⟩ ops (fun F L => XK P T fs c m none ops K (⟨.fn fv us.toArray, #[]⟩ :: ds) (rest.drop (stopIx fs rest)) F L) (rest.take (stopIx fs rest)) F L) :
    XK P T fs c m none ops K ds (⟨none, .defer ⟨.value x, #[], #[]⟩, ty, pos, aft, none⟩ :: rest) F L :=
  ⟨fun Q hQ => Yx.deferF hx he ((XK.more (fs := fs) k).out Q hQ)⟩
/-- the end of a function that holds one deferred closure -/
def topE (P : Program) (c : Ctx) (m : Nat) (rs : List ResultVar) (Φ : AV → List Ent → Prop) : KT := fun ds e F L => match ds with
  | [d] => match e with
    | .ret | .normal => Dfr P c d .returning L fun L => rvs P c ⟨m, [], none⟩ F L rs fun as1 => match as1 with
      | [a] => Fin L a Φ
      | as1 => Fin L (.tup as1) Φ
    | .panic ch => Dfr P c d (.panicking ch) L fun L => rvs P c ⟨m, [], none⟩ F L rs fun as1 => match as1 with
      | [a] => Fin L a Φ
      | as1 => Fin L (.tup as1) Φ
    | _ => False
  | _ => False
theorem fnLE_run [TabOK P T] (fs : List Nat) {f : FuncId} {fn : Func} {x : Code} {args : List AV} {Φ : AV → List Ent → Prop} {rs : List ResultVar} (hf : P.funcs[f]? = some fn) (hb : fn.body = some x) (hn : fn.ntmps = m) (ha : Nat.ble args.length m = true) (hr : fn.results = rs.toArray)
    (h : ∀ c' : Ctx, c'.w0 = c.w0 → c.H0.le c'.H0 → frmK args fun F => wpcX P T fs c' m none x (topE P c' m rs Φ) [] F L) : FnL P c f args L Φ := by
  have ha : args.length ≤ m := Nat.le_of_ble_eq_true ha
  refine ⟨fun H w vs hs hrl => calls_of_wp_defers hf hb ?_⟩
  rw [hn]
  refine wpIn_wide.1 (((wpcX_out (frmK_out (h ⟨c.w0, H⟩ rfl hs.le))).out _ fun ds e F L hk => ⟨fun H1 w1 a h1 hF => ?_⟩).out H w _ hs.rebase (fit_args hrl (by rw [← hrl.len]; exact ha) none) 0)
  have key : ∀ {d : Deferred} {u : FrameMode}, u ≠ .run → a.defers = [d] → (Dfr P ⟨c.w0, H⟩ d u L fun L => rvs P ⟨c.w0, H⟩ ⟨m, [], none⟩ F L rs fun as1 => match as1 with
      | [a] => Fin L a Φ
      | as1 => Fin L (.tup as1) Φ) → Leaves P fn a.tmps (fun e w' => ∃ v a H' E, e = .returned v ∧ Φ a E ∧ Rel H' a v ∧ H.le H' ∧ St c H' w' E) a.defers u w1 := fun {d u} hu hd h2 => by
    obtain ⟨fv, cap, f', vs', Φ', q1, q2, q3, q4⟩ := h2.out
    rw [hd]
    refine ⟨hu, fv, cap, f', vs', q1, q2 w1, (q3.out H1 w1 h1).mono ?_⟩
    rintro e u' w' ⟨⟨v, rfl⟩, H2, L2, l2, s2, hp⟩
    obtain ⟨r1, r2⟩ := q4 u' L2 hp
    show Leaves P fn a.tmps _ [] (settle u') w'
    rw [r1]
    obtain ⟨v', a', H', E, g1, g2, g3, g4⟩ := rvs_ret (fn := fn) (a := { a with defers := [] }) hr r2 s2 ⟨rfl, hF.size, (hF.mono l2).rel⟩
    exact ⟨v', g1, v', a', H', E, rfl, g2, g3, g4.le, hs.unbase g4⟩
  unfold topE at hk
  cases ds with
  | nil => exact hk.elim
  | cons d ds =>
    cases ds with
    | nil =>
      cases e with
      | ret => exact key (by simp) hF.ds hk
      | normal => exact key (by simp) hF.ds hk
      | panic ch => exact key (by simp) hF.ds hk
      | exit i => exact hk.elim
      | goto i => exact hk.elim
      | outgrown => exact hk.elim
    | cons _ _ => exact hk.elim
end
end Go.E2
