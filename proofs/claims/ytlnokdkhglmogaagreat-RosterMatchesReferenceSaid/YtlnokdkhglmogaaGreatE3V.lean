/-
  The engine, part V: obligations are enough: code, loops, functions; the operations that turn the heap.
  Conditions: none beyond the premises of each rule.
-/
import Derived.Test.YtlnokdkhglmogaaGreatE3U
import Derived.Test.YtlnokdkhglmogaaGreatE3J
namespace Go.E2
open Go.RowKit
section
variable {P : Program} {T : Tr} {c : Ctx} {m : Nat} {ro : Option Nat}
theorem wpc_out [hT : TabOK P T] : ∀ {x : Code} {K : KT} {ds : List Deferred} {F : Fr} {L : List Ent}, wpc P T c m ro x K ds F L → CK P T c m ro x K ds F L
  | .skip, K, ds, F, L, h => ⟨fun Q hQ => Cx.skip (hQ _ _ _ _ h)⟩
  | .region id ops draw, K, ds, F, L, h => by
    cases draw with
    | true => exact h
    | false =>
      simp only [wpc] at h
      rcases cond_or h with ⟨hd, h⟩ | ⟨_, h⟩
      · refine ⟨fun Q hQ => ?_⟩
        have := Cx.region (id := id) (P := P) (c := c) (n := ⟨m, ds, ro⟩) (Q := Q) (F := F) (L := L) (l := ops.toList) hd (by
          rw [Array.toArray_toList]
          exact (wpl_out h).out Q fun F L hk => hQ _ _ _ _ hk)
        rwa [Array.toArray_toList] at this
      · exact h
  | .seq a b, K, ds, F, L, h => ⟨fun Q hQ => Cx.seq fun K' hK => (wpc_out (x := a) h).out K' fun ds e F L hk => by
      cases e with
      | normal => exact Ex.seq hK ((wpc_out (x := b) hk).out Q hQ)
      | exit i => exact hK.other ds _ F L (by simp) (hQ _ _ _ _ hk)
      | goto i => exact hK.other ds _ F L (by simp) (hQ _ _ _ _ hk)
      | ret => exact hK.other ds _ F L (by simp) (hQ _ _ _ _ hk)
      | panic i => exact hK.other ds _ F L (by simp) (hQ _ _ _ _ hk)
      | outgrown => exact hK.other ds _ F L (by simp) (hQ _ _ _ _ hk)⟩
  | .cond x a b, K, ds, F, L, h => by
    obtain ⟨v, e, h⟩ := rd_out h
    split at h
    · exact ⟨fun Q hQ => Cx.cond e (fun q => (wpc_out (x := a) (h.t q)).out Q hQ) (fun q => (wpc_out (x := b) (h.f q)).out Q hQ)⟩
    · exact h.elim
  | .block id a, K, ds, F, L, h => ⟨fun Q hQ => Cx.block fun K' hK => (wpc_out (x := a) h).out K' fun ds e F L hk => by
      cases e with
      | normal => exact hK.norm ds F L (hQ _ .normal _ _ hk)
      | exit i =>
        rcases cond_or hk with ⟨e, h1⟩ | ⟨e, h1⟩
        · have := Nat.eq_of_beq_eq_true e
          clear hk
          subst this
          exact hK.out ds F L (hQ _ _ _ _ h1)
        · exact hK.other ds _ F L (by simp) (fun q => by cases q; simp at e) (hQ _ _ _ _ h1)
      | goto i => exact hK.other ds _ F L (by simp) (by simp) (hQ _ _ _ _ hk)
      | ret => exact hK.other ds _ F L (by simp) (by simp) (hQ _ _ _ _ hk)
      | panic i => exact hK.other ds _ F L (by simp) (by simp) (hQ _ _ _ _ hk)
      | outgrown => exact hK.other ds _ F L (by simp) (by simp) (hQ _ _ _ _ hk)⟩
  | .exit id, K, ds, F, L, h => ⟨fun Q hQ => Cx.exit (hQ _ _ _ _ h)⟩
  | .ret, K, ds, F, L, h => ⟨fun Q hQ => Cx.ret (hQ _ _ _ _ h)⟩
  | .loop _, K, ds, F, L, h => h
  | .rangeFunc _ _ _ _, K, ds, F, L, h => h
  | .scope _, K, ds, F, L, h => h
  | .label _, K, ds, F, L, h => h
  | .goto _, K, ds, F, L, h => h
  | .refuse _, K, ds, F, L, h => h

/-! results -/
section
variable (P : Program) (c : Ctx) (n : Cfg)
structure AskR (r : ResultVar) (F : Fr) (L : List Ent) (k : AV → Prop) : Prop where
  out : ∃ x, Rv P c n r F L x ∧ k x
def rvs (F : Fr) (L : List Ent) : List ResultVar → (List AV → Prop) → Prop
  | [], k => k []
  | .tmp t :: rs, k => rd n F (.tmp t) fun a => rvs F L rs fun as => k (a :: as)
  | r :: rs, k => AskR P c n r F L fun a => rvs F L rs fun as => k (a :: as)
end
inductive Fin : List Ent → AV → (AV → List Ent → Prop) → Prop
  | out {L : List Ent} {a : AV} {Φ : AV → List Ent → Prop} (E : List Ent) (hE : E.Sublist L) (h : Φ a E) : Fin L a Φ
  | frzR {L : List Ent} {a : AV} {Φ : AV → List Ent → Prop} (i : Nat) {v : Value} {t : TypeId} {size m : Nat} {z : Bool} {xs : List AV} (hL : L[i]? = some (.row v t size m z xs)) (k : Fin (L.set i (.row v t size xs.length true xs)) a Φ) : Fin L a Φ
  | frzB {L : List Ent} {a : AV} {Φ : AV → List Ent → Prop} (i : Nat) {g : Nat} {t : TypeId} {z : Bool} {cs : List AV} (hL : L[i]? = some (.blk g t z cs)) (k : Fin (L.set i (.blk g t true cs)) a Φ) : Fin L a Φ
  | see {L : List Ent} {a b : AV} {Φ : AV → List Ent → Prop} (hs : Sb L a b) (k : Fin L b Φ) : Fin L a Φ
  | nilrow {L : List Ent} {a : AV} {Φ : AV → List Ent → Prop} (t : TypeId) (size : Nat) (k : Fin (.row (.slice none 0 0) t size 0 false [] :: L) a Φ) : Fin L a Φ
theorem Fin.sound {H : Cells} {w : World} {L : List Ent} {a : AV} {v : Value} {Φ : AV → List Ent → Prop} (h : Fin L a Φ) (hs : St c H w L) (hr : Rel H a v) : ∃ a' H' E, Φ a' E ∧ Rel H' a' v ∧ St c H' w E := by
  induction h generalizing H with
  | out E hE h => exact ⟨_, H, E, h, hr, hs.sub hE⟩
  | frzR i hL k ih => obtain ⟨H', hl, hs'⟩ := hs.freezeRow hL; exact ih hs' (hr.mono hl)
  | frzB i hL k ih => obtain ⟨H', hl, hs', _⟩ := hs.freezeBlk hL; exact ih hs' (hr.mono hl)
  | see hb k ih => exact ih hs (hb.rel hs hr)
  | nilrow t size k ih => exact ih (hs.nilrow t size) hr
def tupOf : List AV → AV
  | [a] => a
  | as => .tup as
def topK (P : Program) (c : Ctx) (m : Nat) (rs : List ResultVar) (Φ : AV → List Ent → Prop) : KT := fun ds e F L => match ds with
  | [] => match e with
    | .ret => rvs P c ⟨m, [], none⟩ F L rs fun as => match as with
      | [a] => Fin L a Φ
      | as => Fin L (.tup as) Φ
    | .normal => match rs with
      | [] => Fin L (.tup []) Φ
      | _ => False
    | _ => False
  | _ => False
theorem rvs_out {n : Cfg} {F : Fr} {L : List Ent} : ∀ {rs : List ResultVar} {k : List AV → Prop}, rvs P c n F L rs k → ∃ as, k as ∧ ∀ H w a, St c H w L → Fit H n F a → ∃ vs, (rs.mapM (rvSem a.tmps)).run P w = .ok vs w ∧ RelL H as vs
  | [], k, h => ⟨[], h, fun H w a _ _ => ⟨[], by simp, .nil⟩⟩
  | r :: rs, k, h => by
    have key : ∃ x, Rv P c n r F L x ∧ rvs P c n F L rs fun as => k (x :: as) := by
      cases r with
      | tmp t =>
        obtain ⟨x, e, h⟩ := rd_out h
        exact ⟨x, Rv.tmp e, h⟩
      | cell a t => exact h.out
    obtain ⟨x, h1, h2⟩ := key
    obtain ⟨as, h3, h4⟩ := rvs_out h2
    refine ⟨x :: as, h3, fun H w a hs hF => ?_⟩
    obtain ⟨v, e1, r1⟩ := h1.out H w a hs hF
    obtain ⟨vs, e2, r2⟩ := h4 H w a hs hF
    exact ⟨v :: vs, by rw [List.mapM_cons]; simp [e1, e2], .cons r1 r2⟩
theorem topK_out {fn : Func} {Φ : AV → List Ent → Prop} {K : Exit → Act → World → Prop} (hk : Ktop P c m fn Φ K) {rs : List ResultVar} (hr : fn.results = rs.toArray) : ∀ ds e F L, topK P c m rs Φ ds e F L → Ex c ⟨m, ds, none⟩ K e F L := by
  intro ds e F L h
  unfold topK at h
  split at h
  · split at h
    · obtain ⟨as, h1, h2⟩ := rvs_out h
      refine hk.out .ret F L ⟨fun H w a hs hF => ?_⟩
      obtain ⟨vs, e1, r1⟩ := h2 H w a hs hF
      have hrel : ∃ v, Rel H (tupOf as) v ∧ (results fn a.tmps).run P w = .ok v w := by
        rw [results_rv, hr]
        cases r1 with
        | nil => exact ⟨.tuple #[], .tup .nil, by simp [e1]⟩
        | cons h t =>
          cases t with
          | nil => exact ⟨_, h, by simp [e1]⟩
          | cons h' t => exact ⟨_, .tup (.cons h (.cons h' t)), by simp [e1]⟩
      obtain ⟨v, hv, hres⟩ := hrel
      have h1' : Fin L (tupOf as) Φ := by
        unfold tupOf
        split at h1 <;> exact h1
      obtain ⟨a', H', E, p1, p2, p3⟩ := h1'.sound hs hv
      exact bodyPost_ret (v := v) hres hF.ds ⟨v, a', H', E, rfl, p1, p2, p3⟩
    · split at h
      · refine hk.out .normal F L ⟨fun H w a hs hF => ?_⟩
        obtain ⟨a', H', E, p1, p2, p3⟩ := h.sound hs (v := .tuple #[]) (.tup .nil)
        exact bodyPost_end (v := .tuple #[]) (results_none (by rw [hr]) _ _ _) hF.ds ⟨_, a', H', E, rfl, p1, p2, p3⟩
      · exact h.elim
    · exact h.elim
  · exact h.elim
theorem topK_outL {fn : Func} {Φ : AV → List Ent → Prop} {K : Exit → Act → World → Prop} (hk : KtopL P c m fn Φ K) {rs : List ResultVar} (hr : fn.results = rs.toArray) : ∀ ds e F L, topK P c m rs Φ ds e F L → Ex c ⟨m, ds, none⟩ K e F L := by
  obtain ⟨c0, hu, ho⟩ := hk.ex
  intro ds e F L h
  unfold topK at h
  split at h
  · split at h
    · obtain ⟨as, h1, h2⟩ := rvs_out h
      refine ho .ret F L ⟨fun H w a hs hF => ?_⟩
      obtain ⟨vs, e1, r1⟩ := h2 H w a hs hF
      have hrel : ∃ v, Rel H (tupOf as) v ∧ (results fn a.tmps).run P w = .ok v w := by
        rw [results_rv, hr]
        cases r1 with
        | nil => exact ⟨.tuple #[], .tup .nil, by simp [e1]⟩
        | cons h t =>
          cases t with
          | nil => exact ⟨_, h, by simp [e1]⟩
          | cons h' t => exact ⟨_, .tup (.cons h (.cons h' t)), by simp [e1]⟩
      obtain ⟨v, hv, hres⟩ := hrel
      have h1' : Fin L (tupOf as) Φ := by
        unfold tupOf
        split at h1 <;> exact h1
      obtain ⟨a', H', E, p1, p2, p3⟩ := h1'.sound hs hv
      exact bodyPost_ret (v := v) hres hF.ds ⟨v, a', H', E, rfl, p1, p2, p3.le, hu _ _ _ p3⟩
    · split at h
      · refine ho .normal F L ⟨fun H w a hs hF => ?_⟩
        obtain ⟨a', H', E, p1, p2, p3⟩ := h.sound hs (v := .tuple #[]) (.tup .nil)
        exact bodyPost_end (v := .tuple #[]) (results_none (by rw [hr]) _ _ _) hF.ds ⟨_, a', H', E, rfl, p1, p2, p3.le, hu _ _ _ p3⟩
      · exact h.elim
    · exact h.elim
  · exact h.elim
def frmK : List AV → (Fr → Prop) → Prop
  | [], k => k []
  | [a0], k => k [(0, a0)]
  | [a0, a1], k => k [(0, a0), (1, a1)]
  | [a0, a1, a2], k => k [(0, a0), (1, a1), (2, a2)]
  | [a0, a1, a2, a3], k => k [(0, a0), (1, a1), (2, a2), (3, a3)]
  | [a0, a1, a2, a3, a4], k => k [(0, a0), (1, a1), (2, a2), (3, a3), (4, a4)]
  | [a0, a1, a2, a3, a4, a5], k => k [(0, a0), (1, a1), (2, a2), (3, a3), (4, a4), (5, a5)]
  | [a0, a1, a2, a3, a4, a5, a6], k => k [(0, a0), (1, a1), (2, a2), (3, a3), (4, a4), (5, a5), (6, a6)]
  | [a0, a1, a2, a3, a4, a5, a6, a7], k => k [(0, a0), (1, a1), (2, a2), (3, a3), (4, a4), (5, a5), (6, a6), (7, a7)]
  | l, k => k (argF 0 l)
theorem frmK_out {l : List AV} {k : Fr → Prop} (h : frmK l k) : k (argF 0 l) := by
  unfold frmK at h
  split at h <;> exact h
theorem fn_run [TabOK P T] {f : FuncId} {fn : Func} {x : Code} {args : List AV} {Φ : AV → List Ent → Prop} {rs : List ResultVar} (hf : P.funcs[f]? = some fn) (hb : fn.body = some x) (hn : fn.ntmps = m) (ha : Nat.ble args.length m = true) (hr : fn.results = rs.toArray)
    (h : ∀ c, frmK args fun F => wpc P T c m none x (topK P c m rs Φ) [] F []) : FnE P f args Φ :=
  fn_of hf hb hn ha fun c K hk => (wpc_out (frmK_out (h c))).out K (topK_out hk hr)
theorem fnL_run [TabOK P T] {f : FuncId} {fn : Func} {x : Code} {args : List AV} {L : List Ent} {Φ : AV → List Ent → Prop} {rs : List ResultVar} (hf : P.funcs[f]? = some fn) (hb : fn.body = some x) (hn : fn.ntmps = m) (ha : Nat.ble args.length m = true) (hr : fn.results = rs.toArray)
    (h : ∀ c' : Ctx, c'.w0 = c.w0 → frmK args fun F => wpc P T c' m none x (topK P c' m rs Φ) [] F L) : FnL P c f args L Φ :=
  fnL_of hf hb hn ha fun c' K hw _ hk => (wpc_out (frmK_out (h c' hw))).out K (topK_outL hk hr)
theorem Fin.seeP {L : List Ent} {a r : AV} (h : Sb L a r) : Fin L a (Is r) := .see h (.out [] (List.nil_sublist _) ⟨rfl, rfl⟩)
theorem Fin.pure {L : List Ent} {a r : AV} (h : a = r) : Fin L a (Is r) := .out [] (List.nil_sublist _) ⟨h, rfl⟩

/-! loops -/
inductive Nxt (ds ds' : List Deferred) (F0 : Fr) {σ : Type} (p : σ → Prop) (I : σ → Fr) (J : σ → List Ent) (μ : σ → Nat) (s : σ) : Fr → List Ent → Prop
  | mk {F : Fr} {L : List Ent} (hd : ds' = ds) (out : ∃ s', p s' ∧ μ s' < μ s ∧ Says F (I s' ++ F0) ∧ (J s').Sublist L) : Nxt ds ds' F0 p I J μ s F L
  | see {F : Fr} {L : List Ent} (t : Nat) {a b : AV} (h : look F t = some a) (hs : Sb L a b) (k : Nxt ds ds' F0 p I J μ s ((t, b) :: F) L) : Nxt ds ds' F0 p I J μ s F L
  | frzR {F : Fr} {L : List Ent} (i : Nat) {v : Value} {t : TypeId} {size m : Nat} {z : Bool} {xs : List AV} (hL : L[i]? = some (.row v t size m z xs)) (k : Nxt ds ds' F0 p I J μ s F (L.set i (.row v t size xs.length true xs))) : Nxt ds ds' F0 p I J μ s F L
  | frzB {F : Fr} {L : List Ent} (i : Nat) {g : Nat} {t : TypeId} {z : Bool} {cs : List AV} (hL : L[i]? = some (.blk g t z cs)) (k : Nxt ds ds' F0 p I J μ s F (L.set i (.blk g t true cs))) : Nxt ds ds' F0 p I J μ s F L
  | perm {F : Fr} {L L' : List Ent} (hp : L.Perm L') (k : Nxt ds ds' F0 p I J μ s F L') : Nxt ds ds' F0 p I J μ s F L
def memB (d : Nat) : List Nat → Bool
  | [] => false
  | x :: l => cond (Nat.beq d x) true (memB d l)
theorem memB_f {d : Nat} : ∀ {l : List Nat}, memB d l = false → d ∉ l
  | [], _ => by simp
  | x :: l, h => by
    unfold memB at h
    cases e : Nat.beq d x with
    | true => rw [e] at h; cases h
    | false =>
      rw [e] at h
      intro hm
      rcases List.mem_cons.1 hm with rfl | hm
      · simp at e
      · exact memB_f h hm
/-- the frame without the slots ms, and each slot once -/
def cutK : List Nat → Fr → (Fr → Prop) → Prop
  | _, [], k => k []
  | ms, (d, a) :: F, k => cond (memB d ms) (cutK ms F k) (cutK (d :: ms) F fun G => k ((d, a) :: G))
theorem cutK_out : ∀ {F : Fr} {ms : List Nat} {k : Fr → Prop}, cutK ms F k → ∃ G, (∀ s y, look G s = some y → s ∉ ms ∧ look F s = some y) ∧ k G
  | [], _, _, h => ⟨[], fun s y h => by simp [look] at h, h⟩
  | (d, a) :: F, ms, k, h => by
    unfold cutK at h
    rcases cond_or h with ⟨e, h⟩ | ⟨e, h⟩
    · obtain ⟨G, h1, h2⟩ := cutK_out h
      refine ⟨G, fun s y hs => ?_, h2⟩
      obtain ⟨g1, g2⟩ := h1 s y hs
      refine ⟨g1, ?_⟩
      rw [look_cons_ne _ _ (fun e' => ?_)]
      · exact g2
      · subst e'
        have : ∀ l : List Nat, memB d l = true → d ∈ l := fun l => by
          induction l with
          | nil => intro h; cases h
          | cons x l ih =>
            intro h
            unfold memB at h
            cases e : Nat.beq d x with
            | true => simp [Nat.eq_of_beq_eq_true e]
            | false => rw [e] at h; exact List.mem_cons_of_mem _ (ih h)
        exact g1 (this ms e)
    · obtain ⟨G, h1, h2⟩ := cutK_out h
      refine ⟨(d, a) :: G, fun s y hs => ?_, h2⟩
      by_cases es : d = s
      · subst es
        rw [look_cons_self] at hs ⊢
        exact ⟨memB_f e, hs⟩
      · rw [look_cons_ne _ _ es] at hs ⊢
        obtain ⟨g1, g2⟩ := h1 s y hs
        exact ⟨fun hm => g1 (List.mem_cons_of_mem _ hm), g2⟩
def appK : Fr → Fr → (Fr → Prop) → Prop
  | [], G, k => k G
  | p :: F, G, k => appK F G fun H => k (p :: H)
theorem appK_out : ∀ {F G : Fr} {k : Fr → Prop}, appK F G k → k (F ++ G)
  | [], _, _, h => h
  | _ :: F, _, _, h => appK_out (F := F) h
theorem CK.loop [TabOK P T] {x : Code} {K : KT} {ds : List Deferred} {F : Fr} {L : List Ent} {σ : Type} (ms : List Nat) (p : σ → Prop) (I : σ → Fr) (J : σ → List Ent) (μ : σ → Nat) (s0 : σ) (hp : p s0) (h0 : Says F (I s0)) (hL0 : (J s0).Sublist L)
    (round : cutK ms F fun F0 => ∀ s, p s → appK (I s) F0 fun G => wpc P T c m ro x (fun ds' e F L => match e with
      | .normal => Nxt ds ds' F0 p I J μ s F L
      | e => K ds' e F L) ds G (J s)) : CK P T c m ro (.loop x) K ds F L := by
  obtain ⟨F0, hF0, round⟩ := cutK_out round
  refine ⟨fun Q hQ => Cx.loopS p I J μ s0 F0 (fun t y ht => (hF0 t y ht).2) hp h0 hL0 fun s hs K' hK => ?_⟩
  refine (wpc_out (appK_out (round s hs))).out K' fun ds' e F L hk => ?_
  cases e with
  | normal =>
    have hk' : Nxt ds ds' F0 p I J μ s F L := hk
    clear hk
    induction hk' with
    | mk h out =>
      obtain ⟨s', h1, h2, h3, h4⟩ := out
      subst h
      exact hK.norm _ _ s' h1 h2 h3 h4
    | see t h hs _ ih => exact Ex.see t h hs ih
    | frzR i hL _ ih => exact Ex.frzR i hL ih
    | frzB i hL _ ih => exact Ex.frzB i hL ih
    | perm hp _ ih => exact Ex.perm hp ih
  | exit i => exact hK.other ds' _ F L (by simp) (hQ _ _ _ _ hk)
  | goto i => exact hK.other ds' _ F L (by simp) (hQ _ _ _ _ hk)
  | ret => exact hK.other ds' _ F L (by simp) (hQ _ _ _ _ hk)
  | panic i => exact hK.other ds' _ F L (by simp) (hQ _ _ _ _ hk)
  | outgrown => exact hK.other ds' _ F L (by simp) (hQ _ _ _ _ hk)
/-- the same, with entries R that stay as they are -/
theorem CK.loopK [TabOK P T] {x : Code} {K : KT} {ds : List Deferred} {F : Fr} {L : List Ent} {σ : Type} (ms : List Nat) (p : σ → Prop) (I : σ → Fr) (J : σ → List Ent) (R : List Ent) (μ : σ → Nat) (s0 : σ) (hp : p s0) (h0 : Says F (I s0)) (hL0 : (J s0 ++ R).Sublist L)
    (round : cutK ms F fun F0 => ∀ s, p s → appK (I s) F0 fun G => wpc P T c m ro x (fun ds' e F L => match e with
      | .normal => Nxt ds ds' F0 p I (fun s => J s ++ R) μ s F L
      | e => K ds' e F L) ds G (J s ++ R)) : CK P T c m ro (.loop x) K ds F L := CK.loop ms p I (fun s => J s ++ R) μ s0 hp h0 hL0 round
end
end Go.E2
