/-
  The engine, second make, part H: calls over the caller's own local heap, yield, ranges over functions.
  Conditions: none beyond the premises of each rule.
-/
import Derived.Test.YtlnokdkhglmogaaGreatE3G
namespace Go.E2
open Go.RowKit
section
variable {P : Program} {c : Ctx} {n : Cfg} {Q : Exit → Act → World → Prop} {F : Fr} {L : List Ent} {ops : Array Oper} {ty : TypeId}
variable {d : Option Tmp} {pos : String} {aft : Array Edge} {gd : Option (Nat × Bool)} {rest : List Oper} {m : Nat} {ds : List Deferred} {H : Cells} {w : World}

/-! contracts over the caller's own local heap -/
structure FnL (P : Program) (c : Ctx) (f : FuncId) (args : List AV) (L : List Ent) (Φ : AV → List Ent → Prop) : Prop where
  out : ∀ H w vs, St c H w L → RelL H args vs → Calls P f vs.toArray w fun e w' => ∃ v a H' L', e = .returned v ∧ Φ a L' ∧ Rel H' a v ∧ H.le H' ∧ St c H' w' L'
def PostL (c : Ctx) (H : Cells) (Φ : AV → List Ent → Prop) : Ending → World → Prop := fun e w' => ∃ v a H' L', e = .returned v ∧ Φ a L' ∧ Rel H' a v ∧ H.le H' ∧ St c H' w' L'
/-- the context with the cells that are frozen now -/
theorem St.rebase (h : St c H w L) : St ⟨c.w0, H⟩ H w L := ⟨h.below, Cells.le_refl _, h.hin, fun _ _ _ hu _ => hu, h.holds, h.apart, h.dr⟩
theorem St.unbase {H' : Cells} {w' : World} {L' : List Ent} (h0 : St c H w L) (h : St ⟨c.w0, H⟩ H' w' L') : St c H' w' L' := ⟨h.below, h0.le.trans h.le, h.hin, fun b o u hu hb => h0.old b o u (h.old b o u hu hb) hb, h.holds, h.apart, h.dr⟩
structure KtopL (P : Program) (c : Ctx) (m : Nat) (fn : Func) (Φ : AV → List Ent → Prop) (K : Exit → Act → World → Prop) : Prop where
  ex : ∃ c0, (∀ H' w' L', St c H' w' L' → St c0 H' w' L') ∧ ∀ e F L, Ex c ⟨m, [], none⟩ (bodyPost P fn (fun e w' => ∃ v a H' L', e = .returned v ∧ Φ a L' ∧ Rel H' a v ∧ c.H0.le H' ∧ St c0 H' w' L')) e F L → Ex c ⟨m, [], none⟩ K e F L
theorem fnL_of {f : FuncId} {fn : Func} {x : Code} {args : List AV} {Φ : AV → List Ent → Prop} (hf : P.funcs[f]? = some fn) (hb : fn.body = some x) (hn : fn.ntmps = m) (ha : Nat.ble args.length m = true)
    (h : ∀ c' K, c'.w0 = c.w0 → c.H0.le c'.H0 → KtopL P c' m fn Φ K → Cx P c' ⟨m, [], none⟩ x K (argF 0 args) L) : FnL P c f args L Φ := by
  have ha : args.length ≤ m := Nat.le_of_ble_eq_true ha
  refine ⟨fun H w vs hs hr => calls_of_wp hf hb ?_⟩
  rw [hn]
  exact wpIn_wide.1 ((h ⟨c.w0, H⟩ _ rfl hs.le ⟨c, fun _ _ _ h5 => hs.unbase h5, fun _ _ _ k => k⟩).out H w _ hs.rebase (fit_args hr (by rw [← hr.len]; exact ha) none) 0)
theorem Ex.end0L {fn : Func} {Φ : AV → List Ent → Prop} {K : Exit → Act → World → Prop} (hk : KtopL P c m fn Φ K) (hr : fn.results = #[]) (E : List Ent) (hE : E.Sublist L) (h : Φ (.tup []) E) : Ex c ⟨m, [], none⟩ K .normal F L :=
  let ⟨_, hu, ho⟩ := hk.ex
  ho .normal F L ⟨fun H _ _ hs hF => bodyPost_end (v := .tuple #[]) (results_none hr _ _ _) hF.ds ⟨_, _, H, E, rfl, h, .tup .nil, hs.le, hu _ _ _ (hs.sub hE)⟩⟩
theorem Ex.res0L {fn : Func} {Φ : AV → List Ent → Prop} {K : Exit → Act → World → Prop} (hk : KtopL P c m fn Φ K) (hr : fn.results = #[]) (E : List Ent) (hE : E.Sublist L) (h : Φ (.tup []) E) : Ex c ⟨m, [], none⟩ K .ret F L :=
  let ⟨_, hu, ho⟩ := hk.ex
  ho .ret F L ⟨fun H _ _ hs hF => bodyPost_ret (v := .tuple #[]) (results_none hr _ _ _) hF.ds ⟨_, _, H, E, rfl, h, .tup .nil, hs.le, hu _ _ _ (hs.sub hE)⟩⟩
theorem Ex.res1L {fn : Func} {Φ : AV → List Ent → Prop} {K : Exit → Act → World → Prop} {r : ResultVar} {x : AV} (hk : KtopL P c m fn Φ K) (hr : fn.results = #[r]) (h1 : Rv P c ⟨m, [], none⟩ r F L x) (E : List Ent) (hE : E.Sublist L) (h : Φ x E) : Ex c ⟨m, [], none⟩ K .ret F L :=
  let ⟨_, hu, ho⟩ := hk.ex
  ho .ret F L ⟨fun H w a hs hF => by
    obtain ⟨v, e1, r1⟩ := h1.out H w a hs hF
    exact bodyPost_ret (v := v) (by rw [results_rv, hr]; simp [e1]) hF.ds ⟨v, x, H, E, rfl, h, r1, hs.le, hu _ _ _ (hs.sub hE)⟩⟩

/-! yield -/
def Yld (P : Program) (c : Ctx) (lp : Nat) (x : AV) (L : List Ent) (Ψ : Bool → List Ent → Prop) : Prop :=
  ∀ H w v, St c H w L → Rel H x v → ∀ d, YieldAt Fence.wide d P lp #[v] w fun e w' => ∃ b H' L', e = .returned (.bool b) ∧ H.le H' ∧ Ψ b L' ∧ St c H' w' L'
structure Yx (P : Program) (c : Ctx) (n : Cfg) (ops : Array Oper) (Q : Exit → Act → World → Prop) (l : List Oper) (F : Fr) (L : List Ent) : Prop where
  out : ∀ H w a, St c H w L → Fit H n F a → ∀ d, wpListIn (wd n.ro) d P ops Q l a w
theorem wpList_in {ro : Option Nat} {d : Nat} {suf : List Oper} {K : Exit → Act → World → Prop} (hK : ∀ a w, K .normal a w → wpListIn (wd ro) d P ops Q suf a w) : ∀ (l : List Oper) (_ : l.all (fun o => noDef o.op) = true) (a : Act) (w : World), wpList P ops (OnlyN K) l a w → wpListIn (wd ro) d P ops Q (l ++ suf) a w
  | [], _, a, w, h => hK a w h
  | o :: l, hd, a, w, h => by
    simp only [List.all_cons, Bool.and_eq_true] at hd
    unfold wpList at h
    show wpListIn _ _ _ _ _ (o :: (l ++ suf)) _ _
    unfold wpListIn
    split at h
    · rename_i hw
      rw [if_pos hw]
      rcases h with h | ⟨_, _, _, hf⟩
      · have := oper_in (ro := ro) (d := d) (Q := Q) (K' := wpListIn (wd ro) d P ops Q (l ++ suf)) hd.1 (fun a w h => wpList_in hK l hd.2 a w h) (o := o) (a := a) (w := w) (P := P) (by
          unfold Oper.wp at h ⊢
          generalize (execOp a.eval o).run P w = r at *
          cases r with
          | ok nx w' =>
            cases nx <;> simp only [Oper.upon] at h ⊢ <;>
              first
                | exact h
                | (refine Calls.mono h ?_
                   intro e w'' he
                   cases e with
                   | returned v => exact he
                   | panicked c => exact he.elim
                   | outgrown => obtain ⟨_, _, hf⟩ := he; exact hf.elim)
                | exact Rows.mono h (fun _ _ he => he)
          | halt x w' => cases x <;> simp only [Oper.upon] at h ⊢ <;> exact h.elim)
        exact this
      · exact hf.elim
    · rename_i hw
      rw [if_neg hw]
      exact ⟨fun _ _ => trivial, wpList_in hK l hd.2 _ w h⟩
structure Kyx (P : Program) (c : Ctx) (n : Cfg) (ops : Array Oper) (suf : List Oper) (Q K : Exit → Act → World → Prop) : Prop where
  norm : ∀ F L, Yx P c n ops Q suf F L → Ex c n K .normal F L
theorem Cx.regionY {id : Nat} {l : List Oper} (k : Nat) (hd : l.all (fun o => noDef o.op) = true) (h : ∀ K, Kyx P c n l.toArray (l.drop k) Q K → Lx P c n l.toArray K (l.take k) F L) : Cx P c n (.region id l.toArray false) Q F L :=
  ⟨fun H w a hs hF dd => wpIn_region_lit (by
    have := wpList_in (P := P) (ops := l.toArray) (ro := n.ro) (d := dd) (Q := Q) (suf := l.drop k) (K := fun _ a w => wpListIn (wd n.ro) dd P l.toArray Q (l.drop k) a w) (fun a w h => h) (l.take k)
      (List.all_eq_true.2 fun o ho => List.all_eq_true.1 hd o (List.mem_of_mem_take ho)) _ _ ((h _ ⟨fun F L k => ⟨fun H w a hs hF => k.out H w a hs hF dd⟩⟩).out H w a hs hF)
    rwa [List.take_append_drop] at this)⟩
theorem Ex.yx {suf : List Oper} {K : Exit → Act → World → Prop} (hk : Kyx P c n ops suf Q K) (h : Yx P c n ops Q suf F L) : Ex c n K .normal F L := hk.norm F L h
theorem roundIn_wd {ro : Option Nat} {dd l : Nat} {f : FuncId} {tmps : Array Value} {assign body : Code} {w : World} {R : Ending → World → Prop} (h : RoundIn Fence.wide dd P l f tmps assign body w R) : RoundIn (wd ro) dd P l f tmps assign body w R := h
theorem Yx.yield {lp : Nat} {x y : Operand} {a b : AV} {ts : Array TypeId} {Ψ : Bool → List Ent → Prop} (hd : rest.all (fun o => noDef o.op) = true) (hg : wantB ops n F gd = some true)
    (hx : oget n F x = some (.v (.func (.yield lp) #[] #[]))) (hv : oget n F y = some a) (hs : Sb L a b) (hy : Yld P c lp b L Ψ) (k : ∀ q L', Ψ q L' → Lx P c n ops Q rest (putF d (.v (.bool q)) F) L') :
    Yx P c n ops Q (⟨d, .call ⟨.value x, #[y], ts⟩, ty, pos, aft, gd⟩ :: rest) F L :=
  ⟨fun H w ac hst hF dd => by
    refine wpListIn_step fun K hK => ?_
    rw [if_pos (wanted_fit (o := ⟨d, _, ty, pos, aft, gd⟩) hF.size hF.rel hg)]
    refine ⟨fun _ _ => trivial, ?_⟩
    rw [Oper.semAt_eq _ _ _ (fun c hc => by simp at hc)]
    obtain ⟨fn, tmps, asg, body, hrun, hround⟩ := hy H w (ac.eval y) hst (hs.rel hst (hF.eval hv)) (dd - 1)
    have hr : (execOp ac.eval ⟨d, .call ⟨.value x, #[y], ts⟩, ty, pos, aft, gd⟩).run P w = .ok (.round lp fn tmps asg body) w := by
      simp only [execOp, resolve, (hF.eval hx).inv]
      simp [Deferred.ofValue, invoke, hrun]
    rw [hr, Oper.uponIn_round]
    refine ⟨fun h => by simp [wd, Fence.wide] at h, RoundIn.mono (roundIn_wd hround) ?_⟩
    rintro e w' ⟨q, H', L', rfl, hl, hp, hst'⟩
    refine hK _ _ ?_
    have := wpList_in (P := P) (ops := ops) (ro := n.ro) (d := dd) (Q := Q) (suf := []) (K := Q) (fun a w h => h) rest hd _ _ ((k q L' hp).out H' w' _ hst' ((hF.mono hl).put (.v _) d))
    rwa [List.append_nil] at this⟩
theorem Yx.skip {o : Oper} (hd : rest.all (fun o => noDef o.op) = true) (hg : wantB ops n F o.guard = some false) (k : Lx P c n ops Q rest (putF o.dst (.v undef) F) L) : Yx P c n ops Q (o :: rest) F L :=
  ⟨fun H w a hs hF dd => by
    refine wpListIn_step fun K hK => ?_
    rw [if_neg (by rw [wanted_fit hF.size hF.rel hg]; simp)]
    refine ⟨fun _ _ => trivial, hK _ _ ?_⟩
    have := wpList_in (P := P) (ops := ops) (ro := n.ro) (d := dd) (Q := Q) (suf := []) (K := Q) (fun a w h => h) rest hd _ _ (k.out H w _ hs (hF.put (.v _) o.dst))
    rwa [List.append_nil] at this⟩
theorem Yx.split {l : List Oper} (s : Nat) {b : Bool} (hv : look F s = some (.v (.bool b))) (ht : b = true → Yx P c n ops Q l ((s, .v (.bool true)) :: F) L) (hf : b = false → Yx P c n ops Q l ((s, .v (.bool false)) :: F) L) : Yx P c n ops Q l F L :=
  ⟨fun H w a hs hF => by
    cases b with
    | true => exact (ht rfl).out H w a hs (hF.shadow hv)
    | false => exact (hf rfl).out H w a hs (hF.shadow hv)⟩

/-! iterators: they yield the members of xs one after the other -/
structure Iter (P : Program) (gf : FuncId) (caps xs : List AV) : Prop where
  out : ∀ (c : Ctx) (lp : Nat) (I : Nat → List Ent → Prop) (S : List Ent → Prop),
    (∀ k x E L c', c'.w0 = c.w0 → c.H0.le c'.H0 → xs[k]? = some x → I k L → Yld P c' lp x (E ++ L) fun b L' => ∃ L1, L' = E ++ L1 ∧ match b with | true => I (k + 1) L1 | false => S L1) →
    ∀ L, I 0 L → FnL P c gf (.v (.func (.yield lp) #[] #[]) :: caps) L fun a L' => a = .tup [] ∧ (I xs.length L' ∨ S L')

/-! a round -/
structure Kasg (P : Program) (m lp : Nat) (c : Ctx) (body : Code) (T T' : List Ent) (K2 K : Exit → Act → World → Prop) : Prop where
  begin : ∀ F L, Cx P c ⟨m, [], some lp⟩ body K2 F (L ++ T') → Ex c ⟨m, [], some lp⟩ K .normal F (L ++ T)
structure Krnd (m lp : Nat) (c : Ctx) (T' : List Ent) (J : List Ent → Prop) (S : Code → List Ent → Prop) (K2 : Exit → Act → World → Prop) : Prop where
  norm : ∀ F L, J L → Ex c ⟨m, [], some lp⟩ K2 .normal F (L ++ T')
  ret : ∀ F L, S .ret L → Ex c ⟨m, [], some lp⟩ K2 .ret F (L ++ T')
  exit : ∀ id F L, S (.exit id) L → Ex c ⟨m, [], some lp⟩ K2 (.exit id) F (L ++ T')
theorem Ex.sub {e : Exit} {L' : List Ent} (hs : L'.Sublist L) (h : Ex c n Q e F L') : Ex c n Q e F L := ⟨fun H w a hw hF => h.out H w a (hw.sub hs) hF⟩
theorem Ex.begin {lp : Nat} {body : Code} {T T' : List Ent} {K2 K : Exit → Act → World → Prop} (hk : Kasg P m lp c body T T' K2 K) (L1 : List Ent) (hL : (L1 ++ T).Sublist L) (h : Cx P c ⟨m, [], some lp⟩ body K2 F (L1 ++ T')) : Ex c ⟨m, [], some lp⟩ K .normal F L := Ex.sub hL (hk.begin F L1 h)
theorem Ex.round {lp : Nat} {T' : List Ent} {J : List Ent → Prop} {S : Code → List Ent → Prop} {K2 : Exit → Act → World → Prop} (hk : Krnd m lp c T' J S K2) (L1 : List Ent) (hL : (L1 ++ T').Sublist L) (h : J L1) : Ex c ⟨m, [], some lp⟩ K2 .normal F L := Ex.sub hL (hk.norm F L1 h)
theorem Ex.roundRet {lp : Nat} {T' : List Ent} {J : List Ent → Prop} {S : Code → List Ent → Prop} {K2 : Exit → Act → World → Prop} (hk : Krnd m lp c T' J S K2) (L1 : List Ent) (hL : (L1 ++ T').Sublist L) (h : S .ret L1) : Ex c ⟨m, [], some lp⟩ K2 .ret F L := Ex.sub hL (hk.ret F L1 h)
theorem Ex.roundExit {lp id : Nat} {T' : List Ent} {J : List Ent → Prop} {S : Code → List Ent → Prop} {K2 : Exit → Act → World → Prop} (hk : Krnd m lp c T' J S K2) (L1 : List Ent) (hL : (L1 ++ T').Sublist L) (h : S (.exit id) L1) : Ex c ⟨m, [], some lp⟩ K2 (.exit id) F L := Ex.sub hL (hk.exit id F L1 h)
theorem perm1 (a b : Ent) (E L : List Ent) : (L ++ a :: b :: E).Perm (a :: (L ++ b :: E)) := List.perm_middle
theorem perm2 (a b : Ent) (E L : List Ent) : (E ++ a :: b :: L).Perm (L ++ a :: b :: E) :=
  (List.perm_middle.trans ((List.perm_middle.trans ((List.perm_append_comm).cons b)).cons a)).trans
    ((List.perm_middle (a := a)).trans ((List.perm_middle (a := b)).cons a)).symm
theorem St.putObj {l : Nat} {o : Obj} (o' : Obj) (h : St c H w (.obj l o :: L)) : St c H (w.putObj l o') (.obj l o' :: L) := by
  obtain ⟨h1, h2, h3⟩ := h.holds (.obj l o) (by simp)
  have hlt : l < w.heap.size := blk_lt h2
  have := h.turn (i := 0) (e := .obj l o) (e' := .obj l o') (w' := w.putObj l o') rfl (hin_heap h.hin fun b o u hu => World.putObj_heap_other (fun e => by subst e; rw [h3 o] at hu; cases hu)) ⟨h1, World.putObj_heap_same hlt, h3⟩ ⟨rfl, rfl, rfl, by simp, fun k _ hk => World.putObj_heap_other (fun e => hk (by rw [e]; rfl))⟩ (.inl rfl) (Nat.le_refl _)
  simpa using this
theorem St.obj {l : Nat} {o : Obj} (h : St c H w (.obj l o :: L)) : w.heap[l]? = some o := (h.holds (.obj l o) (by simp)).2.1
theorem St.tail {e : Ent} (h : St c H w (e :: L)) : St c H w L := h.sub (List.sublist_cons_self _ _)
/-- the record of a loop with one variable -/
def lrec (tmps : Array Value) (p D : Nat) (fn : FuncId) (assign body : Code) (st : LoopState) (pd : Option Code) : Loop := { state := st, pending := pd, fn := fn, tmps := tmps, params := #[p], assign := assign, body := body, defers := D }
def hid (lp D : Nat) (r : Loop) : List Ent := [.obj lp (.loop r), .obj D (.deferred (some []))]
def rndPost (E : List Ent) (lp D : Nat) (r : LoopState → Option Code → Loop) (J : List Ent → Prop) (S : Code → List Ent → Prop) (b : Bool) (L' : List Ent) : Prop :=
  ∃ L1, L' = E ++ L1 ∧ match b with
    | true => ∃ L2, L1 = hid lp D (r .ready none) ++ L2 ∧ J L2
    | false => ∃ c L2, L1 = hid lp D (r .done (some c)) ++ L2 ∧ S c L2
theorem yld_of {lp D p : Nat} {fn : FuncId} {assign body : Code} {x : AV} {E : List Ent} {J : List Ent → Prop} {S : Code → List Ent → Prop} {tmps : Array Value} (hF : Fit c.H0 ⟨m, [], some lp⟩ F ⟨tmps, []⟩)
    (h : ∀ c' T T' K K2, c'.w0 = c.w0 → Kasg P m lp c' body T T' K2 K → Krnd m lp c' T' J S K2 → Cx P c' ⟨m, [], some lp⟩ assign K ((p, x) :: F) (L ++ T)) :
    Yld P c lp x (E ++ (hid lp D (lrec tmps p D fn assign body .ready none) ++ L)) (rndPost E lp D (lrec tmps p D fn assign body) J S) := by
  intro H w v hs hx dd
  have hl : w.heap[lp]? = some (.loop (lrec tmps p D fn assign body .ready none)) := (hs.perm List.perm_middle).obj
  have hy : (Instr.yield lp #[v]).run P w = .ok (.round lp fn (Act.put ⟨tmps, []⟩ (some p) v).tmps assign body) w := by
    rw [run_yield hl (by simp [lrec])]
    simp [lrec, Act.put]
  refine ⟨fn, _, assign, body, hy, roundIn_of_wpIn trivial ?_⟩
  have hs' := hs.rebase
  have hfit : Fit H ⟨m, [], some lp⟩ ((p, x) :: F) ⟨(Act.put ⟨tmps, []⟩ (some p) v).tmps, []⟩ := (hF.mono hs.le).put hx (some p)
  refine (h ⟨c.w0, H⟩ (.obj lp (.loop (lrec tmps p D fn assign body .ready none)) :: .obj D (.deferred (some [])) :: E) (.obj lp (.loop (lrec tmps p D fn assign body .busy none)) :: .obj D (.deferred (some [])) :: E) _ (roundPost P lp fun e w' => ∃ b H' L', e = .returned (.bool b) ∧ H.le H' ∧ rndPost E lp D (lrec tmps p D fn assign body) J S b L' ∧ St c H' w' L') rfl ⟨?_⟩ ⟨?_, ?_, ?_⟩).out H w _ (hs'.perm (perm2 _ _ _ _)) hfit dd
  · intro F L hb
    refine ⟨fun H1 w1 a1 hs1 hF1 => ⟨_, run_beginRound (hs1.perm (perm1 _ _ _ _)).obj rfl, hb.out H1 _ a1 ?_ hF1 dd⟩⟩
    exact ((hs1.perm (perm1 _ _ _ _)).putObj _).perm (perm1 _ _ _ _).symm
  · intro F L hj
    refine ⟨fun H1 w1 a1 hs1 hF1 => ⟨_, _, run_endRound none (hs1.perm (perm1 _ _ _ _)).obj, true, H1, _, rfl, hs1.le, ⟨_, rfl, L, rfl, hj⟩, ?_⟩⟩
    exact hs.unbase ((((hs1.perm (perm1 _ _ _ _)).putObj _).perm (perm1 _ _ _ _).symm).perm (perm2 _ _ _ _).symm)
  · intro F L hj
    refine ⟨fun H1 w1 a1 hs1 hF1 => ⟨_, _, run_endRound (some .ret) (hs1.perm (perm1 _ _ _ _)).obj, false, H1, _, rfl, hs1.le, ⟨_, rfl, .ret, L, rfl, hj⟩, ?_⟩⟩
    exact hs.unbase ((((hs1.perm (perm1 _ _ _ _)).putObj _).perm (perm1 _ _ _ _).symm).perm (perm2 _ _ _ _).symm)
  · intro id F L hj
    refine ⟨fun H1 w1 a1 hs1 hF1 => ⟨_, _, run_endRound (some (.exit id)) (hs1.perm (perm1 _ _ _ _)).obj, false, H1, _, rfl, hs1.le, ⟨_, rfl, .exit id, L, rfl, hj⟩, ?_⟩⟩
    exact hs.unbase ((((hs1.perm (perm1 _ _ _ _)).putObj _).perm (perm1 _ _ _ _).symm).perm (perm2 _ _ _ _).symm)

/-! the range over a function -/
def mark (D : Nat) : Deferred := ⟨.collected D, #[]⟩
theorem Cx.range {g : Operand} {p : Tmp} {assign body : Code} {gf : FuncId} {a : AV} {caps xs : List AV} (hent : EntersT P gf)
    (hg : oget ⟨m, ds, none⟩ F g = some a) (hsb : Sb L a (.fn (.func gf) caps)) (hit : Iter P gf caps xs) (J : Nat → List Ent → Prop) (S : Code → List Ent → Prop) (L0 : List Ent) (hL0 : L0.Sublist L) (h0 : J 0 L0)
    (round : ∀ k x L c' lp T T' K K2, c'.w0 = c.w0 → xs[k]? = some x → J k L → Kasg P m lp c' body T T' K2 K → Krnd m lp c' T' (J (k + 1)) S K2 → Cx P c' ⟨m, [], some lp⟩ assign K ((p, x) :: F) (L ++ T))
    (done : ∀ L D, J xs.length L → Ex c ⟨m, mark D :: ds, none⟩ Q .normal F (.obj D (.deferred (some [])) :: L))
    (stop : ∀ cd L D, S cd L → Cx P c ⟨m, mark D :: ds, none⟩ cd Q F (.obj D (.deferred (some [])) :: L)) :
    Cx P c ⟨m, ds, none⟩ (.rangeFunc g #[p] assign body) Q F L :=
  ⟨fun H w ac hs hF dd => by
    obtain ⟨vs, eg, hcap⟩ := (hsb.rel hs (hF.eval hg)).inv_fn
    have hs := hs.sub hL0
    refine wpIn_rangeFunc fun fn _ => ?_
    have hst : St c H ((w.alloc (.deferred (some []))).alloc (.loop (lrec ac.tmps p w.heap.size fn assign body .ready none))) (hid (w.heap.size + 1) w.heap.size (lrec ac.tmps p w.heap.size fn assign body .ready none) ++ L0) := by
      have h1 := hs.trans (St.newObj hs.hin (.deferred (some [])))
      have h2 := h1.trans (St.newObj h1.hin (.loop (lrec ac.tmps p w.heap.size fn assign body .ready none)))
      simpa [hid] using h2
    generalize hW : (w.alloc (.deferred (some []))).alloc (.loop (lrec ac.tmps p w.heap.size fn assign body .ready none)) = W at hst
    have hfit0 : Fit H ⟨m, [], some (w.heap.size + 1)⟩ F ⟨ac.tmps, []⟩ := ⟨rfl, hF.size, hF.rel⟩
    have hc := (hit.out ⟨c.w0, H⟩ (w.heap.size + 1)
      (fun k L => ∃ L1, L = hid (w.heap.size + 1) w.heap.size (lrec ac.tmps p w.heap.size fn assign body .ready none) ++ L1 ∧ J k L1)
      (fun L => ∃ c L1, L = hid (w.heap.size + 1) w.heap.size (lrec ac.tmps p w.heap.size fn assign body .done (some c)) ++ L1 ∧ S c L1)
      (fun k x E L c' hc' hle hx ⟨L1, hL, hj⟩ => by
        subst hL
        exact yld_of (hfit0.mono hle) fun c'' T T' K K2 hc'' hKa hKr => round k x L1 c'' _ T T' K K2 (hc''.trans hc') hx hj hKa hKr)
      (hid (w.heap.size + 1) w.heap.size (lrec ac.tmps p w.heap.size fn assign body .ready none) ++ L0) ⟨L0, rfl, h0⟩).out H W (.func (.yield (w.heap.size + 1)) #[] #[] :: vs) hst.rebase (.cons (.v _) hcap)
    refine ⟨w.heap.size + 1, [mark w.heap.size], W, ⟨.fn (.func gf) vs.toArray, #[.func (.yield (w.heap.size + 1)) #[] #[]]⟩, W, gf, (.func (.yield (w.heap.size + 1)) #[] #[] :: vs).toArray, W, ?_, ?_, fun _ _ => trivial, ?_, fun h => by simp [wd, Fence.wide] at h, ?_⟩
    · rw [← hW]; exact run_enterLoop_outer _ _ _ _ _
    · have hy : ac.eval (.const (.func (.yield (w.heap.size + 1)) #[] #[])) = .func (.yield (w.heap.size + 1)) #[] #[] := rfl
      simp [resolve, eg, Deferred.ofValue, hy]
    · simp [invoke, hent _ W]
    · refine callsIn_wd none _ (Calls.mono hc ?_)
      rintro e w' ⟨v, b, H', L', rfl, ⟨rfl, hp⟩, hrel, hle, hst'⟩
      have hst' := hst.unbase hst'
      have hfit : Fit H' ⟨m, mark w.heap.size :: ds, none⟩ F { ac with defers := [mark w.heap.size] ++ ac.defers } := ⟨by simp [hF.ds], hF.size, (hF.mono hle).rel⟩
      rcases hp with ⟨L1, rfl, hj⟩ | ⟨cd, L1, rfl, hsp⟩
      · exact ⟨none, _, run_endLoop hst'.obj (by simp [lrec]), (done L1 _ hj).out H' _ _ (hst'.putObj _).tail hfit⟩
      · exact ⟨some cd, _, run_endLoop hst'.obj (by simp [lrec]), (stop cd L1 _ hsp).out H' _ _ (hst'.putObj _).tail hfit dd⟩⟩

/-! functions that hold a range over a function -/
structure Kmark (m : Nat) (c : Ctx) (K0 K : Exit → Act → World → Prop) : Prop where
  ret : ∀ F L, Ex c ⟨m, [], none⟩ K0 .ret F L → Ex c ⟨m, [], none⟩ K .ret F L
  norm : ∀ F L, Ex c ⟨m, [], none⟩ K0 .normal F L → Ex c ⟨m, [], none⟩ K .normal F L
  moreR : ∀ D ds F L, Ex c ⟨m, ds, none⟩ K .ret F L → Ex c ⟨m, mark D :: ds, none⟩ K .ret F (.obj D (.deferred (some [])) :: L)
  moreN : ∀ D ds F L, Ex c ⟨m, ds, none⟩ K .normal F L → Ex c ⟨m, mark D :: ds, none⟩ K .normal F (.obj D (.deferred (some [])) :: L)
theorem fit_tail {D : Deferred} {a : Act} (hF : Fit H ⟨m, D :: ds, none⟩ F a) : Fit H ⟨m, ds, none⟩ F { a with defers := ds } := ⟨rfl, hF.size, hF.rel⟩
theorem fn_ofM {f : FuncId} {fn : Func} {x : Code} {args : List AV} {Φ : AV → List Ent → Prop} (hf : P.funcs[f]? = some fn) (hb : fn.body = some x) (hn : fn.ntmps = m) (ha : Nat.ble args.length m = true)
    (h : ∀ c K0 K, Ktop P c m fn Φ K0 → Kmark m c K0 K → Cx P c ⟨m, [], none⟩ x K (argF 0 args) []) : FnE P f args Φ := by
  have ha : args.length ≤ m := Nat.le_of_ble_eq_true ha
  refine ⟨fun H w vs hi hr => callsIn_wide.1 (callsIn_of_wp_marks (F := Fence.wide) (n := 0) hf hb trivial ?_)⟩
  rw [hn]
  refine (h ⟨w, H⟩ _ (bodyPostM Fence.wide 0 P fn (Post ⟨w, H⟩ Φ)) ⟨fun _ _ _ k => k⟩ ⟨?_, ?_, ?_, ?_⟩).out H w _ (St.refl hi) (fit_args hr (by rw [← hr.len]; exact ha) none) 0
  · exact fun F L k => ⟨fun H1 w1 a hs hF => by
      show LeavesInM Fence.wide 0 P fn a.tmps (Post ⟨w, H⟩ Φ) a.defers .returning w1
      rw [hF.ds]; exact (k.out H1 w1 a hs hF).2⟩
  · exact fun F L k => ⟨fun H1 w1 a hs hF => by
      show LeavesInM Fence.wide 0 P fn a.tmps (Post ⟨w, H⟩ Φ) a.defers .returning w1
      rw [hF.ds]; exact (k.out H1 w1 a hs hF).2⟩
  · exact fun D ds F L k => ⟨fun H1 w1 a hs hF => by
      show LeavesInM Fence.wide 0 P fn a.tmps (Post ⟨w, H⟩ Φ) a.defers .returning w1
      rw [hF.ds]
      exact ⟨by simp, .inl ⟨D, _, rfl, run_takeDeferred hs.obj, k.out H1 _ _ (hs.putObj _).tail (fit_tail hF)⟩⟩⟩
  · exact fun D ds F L k => ⟨fun H1 w1 a hs hF => by
      show LeavesInM Fence.wide 0 P fn a.tmps (Post ⟨w, H⟩ Φ) a.defers .returning w1
      rw [hF.ds]
      exact ⟨by simp, .inl ⟨D, _, rfl, run_takeDeferred hs.obj, k.out H1 _ _ (hs.putObj _).tail (fit_tail hF)⟩⟩⟩
theorem Ex.mark0 {K0 K : Exit → Act → World → Prop} (hk : Kmark m c K0 K) (h : Ex c ⟨m, [], none⟩ K0 .ret F L) : Ex c ⟨m, [], none⟩ K .ret F L := hk.ret F L h
theorem Ex.perm {e : Exit} {L' : List Ent} (hp : L.Perm L') (h : Ex c n Q e F L') : Ex c n Q e F L := ⟨fun H w a hs hF => h.out H w a (hs.perm hp) hF⟩
theorem Cx.perm {x : Code} {L' : List Ent} (hp : L.Perm L') (h : Cx P c n x Q F L') : Cx P c n x Q F L := ⟨fun H w a hs hF d => h.out H w a (hs.perm hp) hF d⟩
/-- one mark is left -/
theorem Ex.mark1 {K0 K : Exit → Act → World → Prop} {D : Nat} {L0 : List Ent} (hk : Kmark m c K0 K) (hL : (Ent.obj D (.deferred (some [])) :: L0).Perm L) (h : Ex c ⟨m, [], none⟩ K0 .ret F L0) : Ex c ⟨m, [mark D], none⟩ K .ret F L := Ex.perm hL.symm (hk.moreR D [] F L0 (hk.ret F L0 h))
/-- a cell of a block seen otherwise -/
theorem St.seeB {i off g : Nat} {t : TypeId} {z : Bool} {cs : List AV} {a b : AV} (h : St c H w L) (hL : L[i]? = some (.blk g t z cs)) (ha : cs[off]? = some a) (hs : Sb L a b) : St c H w (L.set i (.blk g t z (cs.set off b))) := by
  obtain ⟨h1, us, h2, h3, h4, h5⟩ := h.holds _ (List.mem_of_getElem? hL)
  refine h.more hL (Cells.le_refl _) h.hin (fun _ _ _ => rfl) ⟨h1, us, h2, ?_, h4, h5⟩ rfl
  obtain ⟨u, e1, e2⟩ := h3.get ha
  have := h3.set (hs.rel h e2) off
  have e3 : us.set off u = us := by
    obtain ⟨hlt, he⟩ := List.getElem?_eq_some_iff.1 e1
    rw [← he]; simp
  rwa [e3] at this
theorem Cx.seeB {x : Code} (i off : Nat) {g : Nat} {t : TypeId} {z : Bool} {cs : List AV} {a b : AV} (hL : L[i]? = some (.blk g t z cs)) (ha : cs[off]? = some a) (hs : Sb L a b) (k : Cx P c n x Q F (L.set i (.blk g t z (cs.set off b)))) : Cx P c n x Q F L := ⟨fun H w ac hst hF d => k.out H w ac (hst.seeB hL ha hs) hF d⟩
end
end Go.E2
