/-
  The engine, part T: the obligations of an operation are enough for its rule.
  Conditions: none beyond the premises of each rule.
-/
import Derived.Test.YtlnokdkhglmogaaGreatE3S
import Derived.Laws.Strings
namespace Go.E2
open Go.RowKit
section
variable {P : Program} {T : Tr} {c : Ctx} {n : Cfg} {w : Bool} {F : Fr} {L : List Ent} {ty : TypeId} {k : AV → Prop}
abbrev Out (P : Program) (c : Ctx) (n : Cfg) (w : Bool) (o : Op) (ty : TypeId) (F : Fr) (L : List Ent) (k : AV → Prop) : Prop := ∃ r, (w = true → Gr P c n o ty F L r) ∧ k r
theorem binI_out {b : BinOp} {q : IntKind} {i j : Int} {x y : Operand} {t t' : TypeId} (hx : oget n F x = some (.v (.int q i))) (hy : oget n F y = some (.v (.int q j)))
    (h : binI w b q i j (Ask P c n w (.binOp b t x y t') ty F L k) k) : Out P c n w (.binOp b t x y t') ty F L k := by
  unfold binI at h
  split at h
  · split at h
    · cases h with
      | ok h hk => exact ⟨_, fun e => Gr.add hx hy (h e), hk⟩
      | wr hk => exact ⟨_, fun _ => Gr.addW hx hy, hk⟩
    · exact ⟨_, fun _ => Gr.addW hx hy, h⟩
  · split at h
    · cases h with
      | ok h hk => exact ⟨_, fun e => Gr.sub hx hy (h e), hk⟩
      | wr hk => exact ⟨_, fun _ => Gr.subW hx hy, hk⟩
    · exact ⟨_, fun _ => Gr.subW hx hy, h⟩
  · split at h
    · cases h with
      | ok h hk => exact ⟨_, fun e => Gr.mul hx hy (h e), hk⟩
      | wr hk => exact ⟨_, fun _ => Gr.mulW hx hy, hk⟩
    · exact ⟨_, fun _ => Gr.mulW hx hy, h⟩
  · split at h
    · cases h with
      | nn h hk => exact ⟨_, fun e => Gr.quoN hx hy (h e).1 (h e).2.1 (h e).2.2, hk⟩
      | t h hk => exact ⟨_, fun e => Gr.quo hx hy (h e).1 (h e).2, hk⟩
    · exact h.out
  · cases h with
    | nn h hk => exact ⟨_, fun e => Gr.remN hx hy (h e).1 (h e).2, hk⟩
    | t h hk => exact ⟨_, fun e => Gr.rem hx hy (h e), hk⟩
  · exact ⟨_, fun _ => Gr.lss hx hy, h⟩
  · exact ⟨_, fun _ => Gr.leq hx hy, h⟩
  · exact ⟨_, fun _ => Gr.gtr hx hy, h⟩
  · exact ⟨_, fun _ => Gr.geq hx hy, h⟩
  · exact ⟨_, fun _ => Gr.eql hx hy, h⟩
  · exact ⟨_, fun _ => Gr.neq hx hy, h⟩
  · exact h.out
theorem cond_or {b : Bool} {p q : Prop} (h : cond b p q) : (b = true ∧ p) ∨ (b = false ∧ q) := by
  cases b with
  | true => exact .inl ⟨rfl, h⟩
  | false => exact .inr ⟨rfl, h⟩
theorem str_eq (s t : ByteArray) : (s.toList == t.toList) = decide (s = t) := by
  rw [ByteArray.toList_eq, ByteArray.toList_eq]
  have : s.data.toList = t.data.toList ↔ s = t := ⟨fun h => by
    obtain ⟨a⟩ := s
    obtain ⟨b⟩ := t
    simp only at h
    rw [Array.toList_inj] at h
    rw [h], fun h => by rw [h]⟩
  by_cases h : s = t
  · simp [h]
  · rw [decide_eq_false h, beq_eq_false_iff_ne]
    exact fun e => h (this.1 e)
theorem bin_out [hT : TabOK P T] {b : BinOp} {a a' : AV} {x y : Operand} {t t' : TypeId} (hx : oget n F x = some a) (hy : oget n F y = some a')
    (h : bin w b (T.get t) a a' (Ask P c n w (.binOp b t x y t') ty F L k) k) : Out P c n w (.binOp b t x y t') ty F L k := by
  unfold bin at h
  split at h
  · split at h
    · split at h
      · rcases cond_or h with ⟨e, h1⟩ | ⟨_, h1⟩
        · clear h
          simp only [Bool.and_eq_true] at e
          have e1 := kq_eq e.1
          have e2 := kq_eq e.2
          subst e1; subst e2
          exact binI_out hx hy h1
        · exact h1.out
      · exact h.out
    · exact h.out
  · rename_i hd
    have hb := (tab_bool hT hd).1
    split at h
    · split at h
      · split at h
        · exact ⟨_, fun _ => Gr.eqlB hb hx hy, h⟩
        · exact ⟨_, fun _ => Gr.neqB hb hx hy, h⟩
        · exact h.out
      · exact h.out
    · exact h.out
  · split at h
    · split at h
      · split at h
        · exact ⟨_, fun _ => (Gr.eqlT hx hy).ofEq (by rw [str_eq]), h⟩
        · exact ⟨_, fun _ => (Gr.neqT hx hy).ofEq (by rw [str_eq]; simp), h⟩
        · exact ⟨_, fun _ => Gr.lssT hx hy, h⟩
        · exact h.out
      · exact h.out
    · exact h.out
  · exact h.out
theorem asI_out {a : AV} {k : Int → Prop} {p : Prop} (h : asI a k p) : (∃ q i, a = .v (.int q i) ∧ k i) ∨ p := by
  unfold asI at h
  split at h
  · exact .inl ⟨_, _, rfl, h⟩
  · exact .inr h
theorem cond_f {b : Bool} {p : Prop} (h : cond b p False) : b = true ∧ p := by
  cases b with
  | true => exact ⟨rfl, h⟩
  | false => exact h.elim
theorem load_one [hT : TabOK P T] {t : TypeId} {d : TD} (hd : T.get t = some d) (h0 : d ≠ .no) (h1 : ∀ k fs zs, d ≠ .st k fs zs) (h2 : ∀ l e k zs, d ≠ .arr l e k zs) : OneT P t := by
  cases d with
  | no => exact absurd rfl h0
  | one z => exact tab_one hT hd
  | int k => exact (tab_int hT hd).2
  | bool => exact (tab_bool hT hd).2
  | str => exact (tab_str hT hd).2
  | sl e k b => exact (tab_sl hT hd).2.1
  | st k fs zs => exact absurd rfl (h1 _ _ _)
  | arr l e k zs => exact absurd rfl (h2 _ _ _ _)
theorem of_toList {α : Type} {a : Array α} {l : List α} (h : a.toList = l) : a = l.toArray := by rw [← h]
theorem gr_out [hT : TabOK P T] {o : Op} (h : gr P T c n w F L ty o k) : Out P c n w o ty F L k := by
  unfold gr at h
  split at h
  · obtain ⟨a, e, h⟩ := rd_out h; exact ⟨_, fun _ => Gr.move e, h⟩
  · obtain ⟨a, e, h⟩ := rd_out h; exact ⟨_, fun _ => Gr.assign e, h⟩
  · obtain ⟨a, e, h⟩ := rd_out h
    obtain ⟨a', e', h⟩ := rd_out h
    exact bin_out e e' h
  · obtain ⟨a, e, h⟩ := rd_out h
    split at h
    · exact ⟨_, fun _ => Gr.not e, h⟩
    · exact h.out
  · obtain ⟨a, e, h⟩ := rd_out h
    split at h
    · exact ⟨_, fun q => Gr.neg e (h.h q), h.k⟩
    · exact h.out
  · obtain ⟨a, e, h⟩ := rd_out h
    split at h
    · split at h
      · rename_i hs
        have hss := (tab_int hT hs).1
        split at h
        · rename_i hd; exact ⟨_, fun q => Gr.toI (by rw [hss]; rfl) (tab_int hT hd).1 e (h.h q), h.k⟩
        · rename_i hd; exact ⟨_, fun _ => Gr.conv (by rw [hss]; rfl) (tab_int hT hd).1 e, h⟩
        · exact h.out
      · exact h.out
    · exact h.out
  · obtain ⟨a, e, h⟩ := rd_out h
    split at h
    · obtain ⟨r, e2, h⟩ := nth_out h
      exact ⟨_, fun _ => Gr.extract e e2, h⟩
    · exact h.out
  · obtain ⟨a, e, h⟩ := rd_out h
    split at h
    · exact ⟨_, fun _ => Gr.nilP e, h⟩
    · exact ⟨_, fun _ => Gr.nilF e, h⟩
    · exact h.out
  · obtain ⟨a, e, h⟩ := rd_out h
    split at h
    · rename_i hd
      split at h
      · rename_i off sz hf
        cases hz : Nat.beq sz 0 with
        | true => rw [hz] at h; exact h.elim
        | false =>
          rw [hz] at h
          simp only [cond_false] at h
          have hfl := (tab_st hT hd).2.1 _ _ _ hf (fun e => by subst e; simp at hz)
          split at h
          · exact ⟨_, fun _ => Gr.fieldB hfl e, h⟩
          · exact ⟨_, fun _ => Gr.fieldF hfl e, h⟩
          · exact h.out
      · exact h.elim
    · exact h.elim
  · obtain ⟨a, e, h⟩ := rd_out h
    obtain ⟨a', e', h⟩ := rd_out h
    split at h
    · split at h
      · rename_i hd
        have hb := (cond_f h).1
        replace h := (cond_f h).2
        have := Nat.eq_of_beq_eq_true hb
        subst this
        rcases asI_out h with ⟨q, i, rfl, h⟩ | h
        · cases h with
          | mk r h hk => exact ⟨_, fun q => Gr.idx (tab_sl hT hd).1 e (Sb.refl _) e' (h q).1 (h q).2, hk⟩
        · exact h.elim
      · exact h.elim
    · split at h
      · rename_i hd
        rcases asI_out h with ⟨q, i, rfl, h⟩ | h
        · exact ⟨_, fun q => Gr.idxAF (tab_arr hT hd).1 e e' (h.h q).1 (h.h q).2, h.k⟩
        · exact h.elim
      · exact h.out
    · exact h.out
  · obtain ⟨a, e, h⟩ := rd_out h
    split at h
    · split at h
      · rename_i hd
        obtain ⟨vs, h1, h2, h⟩ := takeK_out (dropK_out h)
        exact ⟨_, fun _ => Gr.ldFA (tab_st hT hd).1 e h1 (by rw [h2]; simp), h⟩
      · rename_i hd
        obtain ⟨vs, h1, h2, h⟩ := takeK_out (dropK_out h)
        exact ⟨_, fun _ => Gr.ldFA (tab_arr hT hd).2.1 e h1 (by rw [h2]; simp), h⟩
      · exact h.elim
      · exact h.elim
      · rename_i d h1 h2 h3 hd
        obtain ⟨r, e2, h⟩ := nth_out h
        exact ⟨_, fun _ => Gr.ldF (load_one hd (fun e => h3 (by rw [e])) (fun _ _ _ e => h1 _ _ _ (by rw [e])) (fun _ _ _ _ e => h2 _ _ _ _ (by rw [e]))) e e2, h⟩
    · exact h.out
  · rename_i fn first caps
    split at h
    · rename_i e
      obtain ⟨as, e2, h⟩ := rds_out h
      have e1 := of_toList e
      subst e1
      refine ⟨_, fun _ => ?_, h⟩
      have := Gr.makeFunc (P := P) (c := c) (n := n) (F := F) (L := L) (ty := ty) (fn := fn) e2
      rwa [Array.toArray_toList] at this
    · exact h.out
  · rename_i t ps
    obtain ⟨as, e, h⟩ := rdp_out h
    split at h
    · rename_i hd
      split at h
      · rename_i cs hf
        refine ⟨_, fun _ => ?_, force_out h⟩
        have := Gr.build (P := P) (c := c) (n := n) (F := F) (L := L) (ty := ty) e ⟨_, _, (tab_st hT hd).2.2.1, hf⟩
        rwa [Array.toArray_toList] at this
      · exact h.elim
    · rename_i hd
      split at h
      · rename_i cs hf
        refine ⟨_, fun _ => ?_, force_out h⟩
        have := Gr.build (P := P) (c := c) (n := n) (F := F) (L := L) (ty := ty) e ⟨_, _, (tab_arr hT hd).2.2.1, hf⟩
        rwa [Array.toArray_toList] at this
      · exact h.elim
    · exact h.elim
  · obtain ⟨a, e, h⟩ := rd_out h
    split at h
    · split at h
      · rename_i hd
        have hb := (cond_f h).1
        replace h := (cond_f h).2
        have := Nat.eq_of_beq_eq_true hb
        subst this
        have hsl := (tab_sl hT hd).1
        split at h
        · split at h
          · split at h
            · obtain ⟨b, e1, h⟩ := rd_out h
              obtain ⟨d, e2, h⟩ := rd_out h
              rcases asI_out h with ⟨q, i, ea, h1⟩ | h1
              · rcases asI_out h1 with ⟨q', j, ed, h2⟩ | h2
                · exact ⟨_, fun q => Gr.slc hsl e (Sb.refl _) (ea ▸ e1) (ed ▸ e2) (h2.h q).1 (h2.h q).2.1 (h2.h q).2.2, h2.k⟩
                · exact h2.elim
              · exact h1.elim
            · obtain ⟨b, e1, h⟩ := rd_out h
              rcases asI_out h with ⟨q, i, rfl, h⟩ | h
              · exact ⟨_, fun q => Gr.slcL hsl e (Sb.refl _) e1 (h.h q).1 (h.h q).2, h.k⟩
              · exact h.elim
          · split at h
            · obtain ⟨b, e1, h⟩ := rd_out h
              rcases asI_out h with ⟨q, i, rfl, h⟩ | h
              · exact ⟨_, fun q => Gr.slcH hsl e (Sb.refl _) e1 (h.h q).1 (h.h q).2, h.k⟩
              · exact h.elim
            · exact h.out
        · exact h.out
      · exact h.elim
    · exact h.out
  · rename_i xs ts
    split at h
    · rename_i x ex
      split at h
      · rename_i t et
        have e1 := of_toList ex
        have e2 := of_toList et
        subst e1; subst e2
        obtain ⟨a, e, h⟩ := rd_out h
        split at h
        · rename_i hd
          split at h
          · have hb := (cond_f h).1
            replace h := (cond_f h).2
            have := Nat.eq_of_beq_eq_true hb
            subst this
            exact ⟨_, fun _ => Gr.len (tab_sl hT hd).1 e (Sb.refl _), h⟩
          · exact h.out
        · rename_i hd
          split at h
          · exact ⟨_, fun _ => Gr.lenT (tab_str hT hd).1 e, h⟩
          · exact h.out
        · exact h.out
      · exact h.elim
    · exact h.elim
  · rename_i xs ts
    split at h
    · rename_i x y ex
      have e1 := of_toList ex
      subst e1
      obtain ⟨a, e, h⟩ := rd_out h
      obtain ⟨a', e', h⟩ := rd_out h
      split at h
      · split at h
        · have hb := (cond_f h).1
          replace h := (cond_f h).2
          have := kq_eq hb
          subst this
          exact ⟨_, fun _ => Gr.max2 e e', h⟩
        · exact h.elim
      · exact h.elim
    · exact h.out
  · rename_i xs ts
    split at h
    · rename_i x y ex
      have e1 := of_toList ex
      subst e1
      obtain ⟨a, e, h⟩ := rd_out h
      obtain ⟨a', e', h⟩ := rd_out h
      split at h
      · split at h
        · have hb := (cond_f h).1
          replace h := (cond_f h).2
          have := kq_eq hb
          subst this
          exact ⟨_, fun _ => Gr.min2 e e', h⟩
        · exact h.elim
      · exact h.elim
    · exact h.out
  · exact h.out
end
end Go.E2
