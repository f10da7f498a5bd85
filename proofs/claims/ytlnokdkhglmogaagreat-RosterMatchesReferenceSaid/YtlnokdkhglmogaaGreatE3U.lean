/-
  The engine, part U: guards, regions, code, functions, in obligations.
  Conditions: none beyond the premises of each rule.
-/
import Derived.Test.YtlnokdkhglmogaaGreatE3T
namespace Go.E2
open Go.RowKit

/-! operands that are read under a guard -/
def opn (F : Fr) : List Operand → Fr
  | [] => F
  | .tmp t :: xs => match look F t with
    | some (.opt _ a) => (t, a) :: opn F xs
    | _ => opn F xs
  | _ :: xs => opn F xs
def imps (w : Bool) (F : Fr) : List Operand → (Fr → Prop) → Prop
  | [], k => k F
  | .tmp t :: xs, k => match look F t with
    | some (.opt b a) => Must w (b = true) (imps w F xs fun G => k ((t, a) :: G))
    | _ => imps w F xs k
  | _ :: xs, k => imps w F xs k
theorem imps_out {w : Bool} {F : Fr} : ∀ {xs : List Operand} {k : Fr → Prop}, imps w F xs k → (w = true → ∀ t b a, Operand.tmp t ∈ xs → look F t = some (.opt b a) → b = true) ∧ k (opn F xs)
  | [], _, h => ⟨fun _ t b a ht => (by cases ht), h⟩
  | .tmp t :: xs, p, h => by
    unfold imps at h
    unfold opn
    split at h
    · rename_i b a e
      obtain ⟨h1, h2⟩ := imps_out h.k
      refine ⟨fun q s b' a' hs hl => ?_, h2⟩
      rcases List.mem_cons.1 hs with e1 | hs
      · cases e1
        rw [e] at hl
        cases hl
        exact h.h q
      · exact h1 q s b' a' hs hl
    · rename_i hn
      obtain ⟨h1, h2⟩ := imps_out h
      refine ⟨fun q s b' a' hs hl => ?_, h2⟩
      rcases List.mem_cons.1 hs with e1 | hs
      · cases e1; exact absurd hl (hn _ _)
      · exact h1 q s b' a' hs hl
  | .const v :: xs, p, h => by
    obtain ⟨h1, h2⟩ := imps_out (xs := xs) h
    exact ⟨fun q s b a hs hl => h1 q s b a (by rcases List.mem_cons.1 hs with e | e; cases e; exact e) hl, h2⟩
  | .global v :: xs, p, h => by
    obtain ⟨h1, h2⟩ := imps_out (xs := xs) h
    exact ⟨fun q s b a hs hl => h1 q s b a (by rcases List.mem_cons.1 hs with e | e; cases e; exact e) hl, h2⟩
  | .func v :: xs, p, h => by
    obtain ⟨h1, h2⟩ := imps_out (xs := xs) h
    exact ⟨fun q s b a hs hl => h1 q s b a (by rcases List.mem_cons.1 hs with e | e; cases e; exact e) hl, h2⟩
theorem opn_look {F : Fr} : ∀ {xs : List Operand} {s : Nat} {y : AV}, look (opn F xs) s = some y → look F s = some y ∨ ∃ b, look F s = some (.opt b y) ∧ Operand.tmp s ∈ xs
  | [], _, _, h => .inl h
  | .tmp t :: xs, s, y, h => by
    unfold opn at h
    split at h
    · rename_i b a e
      by_cases es : t = s
      · subst es
        rw [look_cons_self] at h
        cases h
        exact .inr ⟨b, e, by simp⟩
      · rw [look_cons_ne _ _ es] at h
        exact (opn_look h).imp id fun ⟨b, h1, h2⟩ => ⟨b, h1, by simp [h2]⟩
    · exact (opn_look h).imp id fun ⟨b, h1, h2⟩ => ⟨b, h1, by simp [h2]⟩
  | .const v :: xs, s, y, h => (opn_look (xs := xs) h).imp id fun ⟨b, h1, h2⟩ => ⟨b, h1, by simp [h2]⟩
  | .global v :: xs, s, y, h => (opn_look (xs := xs) h).imp id fun ⟨b, h1, h2⟩ => ⟨b, h1, by simp [h2]⟩
  | .func v :: xs, s, y, h => (opn_look (xs := xs) h).imp id fun ⟨b, h1, h2⟩ => ⟨b, h1, by simp [h2]⟩
section
variable {P : Program} {T : Tr} {c : Ctx} {n : Cfg} {ops : Array Oper} {Q : Exit → Act → World → Prop} {F : Fr} {L : List Ent}
theorem Gr.opn {o : Op} {ty : TypeId} {r : AV} (hb : ∀ t b a, Operand.tmp t ∈ o.operands.toList → look F t = some (.opt b a) → b = true) (h : Gr P c n o ty (opn F o.operands.toList) L r) : Gr P c n o ty F L r :=
  ⟨fun H w ρ hs hr d pos aft g => h.out H w ρ hs (fun x hm av hav => by
    cases x with
    | tmp s =>
      simp only [oget] at hav
      split at hav
      · rename_i hlt
        rcases opn_look hav with e | ⟨b, e, hx⟩
        · exact hr (.tmp s) hm av (by simp only [oget]; rw [hlt]; exact e)
        · have h1 := hr (.tmp s) hm (.opt b av) (by simp only [oget]; rw [hlt]; exact e)
          exact h1.inv_opt.1 (hb s b av hx e)
      · cases hav
    | _ => exact hr _ hm av hav) d pos aft g⟩
/-! the choice between two conditions -/
inductive BoolAt : AV → Bool → Bool → Prop
  | v (p : Bool) : BoolAt (.v (.bool p)) true p
  | opt (g p : Bool) : BoolAt (.opt g (.v (.bool p))) g p
theorem BoolAt.val {H : Cells} {a : AV} {g p : Bool} {v : Value} (h : BoolAt a g p) (hr : Rel H a v) (hg : g = true) : v = .bool p := by
  cases h with
  | v => exact hr.inv
  | opt => exact (hr.inv_opt.1 hg).inv
def rdB (n : Cfg) (F : Fr) (x : Operand) (w : Bool) (k : Bool → Prop) : Prop := rd n F x fun a => match a with
  | .v (.bool p) => k p
  | .opt g (.v (.bool p)) => Must w (g = true) (k p)
  | _ => False
theorem rdB_out {x : Operand} {w : Bool} {k : Bool → Prop} (h : rdB n F x w k) : ∃ a g p, oget n F x = some a ∧ BoolAt a g p ∧ (w = true → g = true) ∧ k p := by
  obtain ⟨a, e, h⟩ := rd_out h
  split at h
  · exact ⟨_, _, _, e, .v _, fun _ => rfl, h⟩
  · exact ⟨_, _, _, e, .opt _ _, h.h, h.k⟩
  · exact h.elim
def pickV (x y : Operand) (p q r : Bool) : Bool := match y with
  | .const (.bool false) => p && q
  | _ => match x with
    | .const (.bool true) => p || r
    | _ => cond p q r
def pck (n : Cfg) (w : Bool) (F : Fr) (b x y : Operand) (k : AV → Prop) : Prop :=
  rdB n F b w fun p => rdB n F x (w && p) fun q => rdB n F y (w && !p) fun r => match y with
    | .const (.bool false) => k (B (p && q))
    | _ => match x with
      | .const (.bool true) => k (B (p || r))
      | _ => k (B (cond p q r))
theorem pck_out {w : Bool} {b x y : Operand} {ty : TypeId} {k : AV → Prop} (h : pck n w F b x y k) : Out P c n w (.pick b x y) ty F L k := by
  obtain ⟨ab, gb, p, eb, hb, wb, h⟩ := rdB_out h
  obtain ⟨ax, gx, q, ex, hx, wx, h⟩ := rdB_out h
  obtain ⟨ay, gy, r, ey, hy, wy, h⟩ := rdB_out h
  have key : w = true → ∀ v, (p = true → v = q) → (p = false → v = r) → Gr P c n (.pick b x y) ty F L (B v) := fun hw v h1 h2 => by
    refine .pure fun H w' ρ _ hr d pos aft g => ?_
    have r1 := hb.val (hr b (by simp [Op.operands]) _ eb) (wb hw)
    cases p with
    | true =>
      have r2 := hx.val (hr x (by simp [Op.operands]) _ ex) (wx (by simp [hw]))
      exact ⟨.bool v, by simp [execOp, r1, asBool, r2, h1 rfl], .v _⟩
    | false =>
      have r2 := hy.val (hr y (by simp [Op.operands]) _ ey) (wy (by simp [hw]))
      exact ⟨.bool v, by simp [execOp, r1, asBool, r2, h2 rfl], .v _⟩
  split at h
  · have : r = false := by
      simp only [oget, Option.some.injEq] at ey
      subst ey
      cases hy; rfl
    exact ⟨_, fun hw => key hw _ (fun e => by rw [e]; simp) (fun e => by rw [e, this]; simp), h⟩
  · split at h
    · have : q = true := by
        simp only [oget, Option.some.injEq] at ex
        subst ex
        cases hx; rfl
      exact ⟨_, fun hw => key hw _ (fun e => by rw [e, this]; simp) (fun e => by rw [e]; simp), h⟩
    · exact ⟨_, fun hw => key hw _ (fun e => by rw [e]; rfl) (fun e => by rw [e]; rfl), h⟩

/-! one operation -/
def grO (P : Program) (T : Tr) (c : Ctx) (n : Cfg) (w : Bool) (F : Fr) (L : List Ent) (ty : TypeId) (o : Op) (k : AV → Prop) : Prop := match o with
  | .pick b x y => pck n w F b x y k
  | o => imps w F o.operands.toList fun G => gr P T c n w G L ty o k
def stp (P : Program) (T : Tr) (c : Ctx) (n : Cfg) (ops : Array Oper) (op : Op) (ty : TypeId) (gd : Option (Nat × Bool)) (F : Fr) (L : List Ent) (k : AV → Prop) : Prop := match gd with
  | none => match op with
    | .pick b x y => pck n true F b x y k
    | op => gr P T c n true F L ty op k
  | some g => match wantB ops n F (some g) with
    | some w => grO P T c n w F L ty op fun r => k (.opt w r)
    | none => False
theorem grO_out [TabOK P T] {w : Bool} {ty : TypeId} {o : Op} {k : AV → Prop} (h : grO P T c n w F L ty o k) : Out P c n w o ty F L k := by
  unfold grO at h
  split at h
  · exact pck_out h
  · obtain ⟨h1, h2⟩ := imps_out h
    obtain ⟨r, h3, h4⟩ := gr_out h2
    exact ⟨r, fun hw => (h3 hw).opn (h1 hw), h4⟩
theorem stp_out [TabOK P T] {o : Oper} {k : AV → Prop} (h : stp P T c n ops o.op o.type o.guard F L k) : ∃ r, YieldsA P c n L ops o F r ∧ k r := by
  unfold stp at h
  split at h
  · rename_i hg
    have hw : wantB ops n F o.guard = some true := by rw [hg]; rfl
    split at h
    · rename_i ho
      obtain ⟨r, h1, h2⟩ := pck_out (P := P) (c := c) (L := L) (ty := o.type) h
      exact ⟨r, .run ⟨hw, by rw [ho]; exact h1 rfl⟩, h2⟩
    · obtain ⟨r, h1, h2⟩ := gr_out h
      exact ⟨r, .run ⟨hw, h1 rfl⟩, h2⟩
  · rename_i g hg
    split at h
    · rename_i w hw
      obtain ⟨r, h1, h2⟩ := grO_out h
      exact ⟨_, ⟨w, r, by rw [hg]; exact hw, h1, .inr (.inr rfl)⟩, h2⟩
    · exact h.elim
theorem Lx.yld {o : Oper} {rest : List Oper} {r : AV} (h : YieldsA P c n L ops o F r) (k : Lx P c n ops Q rest (putF o.dst r F) L) : Lx P c n ops Q (o :: rest) F L :=
  ⟨fun H w a hs hF => by
    refine wpList_step fun K hK => ?_
    rcases h.cases with ⟨q, hw, hg, hrr⟩ | ⟨hw, hrr⟩
    · rw [if_pos (wanted_fit hF.size hF.rel hw)]
      exact oper_wp_grows hs (hg.out H w a.eval hs (hF.reads _) o.dst o.pos o.after o.guard) fun H' w' v hl hs' hr => hK _ _ (k.out H' w' _ hs' ((hF.mono hl).put (hrr _ _ hr) o.dst))
    · rw [if_neg (by rw [wanted_fit hF.size hF.rel hw]; simp)]
      exact hK _ _ (k.out H w _ hs (hF.put (hrr _) o.dst))⟩

/-! lists of operations -/
def putK (d : Option Tmp) (r : AV) (F : Fr) (k : Fr → Prop) : Prop := match d with
  | some d => k ((d, r) :: F)
  | none => k F
theorem putK_out {d : Option Tmp} {r : AV} {k : Fr → Prop} (h : putK d r F k) : k (putF d r F) := by cases d <;> exact h
structure LK (P : Program) (T : Tr) (c : Ctx) (n : Cfg) (ops : Array Oper) (K : Fr → List Ent → Prop) (l : List Oper) (F : Fr) (L : List Ent) : Prop where
  out : ∀ Q, (∀ F L, K F L → Ex c n Q .normal F L) → Lx P c n ops Q l F L
def isPure : Op → Bool
  | .binOp _ _ _ (.const (.slice _ _ _)) _ => false
  | .move _ | .assign _ | .pick _ _ _ | .load _ _ | .nilCheck _ | .binOp _ _ _ _ _ | .unOp _ _ _ | .convert _ _ _ | .makeFunc _ _ _ | .slice _ _ _ _ _ | .fieldAddr _ _ _ | .field _ _ _ | .indexAddr _ _ _ | .index _ _ _ | .extract _ _ | .build _ _ => true
  | .call ⟨.builtin .len, _, _⟩ | .call ⟨.builtin .max, _, _⟩ | .call ⟨.builtin .min, _, _⟩ => true
  | _ => false
def wpl (P : Program) (T : Tr) (c : Ctx) (n : Cfg) (ops : Array Oper) (K : Fr → List Ent → Prop) : List Oper → Fr → List Ent → Prop
  | [], F, L => K F L
  | ⟨d, op, ty, pos, aft, gd⟩ :: l, F, L => cond (isPure op) (stp P T c n ops op ty gd F L fun r => putK d r F fun F => wpl P T c n ops K l F L) (match gd with
    | none => match d with
      | some d => match op with
        | .alloc t => match T.get t with
          | some .no => False
          | some td => ∀ b, force ((zsOf td).map .v) fun cs => wpl P T c n ops K l ((d, .v (.pointer (some ⟨b, 0, none⟩))) :: F) (.blk b t false cs :: L)
          | none => False
        | .box t x => rd n F x fun a => match a with
          | .agg cs => ∀ b, wpl P T c n ops K l ((d, .v (.pointer (some ⟨b, 0, none⟩))) :: F) (.blk b t false cs :: L)
          | a => cond a.one (∀ b, wpl P T c n ops K l ((d, .v (.pointer (some ⟨b, 0, none⟩))) :: F) (.blk b t false [a] :: L)) False
        | op => LK P T c n ops K (⟨some d, op, ty, pos, aft, none⟩ :: l) F L
      | none => LK P T c n ops K (⟨none, op, ty, pos, aft, none⟩ :: l) F L
    | some g => LK P T c n ops K (⟨d, op, ty, pos, aft, some g⟩ :: l) F L)
variable {K : Fr → List Ent → Prop}
theorem wpl_out [TabOK P T] : ∀ {l : List Oper} {F : Fr} {L : List Ent}, wpl P T c n ops K l F L → LK P T c n ops K l F L
  | [], F, L, h => ⟨fun Q hQ => Lx.nil (hQ F L h)⟩
  | ⟨d, op, ty, pos, aft, gd⟩ :: l, F, L, h => by
    unfold wpl at h
    rcases cond_or h with ⟨_, h⟩ | ⟨_, h⟩
    · obtain ⟨r, h1, h2⟩ := stp_out (o := ⟨d, op, ty, pos, aft, gd⟩) h
      exact ⟨fun Q hQ => Lx.yld h1 ((wpl_out (putK_out h2)).out Q hQ)⟩
    · split at h
      · split at h
        · split at h
          · split at h
            · exact h.elim
            · rename_i td hn hd
              exact ⟨fun Q hQ => Lx.alloc (tab_zero inferInstance hd (fun e => hn (by rw [e]))) rfl fun b => (wpl_out (force_out (h b))).out Q hQ⟩
            · exact h.elim
          · obtain ⟨a, e, h⟩ := rd_out h
            split at h
            · exact ⟨fun Q hQ => Lx.boxA rfl e fun b => (wpl_out (h b)).out Q hQ⟩
            · have h1 := (cond_f h).1
              have h2 := (cond_f h).2
              exact ⟨fun Q hQ => Lx.box1 rfl e h1 fun b => (wpl_out (h2 b)).out Q hQ⟩
          · exact h
        · exact h
      · exact h
/-- the operations of a region of open order that may be told in their lexical order -/
def wpo (P : Program) (T : Tr) (c : Ctx) (n : Cfg) (ops : Array Oper) (L : List Ent) (K : Fr → Prop) : List Oper → Fr → Prop
  | [], F => K F
  | ⟨d, op, ty, _, _, gd⟩ :: l, F => cond (isPure op) (stp P T c n ops op ty gd F L fun r => putK d r F fun F => wpo P T c n ops L K l F) (match gd with
    | none => Ask P c n true op ty F L fun r => putK d r F fun F => wpo P T c n ops L K l F
    | some g => match wantB ops n F (some g) with
      | some w => imps w F op.operands.toList fun G => Ask P c n w op ty G L fun r => putK d (.opt w r) F fun F => wpo P T c n ops L K l F
      | none => False)
theorem wpo_out [TabOK P T] {K : Fr → Prop} : ∀ {l : List Oper} {F : Fr}, wpo P T c n ops L K l F → ∃ F', RunA P c n L ops l F F' ∧ K F'
  | [], F, h => ⟨F, .nil, h⟩
  | ⟨d, op, ty, pos, aft, gd⟩ :: l, F, h => by
    unfold wpo at h
    have key : ∃ r, YieldsA P c n L ops ⟨d, op, ty, pos, aft, gd⟩ F r ∧ wpo P T c n ops L K l (putF d r F) := by
      rcases cond_or h with ⟨_, h⟩ | ⟨_, h⟩
      · obtain ⟨r, h1, h2⟩ := stp_out (o := ⟨d, op, ty, pos, aft, gd⟩) h
        exact ⟨r, h1, putK_out h2⟩
      · split at h
        · obtain ⟨r, h1, h2⟩ := h.out
          exact ⟨r, .run ⟨rfl, h1 rfl⟩, putK_out h2⟩
        · split at h
          · rename_i w hw
            obtain ⟨h1, h2⟩ := imps_out h
            obtain ⟨r, h3, h4⟩ := h2.out
            exact ⟨.opt w r, ⟨w, r, hw, fun e => (h3 e).opn (h1 e), .inr (.inr rfl)⟩, putK_out h4⟩
          · exact h.elim
    obtain ⟨r, h1, h2⟩ := key
    obtain ⟨F', h3, h4⟩ := wpo_out h2
    exact ⟨F', .cons h1 h3, h4⟩
end
/-! code -/
abbrev KT := List Deferred → Exit → Fr → List Ent → Prop
structure CK (P : Program) (T : Tr) (c : Ctx) (m : Nat) (ro : Option Nat) (code : Code) (K : KT) (ds : List Deferred) (F : Fr) (L : List Ent) : Prop where
  out : ∀ Q, (∀ ds e F L, K ds e F L → Ex c ⟨m, ds, ro⟩ Q e F L) → Cx P c ⟨m, ds, ro⟩ code Q F L
def wpc (P : Program) (T : Tr) (c : Ctx) (m : Nat) (ro : Option Nat) : Code → KT → List Deferred → Fr → List Ent → Prop
  | .skip, K, ds, F, L => K ds .normal F L
  | .region id ops draw, K, ds, F, L => match draw with
    | false => cond (ops.toList.all fun o => noDef o.op) (wpl P T c ⟨m, ds, ro⟩ ops (fun F L => K ds .normal F L) ops.toList F L) (CK P T c m ro (.region id ops false) K ds F L)
    | true => CK P T c m ro (.region id ops true) K ds F L
  | .seq a b, K, ds, F, L => wpc P T c m ro a (fun ds e F L => match e with
    | .normal => wpc P T c m ro b K ds F L
    | e => K ds e F L) ds F L
  | .cond x a b, K, ds, F, L => rd ⟨m, ds, ro⟩ F x fun v => match v with
    | .v (.bool p) => Br p (wpc P T c m ro a K ds F L) (wpc P T c m ro b K ds F L)
    | _ => False
  | .block id a, K, ds, F, L => wpc P T c m ro a (fun ds e F L => match e with
    | .exit i => cond (Nat.beq i id) (K ds .normal F L) (K ds (.exit i) F L)
    | e => K ds e F L) ds F L
  | .exit id, K, ds, F, L => K ds (.exit id) F L
  | .ret, K, ds, F, L => K ds .ret F L
  | x, K, ds, F, L => CK P T c m ro x K ds F L
end Go.E2
