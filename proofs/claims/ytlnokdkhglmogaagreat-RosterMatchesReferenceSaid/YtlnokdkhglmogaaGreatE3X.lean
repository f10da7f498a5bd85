/-
  The engine, part X: further ghost steps.
  Conditions: none beyond the premises of each rule.
-/
import Derived.Test.YtlnokdkhglmogaaGreatE3Z
namespace Go.E2
open Go.RowKit
section
variable {P : Program} {T : Tr} {c : Ctx} {m : Nat} {ro : Option Nat} {x : Code} {K : KT} {ds : List Deferred} {F : Fr} {L : List Ent}
/-- a cell of entry i seen otherwise -/
theorem CK.seeB (i off : Nat) {g : Nat} {t : TypeId} {z : Bool} {cs : List AV} {a b : AV} (hL : L[i]? = some (.blk g t z cs)) (ha : cs[off]? = some a) (hs : Sb L a b) (k : CK P T c m ro x K ds F (L.set i (.blk g t z (cs.set off b)))) : CK P T c m ro x K ds F L := ⟨fun Q hQ => Cx.seeB i off hL ha hs (k.out Q hQ)⟩
/-- ghost steps before K -/
inductive Gst (K : Fr → List Ent → Prop) : Fr → List Ent → Prop
  | done {F : Fr} {L : List Ent} (h : K F L) : Gst K F L
  | see {F : Fr} {L : List Ent} (t : Nat) {a b : AV} (h : look F t = some a) (hs : Sb L a b) (k : Gst K ((t, b) :: F) L) : Gst K F L
  | frzR {F : Fr} {L : List Ent} (i : Nat) {v : Value} {t : TypeId} {size m : Nat} {z : Bool} {xs : List AV} (hL : L[i]? = some (.row v t size m z xs)) (k : Gst K F (L.set i (.row v t size xs.length true xs))) : Gst K F L
  | frzB {F : Fr} {L : List Ent} (i : Nat) {g : Nat} {t : TypeId} {z : Bool} {cs : List AV} (hL : L[i]? = some (.blk g t z cs)) (k : Gst K F (L.set i (.blk g t true cs))) : Gst K F L
  | seeB {F : Fr} {L : List Ent} (i off : Nat) {g : Nat} {t : TypeId} {z : Bool} {cs : List AV} {a b : AV} (hL : L[i]? = some (.blk g t z cs)) (ha : cs[off]? = some a) (hs : Sb L a b) (k : Gst K F (L.set i (.blk g t z (cs.set off b)))) : Gst K F L
  | nilrow {F : Fr} {L : List Ent} (t : TypeId) (size : Nat) (k : Gst K F (.row (.slice none 0 0) t size 0 false [] :: L)) : Gst K F L
  | weak {F : Fr} {L : List Ent} (G : Fr) {L' : List Ent} (hG : Says F G) (hL : L'.Sublist L) (k : Gst K G L') : Gst K F L
theorem Gst.ex {n : Cfg} {Q : Exit → Act → World → Prop} {e : Exit} {K : Fr → List Ent → Prop} (hQ : ∀ F L, K F L → Ex c n Q e F L) (h : Gst K F L) : Ex c n Q e F L := by
  induction h with
  | done h => exact hQ _ _ h
  | see t h hs _ ih => exact Ex.see t h hs ih
  | frzR i hL _ ih => exact Ex.frzR i hL ih
  | frzB i hL _ ih => exact Ex.frzB i hL ih
  | seeB i off hL ha hs _ ih => exact ⟨fun H w a hst hF => ih.out H w a (hst.seeB hL ha hs) hF⟩
  | nilrow t size _ ih => exact ⟨fun H w a hst hF => ih.out H w a (hst.nilrow t size) hF⟩
  | weak G hG hL _ ih => exact Ex.weak G hG hL ih
/-- a loop with ghost steps where it is left -/
theorem CK.loopG [TabOK P T] {σ : Type} (ms : List Nat) (p : σ → Prop) (I : σ → Fr) (J : σ → List Ent) (R : List Ent) (μ : σ → Nat) (s0 : σ) (hp : p s0) (h0 : Says F (I s0)) (hL0 : (J s0 ++ R).Sublist L)
    (round : cutK ms F fun F0 => ∀ s, p s → appK (I s) F0 fun G => wpc P T c m ro x (fun ds' e F L => match e with
      | .normal => Nxt ds ds' F0 p I (fun s => J s ++ R) μ s F L
      | e => Gst (K ds' e) F L) ds G (J s ++ R)) : CK P T c m ro (.loop x) K ds F L :=
  have h : CK P T c m ro (.loop x) (fun ds e F L => Gst (K ds e) F L) ds F L := CK.loopK ms p I J R μ s0 hp h0 hL0 round
  ⟨fun Q hQ => h.out Q fun ds e _ _ hg => hg.ex (hQ ds e)⟩
/-- ghost steps after a piece of code -/
theorem CK.post (h : CK P T c m ro x (fun ds e F L => Gst (K ds e) F L) ds F L) : CK P T c m ro x K ds F L := ⟨fun Q hQ => h.out Q fun ds e _ _ hg => hg.ex (hQ ds e)⟩
/-- ghost steps before a piece of code -/
theorem CK.ghost (h : Gst (fun F L => CK P T c m ro x K ds F L) F L) : CK P T c m ro x K ds F L := ⟨fun Q hQ => by
  induction h with
  | done h => exact h.out Q hQ
  | see t h hs _ ih => exact Cx.see t h hs ih
  | frzR i hL _ ih => exact Cx.frzR i hL ih
  | frzB i hL _ ih => exact Cx.frzB i hL ih
  | seeB i off hL ha hs _ ih => exact Cx.seeB i off hL ha hs ih
  | nilrow t size _ ih => exact Cx.nilrow t size ih
  | weak G hG hL _ ih => exact Cx.weak G hG hL ih⟩
end
section
variable {P : Program} {T : Tr} {c : Ctx} {n : Cfg} {ops : Array Oper} {F : Fr} {L : List Ent} {Q : Exit → Act → World → Prop}
variable {d : Option Tmp} {ty : TypeId} {pos : String} {aft : Array Edge}
/-- what a row of the call's own is held by is a slice -/
theorem Lx.isSl {l : List Oper} (i : Nat) {v : Value} {t : TypeId} {size m : Nat} {z : Bool} {xs : List AV} (hL : L[i]? = some (.row v t size m z xs)) (k : ∀ A k cp, v = .slice A k cp → Lx P c n ops Q l F L) : Lx P c n ops Q l F L :=
  ⟨fun H w a hs hF => by
    obtain ⟨us, hr, _⟩ := hs.holds _ (List.mem_of_getElem? hL)
    rcases hr.2 with ⟨h, _⟩ | ⟨g, cap, cur, h, _⟩
    · exact (k _ _ _ h).out H w a hs hF
    · exact (k _ _ _ h).out H w a hs hF⟩
theorem Eff.appS [hT : TabOK P T] {t e : TypeId} {size bytes q : Nat} {z : Bool} {s x : Operand} {v : Value} {a : AV} {xs ys : List AV} (j : Nat) (hd : T.get t = some (.sl e size bytes)) (hL : L[j]? = some (.row v e size q z xs)) (hs : oget n F s = some (.v v)) (hx : oget n F x = some a)
    (hz : (Nat.blt 0 size && Nat.blt 0 bytes) = true) (hsb : Sb L a (.sl size ys)) (h1 : (ys.flatMap AV.cells).all AV.one = true) (hb : (xs.length + ys.length) * bytes ≤ 140737488355328) :
    Eff P c n ops ⟨d, .call ⟨.builtin .append, #[s, x], #[t, t]⟩, ty, pos, aft, none⟩ F L fun r L' => ∃ A k cp, r = .v (.slice A k cp) ∧ L' = L.set j (.row (.slice A k cp) e size q false (xs ++ ys)) := by
  refine ⟨fun G Q hag hk => (Eff.app j hd hL hs hx hz hsb h1 hb).out G Q hag ?_⟩
  rintro _ _ ⟨v', rfl, rfl⟩
  refine Lx.isSl j (v := v') (t := e) (size := size) (m := q) (z := false) (xs := xs ++ ys) ?_ fun A k cp e => ?_
  · have := (List.getElem?_eq_some_iff.1 hL).1
    rw [List.getElem?_set, if_pos rfl, if_pos this]
  · subst e
    exact hk _ _ ⟨A, k, cp, rfl, rfl⟩
end
section
variable {P : Program} {T : Tr} {c : Ctx} {n : Cfg} {w : Bool} {ty : TypeId} {F : Fr} {L : List Ent} {k : AV → Prop} [hT : TabOK P T] {α : Type} [Inhabited α] {f : α → AV} {ys : List α}
theorem Ask.idxAB {q : IntKind} {i : Int} {t e : TypeId} {len kk g o : Nat} {zs : List Value} {x y : Operand} (hd : T.get t = some (.arr len e kk zs)) (hx : oget n F x = some (.v (.pointer (some ⟨g, o, none⟩)))) (hy : oget n F y = some (.v (.int q i))) (h : w = true → 0 ≤ i ∧ i < len) (hk : k (.v (.pointer (some ⟨g, o + i.toNat * kk, none⟩)))) :
    Ask P c n w (.indexAddr t x y) ty F L k := ⟨_, fun e => Gr.idxAB (tab_arr hT hd).1 hx hy (h e).1 (h e).2, hk⟩
theorem map_getD {a : Nat} (h : a < ys.length) : (ys.map f)[a]? = some (f (ys.getD a default)) := by
  rw [List.getElem?_map, List.getElem?_eq_getElem h]
  simp [List.getD, h]
/-- a cell of a row's element, known under the guard alone -/
theorem Ask.ldRM {t U : TypeId} {x : Operand} {v : Value} {a j kk m : Nat} {z : Bool} {td : TD} (i : Nat) (hd : T.get t = some td) (h1 : oneK td = true) (hL : L[i]? = some (.row v U kk m z (ys.map f))) (hx : oget n F x = some (.v (.pointer (some ⟨blkOf v, a * kk + j, none⟩)))) (h : w = true → a < ys.length) (hk : nth (f (ys.getD a default)).cells j k) :
    Ask P c n w (.load t x) ty F L k := by
  obtain ⟨r, e, hk⟩ := nth_out hk
  exact ⟨r, fun q => Gr.ldR (one_of hd h1) i hx hL (map_getD (h q)) e, hk⟩
theorem Ask.ldRM0 {t U : TypeId} {x : Operand} {v : Value} {a kk m : Nat} {z : Bool} {td : TD} (i : Nat) (hd : T.get t = some td) (h1 : oneK td = true) (hL : L[i]? = some (.row v U kk m z (ys.map f))) (hx : oget n F x = some (.v (.pointer (some ⟨blkOf v, a * kk, none⟩)))) (h : w = true → a < ys.length) (hk : nth (f (ys.getD a default)).cells 0 k) :
    Ask P c n w (.load t x) ty F L k := by
  obtain ⟨r, e, hk⟩ := nth_out hk
  exact ⟨r, fun q => Gr.ldR0 (one_of hd h1) i hx hL (map_getD (h q)) e, hk⟩
theorem Ask.ldRMA {t U : TypeId} {x : Operand} {v : Value} {a m : Nat} {z : Bool} {td : TD} (i : Nat) (hd : T.get t = some td) (h1 : Nat.beq (aggK td) 0 = false) (hL : L[i]? = some (.row v U (aggK td) m z (ys.map f))) (hx : oget n F x = some (.v (.pointer (some ⟨blkOf v, a * aggK td, none⟩)))) (h : w = true → a < ys.length) (hk : match f (ys.getD a default) with | .agg cs => k (.agg cs) | _ => False) :
    Ask P c n w (.load t x) ty F L k := by
  have ha : AggT P t (aggK td) := by
    cases td with
    | st k fs zs => exact (tab_st hT hd).1
    | arr l e k zs => exact (tab_arr hT hd).2.1
    | _ => simp [aggK] at h1
  split at hk
  · rename_i cs e
    exact ⟨_, fun q => Gr.ldRA ha i hx hL (by rw [map_getD (h q), e]), hk⟩
  · exact hk.elim
end
section
variable {P : Program} {T : Tr} {c : Ctx} {n : Cfg} {ops : Array Oper} {F : Fr} {L : List Ent} {K : Fr → List Ent → Prop} [hT : TabOK P T]
variable {d : Option Tmp} {ty : TypeId} {pos : String} {aft : Array Edge} {rest : List Oper} {α : Type} [Inhabited α] {f : α → AV} {ys : List α}
theorem LK.stRM {t U : TypeId} {x y : Operand} {v : Value} {a j k m : Nat} {z : Bool} {r : AV} {td : TD} (i : Nat) (hd : T.get t = some td) (hL : L[i]? = some (.row v U k m z (ys.map f))) (hx : oget n F x = some (.v (.pointer (some ⟨blkOf v, a * k + j, none⟩)))) (hy : oget n F y = some r)
    (h1 : (match td with | .no => false | .st _ _ _ => false | .arr _ _ _ _ => false | _ => true) = true) (hm : m ≤ a) (ha : a < ys.length) (hj : Nat.blt j (f (ys.getD a default)).cells.length = true) (hu : r.one = true) (kk : putK d (.v undef) F fun F => wpl P T c n ops K rest F (L.set i (.row v U k m false ((ys.map f).set a ((f (ys.getD a default)).setCell j r))))) :
    LK P T c n ops K (⟨d, .store t x y, ty, pos, aft, none⟩ :: rest) F L := LK.stR i hd hL hx hy h1 hm (map_getD ha) hj hu kk
end
end Go.E2
