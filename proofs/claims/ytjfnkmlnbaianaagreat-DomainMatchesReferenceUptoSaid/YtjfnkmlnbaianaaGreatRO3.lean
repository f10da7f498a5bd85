/-
  Walks: package roster: byDays, add.
  Conditions: those of each theorem.
-/
import Derived.Test.YtjfnkmlnbaianaaGreatRO2
namespace Go.Proofs.YtjfnkmlnbaianaaGreat
open Go.E2 Go.Wage
abbrev slN (l : List Nat) : AV := .sl 1 (l.map In)
theorem lk_memO {β : Type} {x : Int} {b : β} : ∀ {l : List (Int × β)}, (l.map (·.1)).Nodup → (x, b) ∈ l → lk x l = some b
 | [], _, h => by cases h
 | e :: l, hn, h => by
  rw [List.map_cons, List.nodup_cons] at hn
  rw [lk]
  rcases List.mem_cons.1 h with rfl | h
  ·rw [if_pos rfl]
  ·rw [if_neg (fun e' => hn.1 (by rw [← e']; exact List.mem_map.2 ⟨_, h, rfl⟩)), lk_memO hn.2 h]
theorem mem_lk {β : Type} {x : Int} {b : β} : ∀ {l : List (Int × β)}, lk x l = some b → (x, b) ∈ l
 | [], h => by cases h
 | e :: l, h => by
  rw [lk] at h
  split at h
  ·rename_i he
   injection h with h
   subst h; subst he
   simp
  ·exact List.mem_cons_of_mem _ (mem_lk h)
theorem lk_map {β γ : Type} (f : Int → β → γ) (x : Int) : ∀ l : List (Int × β), lk x (l.map fun e => (e.1, f e.1 e.2)) = (lk x l).map (f x)
 | [] => rfl
 | e :: l => by
  rw [List.map_cons, lk, lk, lk_map f x l]
  split
  ·rename_i h; rw [h]; rfl
  ·rfl
theorem oDays_ok (p : Pl) (w : Nat) (mine : List Nat) (hm : ∀ d ∈ mine, d < p.duties.length) (hl : mine.length ≤ 1000) (hp : posT (trip p mine)) (hb : (trip p mine).length ≤ 100000) :
  FnE Tryz.prog 203 [.agg (tcs p w mine)] fun r E => ∃ g1 g2 M D, r = .tup [.v (.map (some g1)), .v (.map (some g2))] ∧ E = [.mp g2 (encM eI slN D), .mp g1 (encM eI I M)] ∧ Cnt M (sumT (trip p mine)) ∧ ∀ x, (lk x D).getD [] = dutT (trip p mine) x := by
 refine (oDays_raw p w mine hm hl hp hb).step ?_
 rintro _ _ ⟨g1, g2, M, D, RS, rfl, rfl, hM, hL⟩
 generalize trip p mine = T at *
 refine ⟨_, ⟨g1, g2, M, D.map fun e => (e.1, dutT T e.1), rfl, rfl, hM, fun x => ?_⟩, fun c H w hs => ?_⟩
 ·rw [lk_map (fun x _ => dutT T x), hL.eq x]
  have := hL.dt x
  cases hk : lk x RS with
  | none =>
   rw [hk, Option.map_none] at this
   simp only [Option.map_none, Option.getD_none]
   split at this
   ·rename_i h; exact h.symm
   ·cases this
  | some b => simp
 ·have hD : ∀ e ∈ D, (e.2, (dutT T e.1).map In) ∈ RS.map fun e => (e.2.1, e.2.2.map In) := fun e he => by
   have h1 := lk_memO hL.nd (x := e.1) (b := e.2) he
   have h2 := hL.eq e.1
   have h3 := hL.dt e.1
   rw [h1] at h2
   cases hk : lk e.1 RS with
   | none => rw [hk] at h2; cases h2
   | some b =>
    rw [hk, Option.map_some] at h2 h3
    injection h2 with h2
    split at h3
    ·cases h3
    ·injection h3 with h3
     exact List.mem_map.2 ⟨_, mem_lk hk, by rw [h2, ← h3]⟩
  have := St.frzM (t := 3) (size := 1) (A := [.mp g1 (encM eI I M)]) (ek := eI) (D := D) (f := fun x => (dutT T x).map In) hD (by
   rw [List.map_map]
   exact hs)
  have e1 : encM eI slN (D.map fun e => (e.1, dutT T e.1)) = encM eI (AV.sl 1) (D.map fun e => (e.1, (dutT T e.1).map In)) := by simp [encM]
  rw [e1]
  exact this
def addV (l : List Vi) (v : Vi) : List Vi := if v ∈ l then l else l ++ [v]
theorem mem_addV {l : List Vi} {v x : Vi} : x ∈ addV l v ↔ x ∈ l ∨ x = v := by
 unfold addV
 split
 ·rename_i h
  exact ⟨.inl, fun h' => by rcases h' with h' | rfl; exact h'; exact h⟩
 ·simp
theorem addV_nodup {l : List Vi} (v : Vi) (h : l.Nodup) : (addV l v).Nodup := by
 unfold addV
 split
 ·exact h
 ·rename_i hn
  rw [List.nodup_append]
  exact ⟨h, by simp, fun a ha b hb e => by simp at hb; subst hb; subst e; exact hn ha⟩
theorem addV_len (l : List Vi) (v : Vi) : (addV l v).length ≤ l.length + 1 := by
 unfold addV
 split <;> simp
set_option maxHeartbeats 4000000 in
theorem oAdd_ok {c : Ctx} {L : List Ent} {v : Value} (acc : List Vi) (x : Vi) (hl : acc.length ≤ 1000000) :
  FnL Tryz.prog c 204 [.v v, viav x] (.row v 68 4 0 false (acc.map viav) :: L) fun r L' => ∃ v', r = .v v' ∧ L' = .row v' 68 4 0 false ((addV acc x).map viav) :: L := by
 have hla : (acc.map viav).length = acc.length := by simp
 refine fnL_run (T := tab) Tryz.func204 rfl Tryz.ntmps204 rfl Tryz.results204 (fun _ hw0 => ?_)
 repeat' ((conv => whnf) <;> (first | refine zM ?_ | refine zW ?_ | intro _ | exact zF | refine Br.tt ?_ | refine Br.ff ?_ | (refine Br.mk (fun h => ?_) (fun h => ?_) <;> (try simp only [sh] at h) <;> try first | (exfalso; omega) | exact absurd trivial h | (simp at h; done)) | refine zA ?_ | refine zN ?_ | refine zO ?_ | refine zP ?_ | refine zB ?_ | refine lB ?_ | refine lBA ?_ | refine lM ?_ | refine lM0 ?_ | refine lMA ?_ | refine sM ?_ | refine nR ?_ | refine iR ?_ | refine lR ?_ | refine lR0 ?_ | refine lRA ?_ | refine zK ?_ | refine s1 ?_ | refine sA ?_ | refine LK.bsl rfl rfl rfl rfl ?_ | (refine LK.frzR 0 rfl ?_ <;> refine pF ?_) | refine pA ?_ | refine sR ?_ | refine zC ?_ | fail))
 rename_i bv
 (conv => whnf); refine CK.loopK [4, 6, 9, 10, 11, 12, 13, 14, 15, 16, 17] (σ := Nat) (fun k => k ≤ acc.length ∧ ∀ y ∈ acc.take k, y ≠ x) (fun k => [(9, I k)]) (fun _ => [.blk bv 68 false [I x.kind, I x.wk, I x.fst, I x.snd], .row v 68 4 0 false (acc.map viav)]) _ (fun k => acc.length - k) 0 ⟨Nat.zero_le _, by simp⟩ Qy (List.Sublist.refl _) ?_
 conv => whnf
 rintro k ⟨i1, i2⟩
 by_cases hk : k < acc.length
 ·repeat' ((conv => whnf) <;> (first | (refine Nxt.of (k + 1) [4, 6, 9, 10, 11, 12, 13, 14, 15, 16, 17] Qr Qr Qr ?_ ?_ Qy Qs <;> (try dsimp only) <;> (try omega)) | refine zM ?_ | refine zW ?_ | intro _ | exact zF | refine Br.tt ?_ | refine Br.ff ?_ | (refine Br.mk (fun h => ?_) (fun h => ?_) <;> (try simp only [sh] at h) <;> try first | (exfalso; omega) | exact absurd trivial h | (simp at h; done)) | refine zA ?_ | refine zN ?_ | refine zO ?_ | refine zP ?_ | refine zB ?_ | refine Ask.of (Gr.eqlS rfl rfl rfl rfl (eqs47 _ _ _ _ _ _)) ?_ | refine Ask.of (Gr.neqS rfl rfl rfl rfl (eqs47 _ _ _ _ _ _)) ?_ | refine Ask.of (Gr.eqlS rfl rfl rfl rfl (eqs28 _ _ _ _)) ?_ | refine Ask.of (Gr.neqS rfl rfl rfl rfl (eqs28 _ _ _ _)) ?_ | refine Ask.of (Gr.eqlS rfl rfl rfl rfl (eqs188 _ _ _ _)) ?_ | refine Ask.of (Gr.neqS rfl rfl rfl rfl (eqs188 _ _ _ _)) ?_ | refine Ask.of (Gr.eqlS rfl rfl rfl rfl (eqs68 _ _ _ _ _ _ _ _)) ?_ | refine Ask.of (Gr.neqS rfl rfl rfl rfl (eqs68 _ _ _ _ _ _ _ _)) ?_ | refine lB ?_ | refine lBA ?_ | refine lM ?_ | refine lM0 ?_ | refine lMA ?_ | refine sM ?_ | refine nR ?_ | refine iR ?_ | refine lR ?_ | refine lR0 ?_ | refine lRA ?_ | refine zK ?_ | refine s1 ?_ | refine sA ?_ | refine LK.bsl rfl rfl rfl rfl ?_ | (refine LK.frzR 0 rfl ?_ <;> refine pF ?_) | refine pA ?_ | refine sR ?_ | refine zC ?_ | fail))
  ·conv => whnf
   have e : acc.getD k default = x := by
    cases hx : acc.getD k default
    cases x
    rw [hx] at h
    simp only at h
    simp only [Vi.mk.injEq]
    exact h
   have ha : addV acc x = acc := if_pos (by rw [← e]; exact getD_mem hk)
   refine .out _ (.cons _ (.cons _ (.refl _))) ⟨v, rfl, ?_⟩
   rw [ha]
   rfl
  ·refine ⟨hk, fun y hy => ?_⟩
   rw [List.take_succ_eq_append_getElem hk, List.mem_append] at hy
   rcases hy with hy | hy
   ·exact i2 y hy
   ·rw [← getD_at hk, List.mem_singleton] at hy
    subst hy
    rintro rfl
    simp at h
 ·have ha : addV acc x = acc ++ [x] := if_neg fun h' => i2 x (by rw [List.take_of_length_le (by omega)]; exact h') rfl
  repeat' ((conv => whnf) <;> (first | refine zM ?_ | refine zW ?_ | intro _ | exact zF | refine Br.tt ?_ | refine Br.ff ?_ | (refine Br.mk (fun h => ?_) (fun h => ?_) <;> (try simp only [sh] at h) <;> try first | (exfalso; omega) | exact absurd trivial h | (simp at h; done)) | refine zA ?_ | refine zN ?_ | refine zO ?_ | refine zP ?_ | refine zB ?_ | refine lB ?_ | refine lBA ?_ | refine zK ?_ | refine s1 ?_ | refine sA ?_ | refine pS ?_ | refine LK.gr (Gr.bslV rfl rfl rfl rfl) ?_ | refine Ask.of (Gr.bslV rfl rfl rfl rfl) ?_ | refine zC ?_ | refine zD ?_ | fail))
  rename_i A B C
  conv => whnf
  refine .out _ (.cons _ (.refl _)) ⟨.slice A B C, rfl, ?_⟩
  rw [ha, List.map_append]
  rfl
end Go.Proofs.YtjfnkmlnbaianaaGreat
