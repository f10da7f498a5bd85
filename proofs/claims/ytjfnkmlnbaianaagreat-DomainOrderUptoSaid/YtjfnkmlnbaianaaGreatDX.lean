/-
  Walks: law 19: rotated, DomainOrder.
  Conditions: those of each theorem.
-/
import Derived.Test.YtjfnkmlnbaianaaGreatDW
namespace Go.E2
open Go.RowKit
section
variable {P : Program} {T : Tr} {c : Ctx} {n : Cfg} {ops : Array Oper} {F : Fr} {L : List Ent} {d : Option Tmp} {ty : TypeId} {pos : String} {aft : Array Edge}
theorem flat_take {size : Nat} : ∀ (l : List AV) (q : Nat), (∀ x ∈ l, x.cells.length = size) → ((l.take q).flatMap AV.cells) = (l.flatMap AV.cells).take (q * size)
  | [], q, _ => by simp
  | a :: l, 0, _ => by simp
  | a :: l, q + 1, hq => by
    rw [List.take_succ_cons, List.flatMap_cons, List.flatMap_cons, flat_take l q fun x hx => hq x (by simp [hx]), List.take_append, hq a (by simp)]
    rw [List.take_of_length_le (l := a.cells) (by rw [hq a (by simp), Nat.succ_mul]; omega), Nat.succ_mul, Nat.add_sub_cancel]
/-- s[:j:j] of a row -/
theorem Gr.slcM {t e len cap kk m : Nat} {A : Option Addr} {x y z : Operand} {ty U : TypeId} {j : Int} {q q' : IntKind} {zz : Bool} {xs : List AV} (ht : SlcT P t e kk) (i : Nat) (hx : oget n F x = some (.v (.slice A len cap))) (hL : L[i]? = some (.row (.slice A len cap) U kk m zz xs)) (hz : oget n F z = some (.v (.int q j))) (hy : oget n F y = some (.v (.int q' j))) (h0 : 0 ≤ j) (h1 : j ≤ xs.length) (h2 : 0 < xs.length) :
    Gr P c n (.slice t x none (some z) (some y)) ty F L (.v (.slice A j.toNat j.toNat)) :=
  .pure fun H w ρ hs hr d pos aft _ => by
    obtain ⟨cap', cur, us, hv, hh, c1, c2, c3, _⟩ := row_at hs hL (by rintro rfl; simp at h2)
    injection hv with hv1 hv2 hv3
    subst hv3
    have c2 : j ≤ (cap : Int) := by omega
    have hrun : (execOp ρ ⟨d, .slice t x none (some z) (some y), ty, pos, aft, by assumption⟩).run P w = .ok (.value (.slice A j.toNat j.toNat)) w := by
      simp only [execOp, Option.map_some, Option.map_none, hr.v (x := x) (by simp [Op.operands]) hx, hr.v (x := z) (by simp [Op.operands]) hz, hr.v (x := y) (by simp [Op.operands]) hy, Instr.sliceAt, Instr.slice, Instr.sliceBounds, Instr.sliceBound, asIntOf]
      have hA : ∀ A : Option Addr, A.map (fun a : Addr => a.add 0) = A := fun A => by cases A <;> simp [Addr.add]
      simp [run_und ht.und, run_sizeOf' ht.size, c2, h0, hA]
      intro h
      omega
    exact ⟨_, hrun, .v _⟩
/-- append upon a slice without room, whose cells a row has: a new row -/
theorem Eff.appC [hT : TabOK P T] {t e U : TypeId} {size bytes m k len cap : Nat} {z : Bool} {s x : Operand} {A : Option Addr} {a : AV} {xs ys : List AV} (i : Nat) (hd : T.get t = some (.sl e size bytes)) (hL : L[i]? = some (.row (.slice A len cap) U size m z xs)) (hs : oget n F s = some (.v (.slice A k k))) (hx : oget n F x = some a)
    (hz : (Nat.blt 0 size && Nat.blt 0 bytes) = true) (hsb : Sb L a (.sl size ys)) (h1 : (ys.flatMap AV.cells).all AV.one = true) (h0 : 0 < xs.length) (hk : k ≤ xs.length) (hy : 0 < ys.length) (hb : (k + ys.length) * bytes ≤ 140737488355328) :
    Eff P c n ops ⟨d, .call ⟨.builtin .append, #[s, x], #[t, t]⟩, ty, pos, aft, none⟩ F L fun r L' => ∃ A' q cp, r = .v (.slice A' q cp) ∧ L' = .row (.slice A' q cp) e size 0 false (xs.take k ++ ys) :: L :=
  Eff.op fun G H w ac hag hst hF => by
    simp only [Bool.and_eq_true, Nat.blt_eq] at hz
    obtain ⟨i0, zz, q1, q2, q3, q4, q5, q6, q7, q8⟩ := ((tab_sl hT hd).2.2 hz.1 hz.2).parts
    have e1 := (hF.eval (by rw [← hag s (by simp [Op.operands, Call.operands])]; exact hs)).inv
    have hxr := hsb.rel hst (hF.eval (by rw [← hag x (by simp [Op.operands, Call.operands])]; exact hx))
    obtain ⟨A2, cap2, ex, g1, g2, g3⟩ := hxr.inv_sl
    obtain ⟨b, off, eA, hE⟩ := g3 (by rintro rfl; simp at hy)
    obtain ⟨hC, hcl2⟩ := hE.flat
    obtain ⟨news, hn1, hn2⟩ := hC.list
    have hnl : news.length = ys.length * size := by rw [← hn1.len, flat_len ys hcl2]
    have hcells : ∀ j u, news[j]? = some u → w.cell? ((⟨b, off, none⟩ : Addr).add j) = some u := fun j u hu => by
      rw [add_none]
      exact hst.hin _ _ _ (hn2 j u hu)
    obtain ⟨cap', cur, us, hv, hh, c1, c3, c4, hrel, hcl, hul⟩ := row_at hst hL (by rintro rfl; simp at h0)
    injection hv with v1 v2 v3
    generalize blkOf (.slice A len cap) = g at hh v1
    subst v1
    have holen : (us.take (k * size)).length = k * size := by
      rw [List.length_take, hul, Nat.min_eq_left (Nat.mul_le_mul_right _ hk)]
    have holds : ∀ j u, (us.take (k * size))[j]? = some u → w.cell? ((⟨g, 0, none⟩ : Addr).add j) = some u := fun j u hu => by
      rw [add_none, Nat.zero_add]
      rw [← c4] at hu
      have hu2 : cur.toList[j]? = some u := by
        rw [List.getElem?_take] at hu
        split at hu
        · rw [List.getElem?_take] at hu
          split at hu
          · exact hu
          · cases hu
        · cases hu
      simp [World.cell?, hh]
      simpa using hu2
    have hle : k + ys.length ≤ maxLen := by
      have : (k + ys.length) * 1 ≤ (k + ys.length) * bytes := Nat.mul_le_mul_left _ q8
      unfold maxLen
      omega
    have hr := run_append_grow (P := P) w t ty e i0 zz q1 q2 q3 ⟨g, 0, none⟩ k k (us.take (k * size)) (by rw [q4]; exact holen) holds ⟨b, off, none⟩ ys.length cap2 news (by rw [q4]; exact hnl) hcells (by omega) (by simp only [maxLen] at hle; omega) (growslice_fits (by omega) (by rw [q5]; exact hb))
    obtain ⟨v', w', h1', h2', h3'⟩ := run_append_arg_grows (P := P) w t ty e i0 zz size bytes q1 q2 q3 q4 q5 q6 q7 ⟨g, 0, none⟩ k k (us.take (k * size)) holen holds ⟨b, off, none⟩ ys.length cap2 news hnl hcells (by omega) hle hb
    have hr' := h1'
    rw [hr] at hr'
    injection hr' with r1 r2
    subst r1
    subst r2
    have hnew : St ⟨w, H⟩ H (w.drew.alloc (.cells ((us.take (k * size)).toArray ++ news.toArray ++ Builtin.zeroCells zz.cells (grownCap w (k + ys.length) k e - (k + ys.length))) e)) [.row (.slice (some ⟨w.heap.size, 0, none⟩) (k + ys.length) (grownCap w (k + ys.length) k e)) e size 0 false (xs.take k ++ ys)] := by
      refine ⟨(Below.refl _ _).drew.alloc (Nat.le_refl _) _, Cells.le_refl _, hin_heap hst.hin (fun b o u hu => heap_alloc_old w.drew _ (hst.hin.lt hu)), fun _ _ _ h _ => h, ?_, by simp, Nat.le_succ _⟩
      intro y hy'
      rw [List.mem_singleton] at hy'
      subst hy'
      refine ⟨us.take (k * size) ++ news, ?_, ?_, fun x hx => ?_, Nat.zero_le _, fun g' hg' o _ => ?_, fun h => by cases h⟩
      · have : (xs.take k ++ ys).length = k + ys.length := by rw [List.length_append, List.length_take, Nat.min_eq_left hk]
        rw [this]
        exact h2'
      · rw [List.flatMap_append, flat_take xs k hcl]
        exact (hrel.take _).append hn1
      · rcases List.mem_append.1 hx with hx | hx
        · exact hcl x (List.mem_of_mem_take hx)
        · exact hcl2 x hx
      · simp only [Value.ownBlock, Option.some.injEq] at hg'
        subst hg'
        cases hu : H w.heap.size o with
        | none => rfl
        | some u => have := hst.hin.lt hu; omega
    refine ⟨.value _, _, _, .v _, H, _, ?_, .inl rfl, Cells.le_refl _, hst.trans hnew, .v _, _, _, _, rfl, rfl⟩
    simp [execOp, resolve, invoke, builtin, e1, ex, eA, hr]
theorem Gr.slcMn {t e kk : Nat} {x y z : Operand} {ty : TypeId} {j : Int} {q q' : IntKind} (ht : SlcT P t e kk) (hx : oget n F x = some (.v (.slice none 0 0))) (hz : oget n F z = some (.v (.int q j))) (hy : oget n F y = some (.v (.int q' j))) (h0 : j = 0) :
    Gr P c n (.slice t x none (some z) (some y)) ty F L (.v (.slice none 0 0)) :=
  .pure fun H w ρ hs hr d pos aft _ => by
    subst h0
    have hrun : (execOp ρ ⟨d, .slice t x none (some z) (some y), ty, pos, aft, by assumption⟩).run P w = .ok (.value (.slice none 0 0)) w := by
      simp only [execOp, Option.map_some, Option.map_none, hr.v (x := x) (by simp [Op.operands]) hx, hr.v (x := z) (by simp [Op.operands]) hz, hr.v (x := y) (by simp [Op.operands]) hy, Instr.sliceAt, Instr.slice, Instr.sliceBounds, Instr.sliceBound, asIntOf]
      simp [run_und ht.und, run_sizeOf' ht.size]
    exact ⟨_, hrun, .v _⟩
end
end Go.E2
namespace Go.Proofs.YtjfnkmlnbaianaaGreat
open Go.E2 Go.Wage
/-- the clauses in another order, so far -/
def rotK (by1 : Int) (cs : List (List Lt)) : Nat → List (List Lt)
  | 0 => []
  | i + 1 => (rotK by1 cs i).take ((by1 + 3 * (i : Int)) % ((i : Int) + 1)).toNat ++ (cs.getD i default :: (rotK by1 cs i).drop ((by1 + 3 * (i : Int)) % ((i : Int) + 1)).toNat)
theorem rotK_len (by1 : Int) (cs : List (List Lt)) : ∀ i, (rotK by1 cs i).length = i
  | 0 => rfl
  | i + 1 => by
    have := rotK_len by1 cs i
    rw [rotK, List.length_append, List.length_cons, List.length_take, List.length_drop]
    omega
theorem rotK_mem (by1 : Int) (cs : List (List Lt)) (c : List Lt) : ∀ i, i ≤ cs.length → (c ∈ rotK by1 cs i ↔ c ∈ cs.take i)
  | 0, _ => by simp [rotK]
  | i + 1, h => by
    have ih := rotK_mem by1 cs c i (by omega)
    rw [List.take_succ_eq_append_getElem (by omega), ← getD_at' (by omega), List.mem_append, List.mem_singleton, ← ih, rotK, List.mem_append, List.mem_cons]
    have key : ∀ k, c ∈ rotK by1 cs i ↔ c ∈ (rotK by1 cs i).take k ∨ c ∈ (rotK by1 cs i).drop k := fun k => by
      rw [← List.mem_append, List.take_append_drop]
    rw [key ((by1 + 3 * (i : Int)) % ((i : Int) + 1)).toNat]
    constructor
    · rintro (h | h | h)
      · exact .inl (.inl h)
      · exact .inr h
      · exact .inl (.inr h)
    · rintro ((h | h) | h)
      · exact .inl h
      · exact .inr (.inr h)
      · exact .inr (.inl h)
theorem one_clO : ∀ cs : List (List Lt), ((clO cs).flatMap AV.cells).all AV.one = true
  | [] => rfl
  | c :: cs => by rw [clO, List.map_cons, List.flatMap_cons, List.all_append]; exact one_clO cs
theorem one_cls (l : List (List Lt)) (c : List Lt) (k : Nat) : (([AV.sl 3 (c.map ltav)] ++ (clO l).drop k).flatMap AV.cells).all AV.one = true := by
  have := one_clO (c :: l.drop k)
  rw [clO, List.map_cons, List.map_drop] at this
  exact this
theorem one_drp (l : List (List Lt)) (k : Nat) : (((clO l).drop k).flatMap AV.cells).all AV.one = true := by
  have := one_clO (l.drop k)
  rw [clO, List.map_drop] at this
  exact this
theorem rotK_clO {by1 : Int} {cs : List (List Lt)} {i : Nat} (h : (clO (rotK by1 cs i)).length = i) : List.take ((by1 + 3 * (i : Int)) % (((clO (rotK by1 cs i)).length : Int) + 1)).toNat (clO (rotK by1 cs i)) ++ ([AV.sl 3 ((cs.getD i default).map ltav)] ++ List.drop ((by1 + 3 * (i : Int)) % (((clO (rotK by1 cs i)).length : Int) + 1)).toNat (clO (rotK by1 cs i))) = clO (rotK by1 cs (i + 1)) := by
  rw [h, rotK, clO, clO, List.map_append, List.map_cons, List.map_take, List.map_drop]
  rfl
theorem rotK_one (by1 : Int) (cs : List (List Lt)) : clO (rotK by1 cs 0) ++ ([AV.sl 3 ((cs.getD 0 default).map ltav)] ++ []) = clO (rotK by1 cs 1) := by simp [rotK, clO]
set_option maxRecDepth 4000 in
set_option maxHeartbeats 8000000 in
theorem nrot_raw (cs : List (List Lt)) (by1 : Int) (hb : 0 ≤ by1 ∧ by1 ≤ 255) (hc : cs.length ≤ 1000) : FnE Tryz.prog 22 [.sl 1 (clO cs), U8 by1] fun r E => ∃ v m z, r = .v v ∧ E = [.row v 34 1 m z (clO (rotK by1 cs cs.length))] := by
  have hcl : (clO cs).length = cs.length := by simp
  refine fn_run (T := tab) Tryz.func22 rfl Tryz.ntmps22 rfl Tryz.results22 (fun _ => ?_)
  repeat' ((conv => whnf) <;> (first | refine zM ?_ | refine zW ?_ | intro _ | exact zF | refine Br.tt ?_ | refine Br.ff ?_ | (refine Br.mk (fun h => ?_) (fun h => ?_) <;> (try simp only [sh] at h) <;> try first | (exfalso; omega) | exact absurd trivial h | (simp at h; done)) | refine zA ?_ | refine zN ?_ | refine zO ?_ | refine zP ?_ | refine zB ?_ | refine zR ?_ | refine Rem.t Qw ?_ | refine lB ?_ | refine lBA ?_ | refine zK ?_ | refine s1 ?_ | refine sA ?_ | refine zC ?_ | fail))
  conv => whnf
  refine CK.nilrow 34 1 ?_
  refine CK.frzR 0 rfl ?_
  (conv => whnf); refine CK.loopK [5, 6, 7, 8, 11, 12, 13, 14, 15, 16, 17, 18, 19, 20, 21, 22, 23, 24, 25, 26, 27, 28, 29, 30, 31, 32, 33, 34, 35, 36] (σ := Nat × Option Addr × Nat × Nat) (fun s => s.1 ≤ cs.length ∧ (s.1 = 0 → s.2 = (none, 0, 0))) (fun ⟨i, A, q, cp⟩ => [(11, I i), (5, .v (.slice A q cp))]) (fun ⟨i, A, q, cp⟩ => [.row (.slice A q cp) 34 1 (clO (rotK by1 cs i)).length true (clO (rotK by1 cs i))]) [] (fun s => cs.length - s.1) (0, none, 0, 0) ⟨Nat.zero_le _, fun _ => rfl⟩ Qy Qs ?_
  conv => whnf
  rintro ⟨i, A, q, cp⟩ ⟨i1, i2⟩
  simp only at i1 i2
  have hrl : (clO (rotK by1 cs i)).length = i := by rw [List.length_map, rotK_len]
  by_cases hi : i < cs.length
  · have hK : 0 ≤ (by1 + 3 * (i : Int)) % (((clO (rotK by1 cs i)).length : Int) + 1) ∧ (by1 + 3 * (i : Int)) % (((clO (rotK by1 cs i)).length : Int) + 1) ≤ i := by
      have h1 := Int.emod_nonneg (by1 + 3 * (i : Int)) (b := ((clO (rotK by1 cs i)).length : Int) + 1) (by omega)
      have h2 := Int.emod_lt_of_pos (by1 + 3 * (i : Int)) (b := ((clO (rotK by1 cs i)).length : Int) + 1) (by omega)
      omega
    by_cases h0 : i = 0
    · subst h0
      have e := i2 rfl
      simp only [Prod.mk.injEq] at e
      obtain ⟨rfl, rfl, rfl⟩ := e
      have hK0 : (by1 + 3 * ((0 : Nat) : Int)) % (((clO (rotK by1 cs 0)).length : Int) + 1) = 0 := by omega
      repeat' ((conv => whnf) <;> (first | (refine Kx.frzR 0 rfl ?_ <;> refine Kx.eff rfl (Eff.appS (T := tab) 1 rfl rfl rfl rfl rfl (Sb.row 0 rfl) rfl (by simp [rotK])) (by rintro _ _ ⟨_, _, _, rfl, rfl⟩; exact Qs) ?_ <;> rintro _ _ ⟨A2, q2, c2, rfl, rfl⟩) | (refine Kx.eff rfl (Eff.appS (T := tab) 0 rfl rfl rfl rfl rfl Qb rfl (by simp)) (by rintro _ _ ⟨_, _, _, rfl, rfl⟩; exact Qs) ?_ <;> rintro _ _ ⟨A1, q1, c1, rfl, rfl⟩) | (refine Kx.eff rfl (Eff.bsl (T := tab) (ps := [(0, .sl 3 ((cs.getD 0 default).map ltav))]) rfl rfl rfl rfl) (by rintro _ _ ⟨_, rfl, rfl⟩; exact Qs) ?_ <;> rintro _ _ ⟨v0, rfl, rfl⟩) | refine Ask.of (Gr.ofEq (r' := .sl 1 []) (Gr.slcL (xs := []) (tab_sl tabOK rfl).1 rfl Sb.nil rfl hK.1 (by simp only [List.length_nil]; omega)) (by rw [List.drop_nil])) ?_ | refine Ask.of (Gr.slcMn (tab_sl tabOK rfl).1 rfl rfl rfl hK0) ?_ | refine CK.anyK (id := 6) [0, 1, 2, 3, 4, 6, 7, 8] [5, 9, 10, 11] _ (List.Sublist.cons _ (List.Sublist.refl _)) Qk ?_ | refine nR (T := tab) ?_ | refine zM ?_ | refine zW ?_ | intro _ | exact zF | refine Br.tt ?_ | refine Br.ff ?_ | (refine Br.mk (fun h => ?_) (fun h => ?_) <;> (try simp only [sh] at h) <;> try first | (exfalso; omega) | exact absurd trivial h | (simp at h; done)) | refine zA ?_ | refine zN ?_ | refine zO ?_ | refine zP ?_ | refine zB ?_ | refine zR ?_ | refine Rem.t Qw ?_ | refine lB ?_ | refine lBA ?_ | refine zK ?_ | refine s1 ?_ | refine sA ?_ | refine Kx.nil ?_ | refine Kx.stp rfl rfl Qs ?_ | refine kA ?_ | (refine Kx.frzR 0 rfl ?_ <;> refine kF ?_) | refine kP ?_ | refine k1 ?_ | refine kB ?_ | refine kL ?_ | refine zC ?_ | fail))
      (conv => whnf); (refine Nxt.frzR 1 rfl ?_ <;> refine Nxt.of ((1, A2, q2, c2)) [5, 6, 7, 8, 11, 12, 13, 14, 15, 16, 17, 18, 19, 20, 21, 22, 23, 24, 25, 26, 27, 28, 29, 30, 31, 32, 33, 34, 35, 36] Qr Qr Qr ?_ ?_ Qy ?_ <;> (try dsimp only) <;> (try omega))
      rw [rotK_one]
      exact Qs
    · repeat' ((conv => whnf) <;> (first | (refine Kx.frzR 0 rfl ?_ <;> refine Kx.eff rfl (Eff.appC (T := tab) 1 rfl rfl rfl rfl rfl (Sb.row 0 rfl) (one_cls _ _ _) (by omega) (by omega) (by simp) (by simp only [List.length_append, List.length_drop, List.length_cons, List.length_nil]; omega)) (by rintro _ _ ⟨_, _, _, rfl, rfl⟩; exact Qs) ?_ <;> rintro _ _ ⟨A2, q2, c2, rfl, rfl⟩) | (refine Kx.eff rfl (Eff.appS (T := tab) 0 rfl rfl rfl rfl rfl Qb (one_drp _ _) (by simp only [List.length_drop, List.length_cons, List.length_nil]; omega)) (by rintro _ _ ⟨_, _, _, rfl, rfl⟩; exact Qs) ?_ <;> rintro _ _ ⟨A1, q1, c1, rfl, rfl⟩) | (refine Kx.eff rfl (Eff.bsl (T := tab) (ps := [(0, .sl 3 ((cs.getD i default).map ltav))]) rfl rfl rfl rfl) (by rintro _ _ ⟨_, rfl, rfl⟩; exact Qs) ?_ <;> rintro _ _ ⟨v0, rfl, rfl⟩) | refine Ask.of (Gr.slcL (tab_sl tabOK rfl).1 rfl (Sb.row 0 rfl) rfl hK.1 (by omega)) ?_ | refine Ask.of (Gr.slcM (tab_sl tabOK rfl).1 0 rfl rfl rfl rfl hK.1 (by omega) (by omega)) ?_ | refine CK.anyK (id := 6) [0, 1, 2, 3, 4, 6, 7, 8] [5, 9, 10, 11] _ (List.Sublist.refl _) Qk ?_ | refine nR (T := tab) ?_ | refine zM ?_ | refine zW ?_ | intro _ | exact zF | refine Br.tt ?_ | refine Br.ff ?_ | (refine Br.mk (fun h => ?_) (fun h => ?_) <;> (try simp only [sh] at h) <;> try first | (exfalso; omega) | exact absurd trivial h | (simp at h; done)) | refine zA ?_ | refine zN ?_ | refine zO ?_ | refine zP ?_ | refine zB ?_ | refine zR ?_ | refine Rem.t Qw ?_ | refine lB ?_ | refine lBA ?_ | refine zK ?_ | refine s1 ?_ | refine sA ?_ | refine Kx.nil ?_ | refine Kx.stp rfl rfl Qs ?_ | refine kA ?_ | (refine Kx.frzR 0 rfl ?_ <;> refine kF ?_) | refine kP ?_ | refine k1 ?_ | refine kB ?_ | refine kL ?_ | refine zC ?_ | fail))
      (conv => whnf); (refine Nxt.frzR 0 rfl ?_ <;> refine Nxt.of ((i + 1, A2, q2, c2)) [5, 6, 7, 8, 11, 12, 13, 14, 15, 16, 17, 18, 19, 20, 21, 22, 23, 24, 25, 26, 27, 28, 29, 30, 31, 32, 33, 34, 35, 36] Qr Qr Qr ?_ ?_ Qy ?_ <;> (try dsimp only) <;> (try omega))
      rw [rotK_clO hrl]
      exact Qs
  · obtain rfl : i = cs.length := by omega
    repeat' ((conv => whnf) <;> (first | refine zM ?_ | refine zW ?_ | intro _ | exact zF | refine Br.tt ?_ | refine Br.ff ?_ | (refine Br.mk (fun h => ?_) (fun h => ?_) <;> (try simp only [sh] at h) <;> try first | (exfalso; omega) | exact absurd trivial h | (simp at h; done)) | refine zA ?_ | refine zN ?_ | refine zO ?_ | refine zP ?_ | refine zB ?_ | refine zR ?_ | refine Rem.t Qw ?_ | refine lB ?_ | refine lBA ?_ | refine zK ?_ | refine s1 ?_ | refine sA ?_ | refine zC ?_ | fail))
    conv => whnf
    exact .out _ (by exact List.Sublist.refl _) ⟨_, _, _, rfl, rfl⟩
theorem nrot_ok (cs : List (List Lt)) (by1 : Int) (hb : 0 ≤ by1 ∧ by1 ≤ 255) (hc : cs.length ≤ 1000) : FnA Tryz.prog 22 [.sl 1 (clO cs), U8 by1] (.sl 1 (clO (rotK by1 cs cs.length))) := by
  refine FnE.turn (nrot_raw cs by1 hb hc) ?_
  rintro _ _ ⟨v, m, z, rfl, rfl⟩
  refine ⟨_, [], ⟨rfl, rfl⟩, fun c H w h0 => ?_⟩
  obtain ⟨H1, l1, s1⟩ := h0.freezeRow (i := 0) rfl
  exact ⟨H1, l1, s1.sub (List.nil_sublist _), fun v hr => Sb.rel s1 (.row 0 rfl) hr⟩
set_option maxRecDepth 4000 in
set_option maxHeartbeats 8000000 in
theorem nOrder_all (cs : List (List Lt)) (given : List Lt) (by1 : Int) (hb : 0 ≤ by1 ∧ by1 ≤ 255) (hf : fewN cs given ≤ 2000000) : FnA Tryz.prog 6 [.sl 1 (clO cs), .sl 3 (given.map ltav), U8 by1] (B true) := by
  have c0 := nHead_ok
  have c2 := nfew_ok cs given hf
  have hgl : (given.map ltav).length = given.length := by simp
  by_cases hw : fewN cs given ≤ 300
  · rw [decide_eq_true hw] at c2
    obtain ⟨f1, f2, f3⟩ := few_parts hw
    have c3 := ncons_ok given (by omega)
    by_cases hc : consB given = true
    · rw [hc] at c3
      have hrm : ∀ c, c ∈ rotK by1 cs cs.length ↔ c ∈ cs := fun c => by
        have := rotK_mem by1 cs c cs.length (Nat.le_refl _)
        rwa [List.take_length] at this
      have hrl := rotK_len by1 cs cs.length
      have k1 := dmUnit_ok cs given (by omega) (fun c hc => by have := f3 c hc; omega) (by omega)
      have k4 := nrot_ok cs by1 hb (by omega)
      have k2 := dmUnit_ok (rotK by1 cs cs.length) given (by omega) (fun c hc => by have := f3 c ((hrm c).1 hc); omega) (by omega)
      have ho := unit_order (cs := cs) (cs' := rotK by1 cs cs.length) (g := given) hrm (consB_iff.1 hc)
      have hg1 := unit_ge cs given
      have hg2 := unit_ge (rotK by1 cs cs.length) given
      have hu1 := unit_len cs given
      have hu2 := unit_len (rotK by1 cs cs.length) given
      generalize (unitU (rotK by1 cs cs.length) given).1 = o2 at *
      generalize (unitU (rotK by1 cs cs.length) given).2 = a2 at *
      generalize (unitU cs given).1 = o1 at *
      generalize (unitU cs given).2 = a1 at *
      have k5 := nwithin_ok o1 o2 (by omega) (by omega)
      have k6 := nwithin_ok o2 o1 (by omega) (by omega)
      refine fn_run (T := tab) Tryz.func6 rfl Tryz.ntmps6 rfl Tryz.results6 (fun _ => ?_)
      repeat' ((conv => whnf) <;> (first | refine zM ?_ | refine zW ?_ | intro _ | exact zF | refine Br.tt ?_ | refine Br.ff ?_ | (refine Br.mk (fun h => ?_) (fun h => ?_) <;> (try simp only [sh] at h) <;> try first | (exfalso; omega) | exact absurd trivial h | (simp at h; done)) | refine zA ?_ | refine zN ?_ | refine zO ?_ | refine zP ?_ | refine zB ?_ | refine zR ?_ | refine Rem.t Qw ?_ | refine zL ent10 c0 ?_ | refine zG ent10 (fun h => c0) ?_ | refine zL ent12 c2 ?_ | refine zG ent12 (fun h => c2) ?_ | refine zL ent21 c3 ?_ | refine zG ent21 (fun h => c3) ?_ | refine zL ent13 k1 ?_ | refine zG ent13 (fun h => k1) ?_ | refine zL ent13 k2 ?_ | refine zG ent13 (fun h => k2) ?_ | refine zL ent22 k4 ?_ | refine zG ent22 (fun h => k4) ?_ | refine zL ent23 k5 ?_ | refine zG ent23 (fun h => k5) ?_ | refine zL ent23 k6 ?_ | refine zG ent23 (fun h => k6) ?_ | refine lB ?_ | refine lBA ?_ | refine zK ?_ | refine s1 ?_ | refine sA ?_ | refine zC ?_ | exact True.intro | fail))
      conv => whnf
      refine .out _ (by exact List.nil_sublist _) ⟨congrArg B ?_, rfl⟩
      by_cases ha : a1 = -1
      · have ha2 := ho.1.1 ha
        obtain ⟨g1, g2⟩ := ho.2 ha
        rw [withB_of fun l h => (g2 l).1 h, withB_of fun l h => (g2 l).2 h, decide_eq_true (p := a1 < 0) (by omega), decide_eq_true (p := a2 < 0) (by omega), List.length_map, List.length_map, decide_eq_true (p := (o1.length : Int) = o2.length) (by omega)]
        simp
      · have ha2 : ¬ a2 = -1 := fun h => ha (ho.1.2 h)
        rw [decide_eq_false (p := a1 < 0) (by omega), decide_eq_false (p := a2 < 0) (by omega), decide_eq_true (p := 0 ≤ a1) (by omega)]
        simp
    · rw [Bool.eq_false_iff.2 hc] at c3
      refine fn_run (T := tab) Tryz.func6 rfl Tryz.ntmps6 rfl Tryz.results6 (fun _ => ?_)
      repeat' ((conv => whnf) <;> (first | refine zM ?_ | refine zW ?_ | intro _ | exact zF | refine Fin.pure ?_ | refine Br.tt ?_ | refine Br.ff ?_ | (refine Br.mk (fun h => ?_) (fun h => ?_) <;> (try simp only [sh] at h) <;> try first | (exfalso; omega) | exact absurd trivial h | (simp at h; done)) | refine zA ?_ | refine zN ?_ | refine zO ?_ | refine zP ?_ | refine zB ?_ | refine zR ?_ | refine Rem.t Qw ?_ | refine zL ent10 c0 ?_ | refine zG ent10 (fun h => c0) ?_ | refine zL ent12 c2 ?_ | refine zG ent12 (fun h => c2) ?_ | refine zL ent21 c3 ?_ | refine zG ent21 (fun h => c3) ?_ | refine lB ?_ | refine lBA ?_ | refine zK ?_ | refine s1 ?_ | refine sA ?_ | refine zC ?_ | exact True.intro | fail))
  · rw [decide_eq_false hw] at c2
    refine fn_run (T := tab) Tryz.func6 rfl Tryz.ntmps6 rfl Tryz.results6 (fun _ => ?_)
    repeat' ((conv => whnf) <;> (first | refine zG ent21 (as2 := [.sl 3 (given.map ltav)]) (r := B true) (fun h => absurd h (by decide)) ?_ | refine zM ?_ | refine zW ?_ | intro _ | exact zF | refine Fin.pure ?_ | refine Br.tt ?_ | refine Br.ff ?_ | (refine Br.mk (fun h => ?_) (fun h => ?_) <;> (try simp only [sh] at h) <;> try first | (exfalso; omega) | exact absurd trivial h | (simp at h; done)) | refine zA ?_ | refine zN ?_ | refine zO ?_ | refine zP ?_ | refine zB ?_ | refine zR ?_ | refine Rem.t Qw ?_ | refine zL ent10 c0 ?_ | refine zG ent10 (fun h => c0) ?_ | refine zL ent12 c2 ?_ | refine zG ent12 (fun h => c2) ?_ | refine lB ?_ | refine lBA ?_ | refine zK ?_ | refine s1 ?_ | refine sA ?_ | refine zC ?_ | exact True.intro | fail))
end Go.Proofs.YtjfnkmlnbaianaaGreat
