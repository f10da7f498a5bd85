/-
  Texts DL, DP.
  Conditions: those of each theorem.
-/
import Derived.Test.YtjfnkmlnbaianaaGreatDO
import Derived.Test.YtjfnkmlnbaianaaGreatRF3
namespace Go.Proofs.YtjfnkmlnbaianaaGreat
open Go.E2 Go.Wage
set_option maxRecDepth 4000 in
set_option maxHeartbeats 8000000 in
theorem g9bad_ok (p : Pl) (hv : validP p = true) (hs : Small p) (w : Nat) (hw : w < p.workers.length) (ds : List Nat) (hd : ∀ d ∈ ds, d < p.duties.length) (hl : ds.length ≤ 1000) :
  FnA Tryz.prog 41 [.agg (pcs p), I w, .sl 1 (ds.map In)] (B (badW p w ds)) := by
 have hsd := hs.du
 have hld : (p.duties.map duav).length = p.duties.length := by simp
 have hdl : (ds.map In).length = ds.length := by simp
 have hro := putR_isRo hw ds
 have hok : okRo p (putR p.duties.length w ds) = true := by unfold okRo; rw [hv, hro]; rfl
 have c1 := v8Bad_ok p (putR p.duties.length w ds) hs (by rw [putR_len]; omega)
 rw [if_pos hok, if_pos hok] at c1
 have hbl := badP_le hv (putR_len p.duties.length w ds)
 have hlb : ((badP p (putR p.duties.length w ds)).map viav).length = (badP p (putR p.duties.length w ds)).length := by simp
 refine fn_run (T := tab) Tryz.func41 rfl Tryz.ntmps41 rfl Tryz.results41 (fun _ => ?_)
 repeat' ((conv => whnf) <;> (first | refine nR (T := tab) ?_ | (refine LK.eff (Eff.mkS (T := tab) (N := p.duties.length) (z := .int .i64 0) rfl rfl rfl rfl (congrArg (fun q : Nat => some (I (q : Int))) hld) (by omega)) ?_ <;> rintro _ _ ⟨A1, B1, C1, rfl, rfl⟩) | refine zM ?_ | refine zW ?_ | intro _ | exact zF | refine Br.tt ?_ | refine Br.ff ?_ | (refine Br.mk (fun h => ?_) (fun h => ?_) <;> (try simp only [sh] at h) <;> try first | (exfalso; omega) | exact absurd trivial h | (simp at h; done)) | refine zA ?_ | refine zN ?_ | refine zO ?_ | refine zP ?_ | refine zB ?_ | refine lB ?_ | refine lBA ?_ | refine zK ?_ | refine s1 ?_ | refine sA ?_ | refine zC ?_ | fail))
 rename_i b
 (conv => whnf); refine CK.loopK [8, 16, 17, 18, 19, 20, 21, 22, 23, 24] (σ := Nat) (fun i => i ≤ p.duties.length) (fun i => [(8, I i)]) (fun i => [Ro (.slice A1 B1 C1) (negI p.duties.length i), .blk b 32 false (pcs p)]) [] (fun i => p.duties.length - i) 0 (Nat.zero_le _) Qy (by
  have e : (negI p.duties.length 0).map I = List.replicate p.duties.length (AV.v (.int .i64 0)) := by unfold negI; rw [List.replicate_zero, List.nil_append, List.map_replicate, Nat.sub_zero]
  dsimp only [Ro]
  rw [e]
  exact Qs) ?_
 conv => whnf
 rintro i hi
 have hn0 := negI_len (n := p.duties.length) (i := i) hi
 have hn1 : ((negI p.duties.length i).map I).length = p.duties.length := by rw [List.length_map, hn0]
 by_cases hin : i < p.duties.length
 ·have hst := set_Id (negI p.duties.length i) (i : Int).toNat (-1)
  repeat' ((conv => whnf) <;> (first | refine LK.stRM (a := (i : Int).toNat) (j := 0) 0 rfl rfl rfl rfl rfl (Nat.zero_le _) (by omega) rfl rfl ?_ | refine iR (T := tab) ?_ | refine nR (T := tab) ?_ | refine zM ?_ | refine zW ?_ | intro _ | exact zF | refine Br.tt ?_ | refine Br.ff ?_ | (refine Br.mk (fun h => ?_) (fun h => ?_) <;> (try simp only [sh] at h) <;> try first | (exfalso; omega) | exact absurd trivial h | (simp at h; done)) | refine zA ?_ | refine zN ?_ | refine zO ?_ | refine zP ?_ | refine zB ?_ | refine lB ?_ | refine lBA ?_ | refine zK ?_ | refine s1 ?_ | refine sA ?_ | refine zC ?_ | fail))
  (conv => whnf); (refine Nxt.of (i + 1) [8, 16, 17, 18, 19, 20, 21, 22, 23, 24] Qr Qr Qr ?_ ?_ Qy ?_ <;> (try dsimp only) <;> (try omega))
  rw [hst, Int.toNat_natCast, negI_set hin]
  exact Qs
 ·obtain rfl : i = p.duties.length := by omega
  repeat' ((conv => whnf) <;> (first | refine nR (T := tab) ?_ | refine zM ?_ | refine zW ?_ | intro _ | exact zF | refine Br.tt ?_ | refine Br.ff ?_ | (refine Br.mk (fun h => ?_) (fun h => ?_) <;> (try simp only [sh] at h) <;> try first | (exfalso; omega) | exact absurd trivial h | (simp at h; done)) | refine zA ?_ | refine zN ?_ | refine zO ?_ | refine zP ?_ | refine zB ?_ | refine lB ?_ | refine lBA ?_ | refine zK ?_ | refine s1 ?_ | refine sA ?_ | refine zC ?_ | fail))
  (conv => whnf); refine CK.loopK [9, 25, 26, 27, 28, 29, 30, 31, 32, 33, 34, 35, 36, 37] (σ := Nat) (fun k => k ≤ ds.length) (fun k => [(9, I k)]) (fun k => [Ro (.slice A1 B1 C1) (putR p.duties.length w (ds.take k)), .blk b 32 false (pcs p)]) [] (fun k => ds.length - k) 0 (Nat.zero_le _) Qy (by
   rw [List.take_zero, putR_nil]
   exact Qs) ?_
  conv => whnf
  rintro k hk
  have hp0 := putR_len p.duties.length w (ds.take k)
  have hp1 : ((putR p.duties.length w (ds.take k)).map I).length = p.duties.length := by rw [List.length_map, hp0]
  by_cases hkl : k < ds.length
  ·have hdk := hd (ds.getD k default) (by rw [getD_at' hkl]; exact List.getElem_mem _)
   have hst := set_Id (putR p.duties.length w (ds.take k)) ((ds.getD k default : Nat) : Int).toNat (w : Int)
   repeat' ((conv => whnf) <;> (first | refine LK.stRM (a := ((ds.getD k default : Nat) : Int).toNat) (j := 0) 0 rfl rfl rfl rfl rfl (Nat.zero_le _) (by omega) rfl rfl ?_ | refine iR (T := tab) ?_ | refine zM ?_ | refine zW ?_ | intro _ | exact zF | refine Br.tt ?_ | refine Br.ff ?_ | (refine Br.mk (fun h => ?_) (fun h => ?_) <;> (try simp only [sh] at h) <;> try first | (exfalso; omega) | exact absurd trivial h | (simp at h; done)) | refine zA ?_ | refine zN ?_ | refine zO ?_ | refine zP ?_ | refine zB ?_ | refine lB ?_ | refine lBA ?_ | refine zK ?_ | refine s1 ?_ | refine sA ?_ | refine zC ?_ | fail))
   (conv => whnf); (refine Nxt.of (k + 1) [9, 25, 26, 27, 28, 29, 30, 31, 32, 33, 34, 35, 36, 37] Qr Qr Qr ?_ ?_ Qy ?_ <;> (try dsimp only) <;> (try omega))
   rw [hst, Int.toNat_natCast, take_snocD hkl, putR_snoc]
   exact Qs
  ·obtain rfl : k = ds.length := by omega
   rw [List.take_length]
   repeat' ((conv => whnf) <;> (first | (refine LK.frzR 0 rfl ?_ <;> refine LK.see 40 rfl (Sb.row 0 rfl) ?_ <;> refine LK.callA ent62 c1 rfl rfl Ql ?_) | refine zM ?_ | refine zW ?_ | intro _ | exact zF | refine Br.tt ?_ | refine Br.ff ?_ | (refine Br.mk (fun h => ?_) (fun h => ?_) <;> (try simp only [sh] at h) <;> try first | (exfalso; omega) | exact absurd trivial h | (simp at h; done)) | refine zA ?_ | refine zN ?_ | refine zO ?_ | refine zP ?_ | refine zB ?_ | refine lB ?_ | refine lBA ?_ | refine zK ?_ | refine s1 ?_ | refine sA ?_ | refine zC ?_ | fail))
   conv => whnf
   refine .out _ (by exact List.nil_sublist _) ⟨congrArg B ?_, rfl⟩
   rw [Bool.eq_iff_iff, decide_eq_true_eq, hlb]
   have hb := bad_put hw ds
   constructor
   ·intro h
    cases hx : badW p w ds with
    | true => rfl
    | false => rw [hb.2 hx] at h; simp at h
   ·intro h
    have : badP p (putR p.duties.length w ds) ≠ [] := fun e => by rw [hb.1 e] at h; cases h
    have := List.length_pos_iff.2 this
    omega
end Go.Proofs.YtjfnkmlnbaianaaGreat
namespace Go.E2
variable {P : Program} {T : Tr} {c : Ctx} {n : Cfg} {ops : Array Oper} {F : Fr} {L : List Ent} {d : Option Tmp} {ty : TypeId} {pos : String} {aft : Array Edge}
theorem Eff.stG [TabOK P T] {t U : TypeId} {x y : Operand} {v : Value} {a m : Nat} {z : Bool} {xs : List AV} {p r : AV} {td : TD} (i : Nat) (hd : T.get t = some td) (hL : L[i]? = some (.row v U 1 m z xs)) (hx : oget n F x = some (.v (.pointer (some ⟨blkOf v, a * 1, none⟩)))) (hy : oget n F y = some r)
  (h1 : (match td with | .no => false | .st _ _ _ => false | .arr _ _ _ _ => false | _ => true) = true) (hm : m ≤ a) (hp : xs[a]? = some p) (hj : Nat.blt 0 p.cells.length = true) (hu : r.one = true) :
  Eff P c n ops ⟨d, .store t x y, ty, pos, aft, none⟩ F L fun q L' => q = .v undef ∧ L' = L.set i (.row v U 1 m false (xs.set a (p.setCell 0 r))) :=
 ⟨fun G Q hag hk => Lx.stR (j := 0) (load_one hd (by rintro rfl; cases h1) (by rintro _ _ _ rfl; cases h1) (by rintro _ _ _ _ rfl; cases h1)) rfl (by rw [← look_op hag (by simp [Op.operands])]; exact hx) (by rw [← look_op hag (by simp [Op.operands])]; exact hy) i hL hm hp hj hu (hk _ _ ⟨rfl, rfl⟩)⟩
end Go.E2
namespace Go.Proofs.YtjfnkmlnbaianaaGreat
open Go.E2 Go.Wage
def aloT (p : Pl) (u d : Nat) : List Bool := (List.range d).map fun d => badW p u [d]
theorem aloT_len (p : Pl) (u d : Nat) : ((aloT p u d).map B).length = d := by simp [aloT]
theorem aloT_succ (p : Pl) (u d : Nat) : (aloT p u (d + 1)).map B = (aloT p u d).map B ++ [B (badW p u [d])] := by
 unfold aloT
 rw [List.range_succ, List.map_append, List.map_append]
 rfl
theorem aloT_get (p : Pl) (u d : Nat) : ((aloT p u d).map B ++ [B (badW p u [d])])[d]? = some (B (badW p u [d])) := by
 rw [List.getElem?_append_right (by rw [aloT_len]; exact Nat.le_refl _), aloT_len, Nat.sub_self]
 rfl
theorem set_same {l : List AV} {i : Nat} {a : AV} (h : l[i]? = some a) : l.set i a = l := by
 apply List.ext_getElem?
 intro j
 rw [List.getElem?_set]
 by_cases e : i = j
 ·subst e
  rw [if_pos rfl]
  have := (List.getElem?_eq_some_iff.1 h).1
  rw [if_pos this, h]
 ·rw [if_neg e]
set_option maxRecDepth 4000 in
set_option maxHeartbeats 8000000 in
theorem g9Base_raw (p : Pl) (hs : Small p) (hv : validP p = true) (hn : p.duties.length ≤ 100) (hm : p.workers.length ≤ 100) : FnE Tryz.prog 17 [.agg (pcs p)] fun r E => ∃ v, r = .v v ∧ E = [Lg v (baseP p)] := by
 have hsd := hs.du
 have hsw := hs.wk
 have hld : (p.duties.map duav).length = p.duties.length := by simp
 have hlw : (p.workers.map wkav).length = p.workers.length := by simp
 have hmm : p.workers.length * p.workers.length ≤ 100 * 100 := Nat.mul_le_mul hm hm
 have c0 := v8Valid_ok p hs
 rw [hv] at c0
 refine fn_run (T := tab) Tryz.func17 rfl Tryz.ntmps17 rfl Tryz.results17 (fun _ => ?_)
 repeat' ((conv => whnf) <;> (first | refine zM ?_ | refine zW ?_ | intro _ | exact zF | refine Br.tt ?_ | refine Br.ff ?_ | (refine Br.mk (fun h => ?_) (fun h => ?_) <;> (try simp only [sh] at h) <;> try first | (exfalso; omega) | exact absurd trivial h | (simp at h; done)) | refine zA ?_ | refine zN ?_ | refine zO ?_ | refine zP ?_ | refine zB ?_ | refine zL ent24 c0 ?_ | refine zG ent24 (fun h => c0) ?_ | refine lB ?_ | refine lBA ?_ | refine zK ?_ | refine s1 ?_ | refine sA ?_ | refine zC ?_ | fail))
 rename_i b
 conv => whnf
 refine CK.nilrow 57 3 ?_
 (conv => whnf); refine CK.loopK [3, 4, 5, 6, 19, 20, 21, 22, 23, 24, 25, 26, 27, 28, 29, 30, 31, 32, 33, 34, 35, 36, 37, 38, 39, 40, 41, 42, 43] (σ := Nat × Value) (fun s => s.1 ≤ p.duties.length) (fun ⟨d, v⟩ => [(4, I d), (3, .v v)]) (fun ⟨d, v⟩ => [Lg v (seqL (fun d => [⟨yesS d p.workers.length, 1, []⟩]) d), .blk b 32 false (pcs p)]) [] (fun s => p.duties.length - s.1) (0, .slice none 0 0) (Nat.zero_le _) Qy (List.Sublist.refl _) ?_
 conv => whnf
 rintro ⟨d, v⟩ hd
 simp only at hd
 have hl1 := ex1_len d p.workers.length
 have hl2 : ((seqL (fun d => [(⟨yesS d p.workers.length, 1, []⟩ : Sg)]) d).map sgav).length = (seqL (fun d => [(⟨yesS d p.workers.length, 1, []⟩ : Sg)]) d).length := by simp
 by_cases hdn : d < p.duties.length
 ·repeat' ((conv => whnf) <;> (first | refine zM ?_ | refine zW ?_ | intro _ | exact zF | refine Br.tt ?_ | refine Br.ff ?_ | (refine Br.mk (fun h => ?_) (fun h => ?_) <;> (try simp only [sh] at h) <;> try first | (exfalso; omega) | exact absurd trivial h | (simp at h; done)) | refine zA ?_ | refine zN ?_ | refine zO ?_ | refine zP ?_ | refine zB ?_ | refine lB ?_ | refine lBA ?_ | refine zK ?_ | refine s1 ?_ | refine sA ?_ | refine zC ?_ | fail))
  conv => whnf
  refine CK.nilrow 47 3 ?_
  (conv => whnf); refine CK.loopG [5, 6, 26, 27, 28, 29, 30, 31, 32, 33, 34, 35, 36, 37, 38] (σ := Nat × Value) (fun s => s.1 ≤ p.workers.length) (fun ⟨w, lv⟩ => [(6, I w), (5, .v lv)]) (fun ⟨w, lv⟩ => [Li lv (yesS d w), Lg v (seqL (fun d => [⟨yesS d p.workers.length, 1, []⟩]) d), .blk b 32 false (pcs p)]) [] (fun s => p.workers.length - s.1) (0, .slice none 0 0) (Nat.zero_le _) Qy (List.Sublist.refl _) ?_
  conv => whnf
  rintro ⟨w, lv⟩ hw
  simp only at hw
  have hl3 : ((yesS d w).map ltav).length = w := by rw [List.length_map, yesS_len]
  by_cases hwm : w < p.workers.length
  ·repeat' ((conv => whnf) <;> (first | refine zM ?_ | refine zW ?_ | intro _ | exact zF | refine Br.tt ?_ | refine Br.ff ?_ | (refine Br.mk (fun h => ?_) (fun h => ?_) <;> (try simp only [sh] at h) <;> try first | (exfalso; omega) | exact absurd trivial h | (simp at h; done)) | refine zA ?_ | refine zN ?_ | refine zO ?_ | refine zP ?_ | refine zB ?_ | refine lB ?_ | refine lBA ?_ | refine zK ?_ | refine s1 ?_ | refine sA ?_ | refine pS ?_ | refine LK.gr (Gr.bslV rfl rfl rfl rfl) ?_ | refine Ask.of (Gr.bslV rfl rfl rfl rfl) ?_ | refine zC ?_ | refine zD ?_ | fail))
   rename_i A q cp
   (conv => whnf); (refine Nxt.of ((w + 1, Value.slice A q cp)) [5, 6, 26, 27, 28, 29, 30, 31, 32, 33, 34, 35, 36, 37, 38] Qr Qr Qr ?_ ?_ Qy ?_ <;> (try dsimp only) <;> (try omega))
   rw [yesS_succ, Li, List.map_append]
   exact Qs
  ·obtain rfl : w = p.workers.length := by omega
   repeat' ((conv => whnf) <;> (first | refine LK.see 41 rfl (Sb.agg (.cons (.refl _) (.cons (.refl _) (.cons (Sb.nil (k := 1)) .nil)))) ?_ | (refine Gst.frzR 0 rfl ?_ <;> refine Gst.see 5 rfl (Sb.row 0 rfl) ?_ <;> refine Gst.weak _ (fun _ _ hh => hh) (List.Sublist.cons _ (List.Sublist.refl _)) ?_ <;> refine Gst.done ?_) | refine zM ?_ | refine zW ?_ | intro _ | exact zF | refine Br.tt ?_ | refine Br.ff ?_ | (refine Br.mk (fun h => ?_) (fun h => ?_) <;> (try simp only [sh] at h) <;> try first | (exfalso; omega) | exact absurd trivial h | (simp at h; done)) | refine zA ?_ | refine zN ?_ | refine zO ?_ | refine zP ?_ | refine zB ?_ | refine lB ?_ | refine lBA ?_ | refine zK ?_ | refine s1 ?_ | refine sA ?_ | refine pS ?_ | refine LK.gr (Gr.bslV rfl rfl rfl rfl) ?_ | refine Ask.of (Gr.bslV rfl rfl rfl rfl) ?_ | refine zC ?_ | refine zD ?_ | fail))
   rename_i A q cp
   (conv => whnf); (refine Nxt.of ((d + 1, Value.slice A q cp)) [3, 4, 5, 6, 19, 20, 21, 22, 23, 24, 25, 26, 27, 28, 29, 30, 31, 32, 33, 34, 35, 36, 37, 38, 39, 40, 41, 42, 43] Qr Qr Qr ?_ ?_ Qy ?_ <;> (try dsimp only) <;> (try omega))
   rw [seqL_succ, Lg, List.map_append]
   exact Qs
 ·obtain rfl : d = p.duties.length := by omega
  repeat' ((conv => whnf) <;> (first | refine zM ?_ | refine zW ?_ | intro _ | exact zF | refine Br.tt ?_ | refine Br.ff ?_ | (refine Br.mk (fun h => ?_) (fun h => ?_) <;> (try simp only [sh] at h) <;> try first | (exfalso; omega) | exact absurd trivial h | (simp at h; done)) | refine zA ?_ | refine zN ?_ | refine zO ?_ | refine zP ?_ | refine zB ?_ | refine lB ?_ | refine lBA ?_ | refine zK ?_ | refine s1 ?_ | refine sA ?_ | refine zC ?_ | fail))
  (conv => whnf); refine CK.loopK [3, 7, 8, 9, 44, 45, 46, 47, 48, 49, 50, 51, 52, 53, 54, 55, 56, 57, 58, 59, 60, 61, 62, 63, 64, 65, 66, 67, 68, 69, 70, 71, 72, 73, 74, 75, 76, 77] (σ := Nat × Value) (fun s => s.1 ≤ p.duties.length) (fun ⟨e, v⟩ => [(7, I e), (3, .v v)]) (fun ⟨e, v⟩ => [Lg v (seqL (fun d => [⟨yesS d p.workers.length, 1, []⟩]) p.duties.length ++ seqL (fun d => seqL (fun v => aftL (oneS d v) v p.workers.length) p.workers.length) e), .blk b 32 false (pcs p)]) [] (fun s => p.duties.length - s.1) (0, v) (Nat.zero_le _) Qy (by dsimp only; simp only [seqL_zero, List.append_nil]; exact List.Sublist.refl _) ?_
  conv => whnf
  rintro ⟨e, v⟩ he
  simp only at he
  by_cases hed : e < p.duties.length
  ·repeat' ((conv => whnf) <;> (first | refine zM ?_ | refine zW ?_ | intro _ | exact zF | refine Br.tt ?_ | refine Br.ff ?_ | (refine Br.mk (fun h => ?_) (fun h => ?_) <;> (try simp only [sh] at h) <;> try first | (exfalso; omega) | exact absurd trivial h | (simp at h; done)) | refine zA ?_ | refine zN ?_ | refine zO ?_ | refine zP ?_ | refine zB ?_ | refine lB ?_ | refine lBA ?_ | refine zK ?_ | refine s1 ?_ | refine sA ?_ | refine zC ?_ | fail))
   (conv => whnf); refine CK.loopK [3, 8, 9, 51, 52, 53, 54, 55, 56, 57, 58, 59, 60, 61, 62, 63, 64, 65, 66, 67, 68, 69, 70, 71, 72, 73, 74, 75, 76, 77] (σ := Nat × Value) (fun s => s.1 ≤ p.workers.length) (fun ⟨f, v⟩ => [(8, I f), (3, .v v)]) (fun ⟨f, v⟩ => [Lg v (seqL (fun d => [⟨yesS d p.workers.length, 1, []⟩]) p.duties.length ++ seqL (fun d => seqL (fun v => aftL (oneS d v) v p.workers.length) p.workers.length) e ++ seqL (fun v => aftL (oneS e v) v p.workers.length) f), .blk b 32 false (pcs p)]) [] (fun s => p.workers.length - s.1) (0, v) (Nat.zero_le _) Qy (by dsimp only; simp only [seqL_zero, List.append_nil]; exact List.Sublist.refl _) ?_
   conv => whnf
   rintro ⟨f, v⟩ hf
   simp only at hf
   by_cases hfm : f < p.workers.length
   ·repeat' ((conv => whnf) <;> (first | refine zM ?_ | refine zW ?_ | intro _ | exact zF | refine Br.tt ?_ | refine Br.ff ?_ | (refine Br.mk (fun h => ?_) (fun h => ?_) <;> (try simp only [sh] at h) <;> try first | (exfalso; omega) | exact absurd trivial h | (simp at h; done)) | refine zA ?_ | refine zN ?_ | refine zO ?_ | refine zP ?_ | refine zB ?_ | refine lB ?_ | refine lBA ?_ | refine zK ?_ | refine s1 ?_ | refine sA ?_ | refine zC ?_ | fail))
    (conv => whnf); refine CK.loopK [3, 9, 60, 61, 62, 63, 64, 65, 66, 67, 68, 69, 70, 71, 72, 73, 74, 75, 76, 77] (σ := Nat × Value) (fun s => f + 1 ≤ s.1 ∧ s.1 ≤ p.workers.length) (fun ⟨g, v⟩ => [(9, I g), (3, .v v)]) (fun ⟨g, v⟩ => [Lg v (seqL (fun d => [⟨yesS d p.workers.length, 1, []⟩]) p.duties.length ++ seqL (fun d => seqL (fun v => aftL (oneS d v) v p.workers.length) p.workers.length) e ++ seqL (fun v => aftL (oneS e v) v p.workers.length) f ++ aftL (oneS e f) f g), .blk b 32 false (pcs p)]) [] (fun s => p.workers.length - s.1) (f + 1, v) ⟨Nat.le_refl _, hfm⟩ Qy (by dsimp only; simp only [aftL_zero, List.append_nil]; exact List.Sublist.refl _) ?_
    conv => whnf
    rintro ⟨g, v⟩ ⟨hg1, hg2⟩
    simp only at hg1 hg2
    by_cases hgm : g < p.workers.length
    ·have h4 : ((seqL (fun d => [(⟨yesS d p.workers.length, 1, []⟩ : Sg)]) p.duties.length ++ seqL (fun d => seqL (fun v => aftL (oneS d v) v p.workers.length) p.workers.length) e ++ seqL (fun v => aftL (oneS e v) v p.workers.length) f ++ aftL (oneS e f) f g).map sgav).length ≤ 2000000 := by
      have h0 := ex1_len p.duties.length p.workers.length
      have h1 := ex4_len e p.workers.length
      have h2 := ex3_len e f p.workers.length
      have h3 := ex2_len e f g
      have h5 : e * (p.workers.length * p.workers.length) ≤ 100 * (100 * 100) := Nat.mul_le_mul (by omega) hmm
      have h6 : f * p.workers.length ≤ 100 * 100 := Nat.mul_le_mul (by omega) hm
      rw [List.length_map, List.length_append, List.length_append, List.length_append]
      omega
     repeat' ((conv => whnf) <;> (first | refine LK.see 75 rfl (Sb.agg (.cons (.refl _) (.cons (.refl _) (.cons (Sb.nil (k := 1)) .nil)))) ?_ | refine zM ?_ | refine zW ?_ | intro _ | exact zF | refine Br.tt ?_ | refine Br.ff ?_ | (refine Br.mk (fun h => ?_) (fun h => ?_) <;> (try simp only [sh] at h) <;> try first | (exfalso; omega) | exact absurd trivial h | (simp at h; done)) | refine zA ?_ | refine zN ?_ | refine zO ?_ | refine zP ?_ | refine zB ?_ | refine lB ?_ | refine lBA ?_ | refine zK ?_ | refine s1 ?_ | refine sA ?_ | refine pS ?_ | refine LK.gr (Gr.bslV rfl rfl rfl rfl) ?_ | refine Ask.of (Gr.bslV rfl rfl rfl rfl) ?_ | refine zC ?_ | refine zD ?_ | fail))
     rename_i A q cp
     (conv => whnf); (refine Nxt.of ((g + 1, Value.slice A q cp)) [3, 9, 60, 61, 62, 63, 64, 65, 66, 67, 68, 69, 70, 71, 72, 73, 74, 75, 76, 77] Qr Qr Qr ?_ ?_ Qy ?_ <;> (try dsimp only) <;> (try omega))
     rw [aftL_succ _ hg1, ← List.append_assoc, Lg, List.map_append]
     exact Qs
    ·obtain rfl : g = p.workers.length := by omega
     repeat' ((conv => whnf) <;> (first | refine zM ?_ | refine zW ?_ | intro _ | exact zF | refine Br.tt ?_ | refine Br.ff ?_ | (refine Br.mk (fun h => ?_) (fun h => ?_) <;> (try simp only [sh] at h) <;> try first | (exfalso; omega) | exact absurd trivial h | (simp at h; done)) | refine zA ?_ | refine zN ?_ | refine zO ?_ | refine zP ?_ | refine zB ?_ | refine lB ?_ | refine lBA ?_ | refine zK ?_ | refine s1 ?_ | refine sA ?_ | refine zC ?_ | fail))
     (conv => whnf); (refine Nxt.of ((f + 1, v)) [3, 8, 9, 51, 52, 53, 54, 55, 56, 57, 58, 59, 60, 61, 62, 63, 64, 65, 66, 67, 68, 69, 70, 71, 72, 73, 74, 75, 76, 77] Qr Qr Qr ?_ ?_ Qy ?_ <;> (try dsimp only) <;> (try omega))
     rw [seqL_succ, ← List.append_assoc]
     exact Qs
   ·obtain rfl : f = p.workers.length := by omega
    repeat' ((conv => whnf) <;> (first | refine zM ?_ | refine zW ?_ | intro _ | exact zF | refine Br.tt ?_ | refine Br.ff ?_ | (refine Br.mk (fun h => ?_) (fun h => ?_) <;> (try simp only [sh] at h) <;> try first | (exfalso; omega) | exact absurd trivial h | (simp at h; done)) | refine zA ?_ | refine zN ?_ | refine zO ?_ | refine zP ?_ | refine zB ?_ | refine lB ?_ | refine lBA ?_ | refine zK ?_ | refine s1 ?_ | refine sA ?_ | refine zC ?_ | fail))
    (conv => whnf); (refine Nxt.of ((e + 1, v)) [3, 7, 8, 9, 44, 45, 46, 47, 48, 49, 50, 51, 52, 53, 54, 55, 56, 57, 58, 59, 60, 61, 62, 63, 64, 65, 66, 67, 68, 69, 70, 71, 72, 73, 74, 75, 76, 77] Qr Qr Qr ?_ ?_ Qy ?_ <;> (try dsimp only) <;> (try omega))
    rw [seqL_succ, ← List.append_assoc]
    exact Qs
  ·obtain rfl : e = p.duties.length := by omega
   repeat' ((conv => whnf) <;> (first | (refine LK.eff (Eff.mkS (T := tab) (N := p.workers.length) (z := .slice none 0 0) rfl rfl rfl rfl (congrArg (fun q : Nat => some (I (q : Int))) hlw) (by omega)) ?_ <;> rintro _ _ ⟨A1, B1, C1, rfl, rfl⟩) | refine zM ?_ | refine zW ?_ | intro _ | exact zF | refine Br.tt ?_ | refine Br.ff ?_ | (refine Br.mk (fun h => ?_) (fun h => ?_) <;> (try simp only [sh] at h) <;> try first | (exfalso; omega) | exact absurd trivial h | (simp at h; done)) | refine zA ?_ | refine zN ?_ | refine zO ?_ | refine zP ?_ | refine zB ?_ | refine lB ?_ | refine lBA ?_ | refine zK ?_ | refine s1 ?_ | refine sA ?_ | refine zC ?_ | fail))
   (conv => whnf); refine CK.loopK [3, 11, 12, 82, 83, 84, 85, 86, 87, 88, 89, 90, 91, 92, 93, 94, 95, 96, 97, 98, 99, 100, 101, 102, 103, 104, 105, 106, 107, 108, 109, 110, 111, 112, 113, 114, 115, 116, 117, 118, 119, 120, 121, 122, 123, 124] (σ := Nat × Value × List (Value × List AV)) (fun s => s.1 ≤ p.workers.length ∧ s.2.2.length = s.1 ∧ s.2.2.reverse.map (·.2) = (List.range s.1).map fun u => (aloB p u).map B) (fun ⟨w, v, _⟩ => [(11, I w), (3, .v v)]) (fun ⟨w, v, RS⟩ => [.row (.slice A1 B1 C1) 82 1 0 false (aloR p.workers.length RS), Lg v (exP p.duties.length p.workers.length ++ seqL (fun w => seqL (aloS p w) p.duties.length) w), .blk b 32 false (pcs p)] ++ RS.map (rowE 4 1)) [] (fun s => p.workers.length - s.1) (0, v, []) ⟨Nat.zero_le _, rfl, rfl⟩ Qy (by dsimp only; simp only [seqL_zero, List.append_nil]; exact List.Sublist.refl _) ?_
   conv => whnf
   rintro ⟨w, v, RS⟩ ⟨i1, i2, i3⟩
   simp only at i1 i2 i3
   rw [List.append_nil]
   have har := aloR_len (m := p.workers.length) (RS := RS) (by omega)
   by_cases hw : w < p.workers.length
   ·have hget0 : (aloR p.workers.length RS)[w]? = some (.v (.slice none 0 0)) := by rw [← i2]; exact aloR_get (by omega)
    repeat' ((conv => whnf) <;> (first | refine zM ?_ | refine zW ?_ | intro _ | exact zF | refine Br.tt ?_ | refine Br.ff ?_ | (refine Br.mk (fun h => ?_) (fun h => ?_) <;> (try simp only [sh] at h) <;> try first | (exfalso; omega) | exact absurd trivial h | (simp at h; done)) | refine zA ?_ | refine zN ?_ | refine zO ?_ | refine zP ?_ | refine zB ?_ | refine lB ?_ | refine lBA ?_ | refine zK ?_ | refine s1 ?_ | refine sA ?_ | refine zC ?_ | fail))
    conv => whnf
    refine CK.nilrow 4 1 ?_
    (conv => whnf); refine CK.loopK [3, 12, 89, 90, 91, 92, 93, 94, 95, 96, 97, 98, 99, 100, 101, 102, 103, 104, 105, 106, 107, 108, 109, 110, 111, 112, 113, 114, 115, 116, 117, 118, 119, 120, 121, 122, 123, 124] (σ := Nat × Value × Option Addr × Nat × Nat) (fun s => s.1 ≤ p.duties.length) (fun ⟨d, v, _⟩ => [(12, I d), (3, .v v)]) (fun ⟨d, v, A, q, cp⟩ => [Rs (.slice A q cp) (aloT p w d), .row (.slice A1 B1 C1) 82 1 0 false ((aloR p.workers.length RS).set w (.v (.slice A q cp))), Lg v (exP p.duties.length p.workers.length ++ seqL (fun w => seqL (aloS p w) p.duties.length) w ++ seqL (aloS p w) d), .blk b 32 false (pcs p)]) (RS.map (rowE 4 1)) (fun s => p.duties.length - s.1) (0, v, none, 0, 0) (Nat.zero_le _) Qy (by
     dsimp only
     rw [seqL_zero, List.append_nil, set_same hget0]
     exact Qs) ?_
    conv => whnf
    rintro ⟨d, v, A, q, cp⟩ hd
    simp only at hd
    by_cases hdn : d < p.duties.length
    ·have hat := aloT_len p w d
     have har2 : ((aloR p.workers.length RS).set w (.v (.slice A q cp))).length = p.workers.length := by rw [List.length_set, har]
     have hget : ((aloR p.workers.length RS).set w (.v (.slice A q cp)))[(w : Int).toNat]? = some (.v (.slice A q cp)) := by rw [Int.toNat_natCast, List.getElem?_set, if_pos rfl, if_pos (by omega)]
     have c3 := g9bad_ok p hv hs w hw [d] (fun x hx => by rw [List.mem_singleton] at hx; omega) (by simp)
     have hgt3 : ((aloT p w d).map B ++ [B (badW p w [d])])[(d : Int).toNat]? = some (B (badW p w [d])) := aloT_get p w d
     have hset4 : ∀ (A2 : Option Addr) (q2 c2 : Nat), ((aloR p.workers.length RS).set w (.v (.slice A q cp))).set (w : Int).toNat ((AV.v (.slice A q cp)).setCell 0 (.v (.slice A2 q2 c2))) = (aloR p.workers.length RS).set w (.v (.slice A2 q2 c2)) := fun A2 q2 c2 => by
      rw [Int.toNat_natCast, List.set_set]
      rfl
     have hget4 : ∀ (A2 : Option Addr) (q2 c2 : Nat), ((aloR p.workers.length RS).set w (.v (.slice A2 q2 c2)))[(w : Int).toNat]? = some (.v (.slice A2 q2 c2)) := fun A2 q2 c2 => by rw [Int.toNat_natCast, List.getElem?_set, if_pos rfl, if_pos (by omega)]
     have har3 : ∀ (A2 : Option Addr) (q2 c2 : Nat), ((aloR p.workers.length RS).set w (.v (.slice A2 q2 c2))).length = p.workers.length := fun A2 q2 c2 => by rw [List.length_set, har]
     have hat3 : ((aloT p w d).map B ++ [B (badW p w [d])]).length = d + 1 := by rw [List.length_append, hat]; rfl
     have h4 : ((exP p.duties.length p.workers.length ++ seqL (fun w => seqL (aloS p w) p.duties.length) w ++ seqL (aloS p w) d).map sgav).length ≤ 3000000 := by
      have h1 := exP_len hn hm
      have h2 := alo2_len p p.duties.length w
      have h3 := alo1_len p w d
      have h5 : w * p.duties.length ≤ 100 * 100 := Nat.mul_le_mul (by omega) hn
      rw [List.length_map, List.length_append, List.length_append]
      omega
     repeat' ((conv => whnf) <;> (first | (refine Kx.eff rfl (Eff.stG (T := tab) (a := (w : Int).toNat) 1 rfl rfl rfl rfl rfl (Nat.zero_le _) hget rfl rfl) (by rintro _ _ ⟨rfl, rfl⟩; exact Qs) ?_ <;> rintro _ _ ⟨rfl, rfl⟩) | refine lR0 (T := tab) (i := 1) (hp := hget) ?_ | refine iR (T := tab) ?_ | refine CK.anyK (id := 30) [0, 1, 2, 3, 6, 7, 8, 9, 10, 11] [4, 5, 12, 13, 14] _ (List.Sublist.cons _ (List.Sublist.cons _ (List.Sublist.refl _))) Qk ?_ | refine zM ?_ | refine zW ?_ | intro _ | exact zF | refine Br.tt ?_ | refine Br.ff ?_ | (refine Br.mk (fun h => ?_) (fun h => ?_) <;> (try simp only [sh] at h) <;> try first | (exfalso; omega) | exact absurd trivial h | (simp at h; done)) | refine zA ?_ | refine zN ?_ | refine zO ?_ | refine zP ?_ | refine zB ?_ | refine zL ent41 c3 ?_ | refine zG ent41 (fun h => c3) ?_ | refine lB ?_ | refine lBA ?_ | refine zK ?_ | refine s1 ?_ | refine sA ?_ | refine pS ?_ | refine LK.gr (Gr.bslV rfl rfl rfl rfl) ?_ | refine Ask.of (Gr.bslV rfl rfl rfl rfl) ?_ | refine Kx.nil ?_ | refine Kx.stp rfl rfl Qs ?_ | refine kA ?_ | refine kS ?_ | (refine Kx.frzR 0 rfl ?_ <;> refine kF ?_) | refine kP ?_ | refine k1 ?_ | refine kB ?_ | refine kL ?_ | refine zC ?_ | refine zD ?_ | fail))
     rename_i A3 q3 c4
     conv => whnf
     have har4 := har3 A3 q3 c4
     rw [hset4]
     repeat' ((conv => whnf) <;> (first | refine LK.see 122 rfl (Sb.agg (.cons (.refl _) (.cons (.refl _) (.cons (Sb.nil (k := 1)) .nil)))) ?_ | refine lR0 (T := tab) (i := 0) (hp := hgt3) ?_ | refine lR0 (T := tab) (i := 1) (hp := hget4 _ _ _) ?_ | refine iR (T := tab) ?_ | refine zM ?_ | refine zW ?_ | intro _ | exact zF | refine Br.tt ?_ | refine Br.ff ?_ | (refine Br.mk (fun h => ?_) (fun h => ?_) <;> (try simp only [sh] at h) <;> try first | (exfalso; omega) | exact absurd trivial h | (simp at h; done)) | refine zA ?_ | refine zN ?_ | refine zO ?_ | refine zP ?_ | refine zB ?_ | refine lB ?_ | refine lBA ?_ | refine zK ?_ | refine s1 ?_ | refine sA ?_ | refine pS ?_ | refine LK.gr (Gr.bslV rfl rfl rfl rfl) ?_ | refine Ask.of (Gr.bslV rfl rfl rfl rfl) ?_ | refine zC ?_ | refine zD ?_ | fail))
     ·rename_i A5 q5 c5
      (conv => whnf); (refine Nxt.of ((d + 1, Value.slice A5 q5 c5, A3, q3, c4)) [3, 12, 89, 90, 91, 92, 93, 94, 95, 96, 97, 98, 99, 100, 101, 102, 103, 104, 105, 106, 107, 108, 109, 110, 111, 112, 113, 114, 115, 116, 117, 118, 119, 120, 121, 122, 123, 124] Qr Qr Qr ?_ ?_ Qy ?_ <;> (try dsimp only) <;> (try omega))
      rw [Rs, aloT_succ, seqL_succ, ← List.append_assoc, aloS, if_pos h, Lg, List.map_append]
      exact Qs
     ·(conv => whnf); (refine Nxt.of ((d + 1, v, A3, q3, c4)) [3, 12, 89, 90, 91, 92, 93, 94, 95, 96, 97, 98, 99, 100, 101, 102, 103, 104, 105, 106, 107, 108, 109, 110, 111, 112, 113, 114, 115, 116, 117, 118, 119, 120, 121, 122, 123, 124] Qr Qr Qr ?_ ?_ Qy ?_ <;> (try dsimp only) <;> (try omega))
      rw [Rs, aloT_succ, seqL_succ, aloS, h]
      simp only [Bool.false_eq_true, if_false, List.append_nil]
      exact Qs
    ·obtain rfl : d = p.duties.length := by omega
     repeat' ((conv => whnf) <;> (first | refine zM ?_ | refine zW ?_ | intro _ | exact zF | refine Br.tt ?_ | refine Br.ff ?_ | (refine Br.mk (fun h => ?_) (fun h => ?_) <;> (try simp only [sh] at h) <;> try first | (exfalso; omega) | exact absurd trivial h | (simp at h; done)) | refine zA ?_ | refine zN ?_ | refine zO ?_ | refine zP ?_ | refine zB ?_ | refine lB ?_ | refine lBA ?_ | refine zK ?_ | refine s1 ?_ | refine sA ?_ | refine zC ?_ | fail))
     conv => whnf
     refine Nxt.perm (List.perm_middle (a := Rs (.slice A q cp) (aloT p w p.duties.length)) (l₁ := [.row (.slice A1 B1 C1) 82 1 0 false ((aloR p.workers.length RS).set w (.v (.slice A q cp))), Lg v (exP p.duties.length p.workers.length ++ seqL (fun w => seqL (aloS p w) p.duties.length) w ++ seqL (aloS p w) p.duties.length), .blk b 32 false (pcs p)]) (l₂ := RS.map (rowE 4 1))).symm ?_
     (conv => whnf); (refine Nxt.of ((w + 1, v, (Value.slice A q cp, (aloB p w).map B) :: RS)) [3, 11, 12, 82, 83, 84, 85, 86, 87, 88, 89, 90, 91, 92, 93, 94, 95, 96, 97, 98, 99, 100, 101, 102, 103, 104, 105, 106, 107, 108, 109, 110, 111, 112, 113, 114, 115, 116, 117, 118, 119, 120, 121, 122, 123, 124] Qr Qr Qr ?_ ?_ Qy ?_ <;> (try dsimp only) <;> (try omega))
     ·refine ⟨hw, by rw [List.length_cons, i2], ?_⟩
      rw [List.reverse_cons, List.map_append, i3, List.range_succ, List.map_append]
      rfl
     ·rw [List.append_nil, seqL_succ, ← List.append_assoc, ← i2, ← aloR_set (by omega) _ ((aloB p RS.length).map B)]
      exact List.Sublist.refl _
   ·obtain rfl : w = p.workers.length := by omega
    repeat' ((conv => whnf) <;> (first | refine zM ?_ | refine zW ?_ | intro _ | exact zF | refine Br.tt ?_ | refine Br.ff ?_ | (refine Br.mk (fun h => ?_) (fun h => ?_) <;> (try simp only [sh] at h) <;> try first | (exfalso; omega) | exact absurd trivial h | (simp at h; done)) | refine zA ?_ | refine zN ?_ | refine zO ?_ | refine zP ?_ | refine zB ?_ | refine lB ?_ | refine lBA ?_ | refine zK ?_ | refine s1 ?_ | refine sA ?_ | refine zC ?_ | fail))
    have e0 : aloR p.workers.length RS = RS.reverse.map fun e => AV.v e.1 := by unfold aloR; rw [i2, Nat.sub_self, List.replicate_zero, List.append_nil]
    have e1 : (RS.reverse.map fun e => AV.sl 1 e.2) = ((List.range p.workers.length).map (aloB p)).map fun bs => AV.sl 1 (bs.map B) := by
     have := congrArg (List.map (AV.sl 1)) i3
     rw [List.map_map, List.map_map] at this
     rw [List.map_map]
     exact this
    conv => whnf
    refine CK.frzTail (t := 4) (size := 1) (RS := RS) (A := [.row (.slice A1 B1 C1) 82 1 0 false (aloR p.workers.length RS), Lg v (exP p.duties.length p.workers.length ++ seqL (fun w => seqL (aloS p w) p.duties.length) p.workers.length), .blk b 32 false (pcs p)]) (xs' := RS.reverse.map fun e => AV.sl 1 e.2) 0 rfl (by
     rw [e0]
     refine SbE.each fun e he => ⟨?_, rfl⟩
     obtain ⟨q, hq, e3⟩ := List.mem_iff_getElem.1 (List.mem_reverse.1 he)
     refine .cons (Sb.row (t := 4) (m := e.2.length) (3 + q) ?_) .nil
     rw [List.getElem?_append_right (by simp)]
     simp only [List.length_cons, List.length_nil]
     rw [show 3 + q - (0 + 1 + 1 + 1) = q by omega, List.getElem?_map, List.getElem?_eq_getElem hq, e3]
     rfl) ?_
    rw [e1]
    generalize hAL : (List.range p.workers.length).map (aloB p) = AL
    have hal : AL.length = p.workers.length := by rw [← hAL]; simp
    have halm : (AL.map fun bs => AV.sl 1 (bs.map B)).length = p.workers.length := by rw [List.length_map, hal]
    have hag : ∀ w, w < p.workers.length → AL.getD w default = aloB p w := fun w hw => by
     rw [← hAL, getD_at' (by simpa using hw)]
     simp
    (conv => whnf); refine CK.loopK [3, 13, 14, 15, 125, 126, 127, 128, 129, 130, 131, 132, 133, 134, 135, 136, 137, 138, 139, 140, 141, 142, 143, 144, 145, 146, 147, 148, 149, 150, 151, 152, 153, 154, 155, 156, 157, 158, 159, 160, 161, 162, 163, 164, 165, 166, 167, 168, 169, 170, 171, 172, 173, 174, 175, 176, 177, 178, 179, 180, 181, 182, 183, 184] (σ := Nat × Value) (fun s => s.1 ≤ p.workers.length) (fun ⟨w, v⟩ => [(13, I w), (3, .v v)]) (fun ⟨w, v⟩ => [.row (.slice A1 B1 C1) 82 1 0 false (AL.map fun bs => .sl 1 (bs.map B)), Lg v (exP p.duties.length p.workers.length ++ seqL (fun w => seqL (aloS p w) p.duties.length) p.workers.length ++ seqL (fun w => seqL (fun d => aftL (twoS p w d) d p.duties.length) p.duties.length) w), .blk b 32 false (pcs p)]) [] (fun s => p.workers.length - s.1) (0, v) (Nat.zero_le _) Qy (by dsimp only; simp only [seqL_zero, List.append_nil]; exact List.Sublist.refl _) ?_
    conv => whnf
    rintro ⟨w, v⟩ hw2
    simp only at hw2
    by_cases hwm : w < p.workers.length
    ·have hgw := hag w hwm
     repeat' ((conv => whnf) <;> (first | refine zM ?_ | refine zW ?_ | intro _ | exact zF | refine Br.tt ?_ | refine Br.ff ?_ | (refine Br.mk (fun h => ?_) (fun h => ?_) <;> (try simp only [sh] at h) <;> try first | (exfalso; omega) | exact absurd trivial h | (simp at h; done)) | refine zA ?_ | refine zN ?_ | refine zO ?_ | refine zP ?_ | refine zB ?_ | refine lB ?_ | refine lBA ?_ | refine zK ?_ | refine s1 ?_ | refine sA ?_ | refine zC ?_ | fail))
     (conv => whnf); refine CK.loopK [3, 14, 15, 132, 133, 134, 135, 136, 137, 138, 139, 140, 141, 142, 143, 144, 145, 146, 147, 148, 149, 150, 151, 152, 153, 154, 155, 156, 157, 158, 159, 160, 161, 162, 163, 164, 165, 166, 167, 168, 169, 170, 171, 172, 173, 174, 175, 176, 177, 178, 179, 180, 181, 182, 183, 184] (σ := Nat × Value) (fun s => s.1 ≤ p.duties.length) (fun ⟨d, v⟩ => [(14, I d), (3, .v v)]) (fun ⟨d, v⟩ => [.row (.slice A1 B1 C1) 82 1 0 false (AL.map fun bs => .sl 1 (bs.map B)), Lg v (exP p.duties.length p.workers.length ++ seqL (fun w => seqL (aloS p w) p.duties.length) p.workers.length ++ seqL (fun w => seqL (fun d => aftL (twoS p w d) d p.duties.length) p.duties.length) w ++ seqL (fun d => aftL (twoS p w d) d p.duties.length) d), .blk b 32 false (pcs p)]) [] (fun s => p.duties.length - s.1) (0, v) (Nat.zero_le _) Qy (by dsimp only; simp only [seqL_zero, List.append_nil]; exact List.Sublist.refl _) ?_
     conv => whnf
     rintro ⟨d, v⟩ hd
     simp only at hd
     by_cases hdn : d < p.duties.length
     ·repeat' ((conv => whnf) <;> (first | refine zM ?_ | refine zW ?_ | intro _ | exact zF | refine Br.tt ?_ | refine Br.ff ?_ | (refine Br.mk (fun h => ?_) (fun h => ?_) <;> (try simp only [sh] at h) <;> try first | (exfalso; omega) | exact absurd trivial h | (simp at h; done)) | refine zA ?_ | refine zN ?_ | refine zO ?_ | refine zP ?_ | refine zB ?_ | refine lB ?_ | refine lBA ?_ | refine zK ?_ | refine s1 ?_ | refine sA ?_ | refine zC ?_ | fail))
      (conv => whnf); refine CK.loopK [3, 15, 141, 142, 143, 144, 145, 146, 147, 148, 149, 150, 151, 152, 153, 154, 155, 156, 157, 158, 159, 160, 161, 162, 163, 164, 165, 166, 167, 168, 169, 170, 171, 172, 173, 174, 175, 176, 177, 178, 179, 180, 181, 182, 183, 184] (σ := Nat × Value) (fun s => d + 1 ≤ s.1 ∧ s.1 ≤ p.duties.length) (fun ⟨e, v⟩ => [(15, I e), (3, .v v)]) (fun ⟨e, v⟩ => [.row (.slice A1 B1 C1) 82 1 0 false (AL.map fun bs => .sl 1 (bs.map B)), Lg v (exP p.duties.length p.workers.length ++ seqL (fun w => seqL (aloS p w) p.duties.length) p.workers.length ++ seqL (fun w => seqL (fun d => aftL (twoS p w d) d p.duties.length) p.duties.length) w ++ seqL (fun d => aftL (twoS p w d) d p.duties.length) d ++ aftL (twoS p w d) d e), .blk b 32 false (pcs p)]) [] (fun s => p.duties.length - s.1) (d + 1, v) ⟨Nat.le_refl _, hdn⟩ Qy (by dsimp only; simp only [aftL_zero, List.append_nil]; exact List.Sublist.refl _) ?_
      conv => whnf
      rintro ⟨e, v⟩ ⟨he1, he2⟩
      simp only at he1 he2
      by_cases hen : e < p.duties.length
      ·have hgw2 : AL.getD (w : Int).toNat default = aloB p w := by rw [Int.toNat_natCast]; exact hgw
       have hl5 : ((AL.getD (w : Int).toNat default).map B).length = p.duties.length := by rw [hgw2]; simp [aloB]
       have hl6 : (AL.getD (w : Int).toNat default).length = p.duties.length := by rw [hgw2]; simp [aloB]
       have h4 : ((exP p.duties.length p.workers.length ++ seqL (fun w => seqL (aloS p w) p.duties.length) p.workers.length ++ seqL (fun w => seqL (fun d => aftL (twoS p w d) d p.duties.length) p.duties.length) w ++ seqL (fun d => aftL (twoS p w d) d p.duties.length) d ++ aftL (twoS p w d) d e).map sgav).length ≤ 4000000 := by
        have h1 := exP_len hn hm
        have h2 := alo2_len p p.duties.length p.workers.length
        have h3 := two3_len p p.duties.length w
        have h5 := two2_len p p.duties.length w d
        have h6 := two1_len p w d e
        have h7 : p.workers.length * p.duties.length ≤ 100 * 100 := Nat.mul_le_mul hm hn
        have h8 : w * (p.duties.length * p.duties.length) ≤ 100 * (100 * 100) := Nat.mul_le_mul (by omega) (Nat.mul_le_mul hn hn)
        have h9 : d * p.duties.length ≤ 100 * 100 := Nat.mul_le_mul (by omega) hn
        rw [List.length_map, List.length_append, List.length_append, List.length_append, List.length_append]
        omega
       have c3 := g9bad_ok p hv hs w hwm [d, e] (fun x hx => by simp only [List.mem_cons, List.not_mem_nil, or_false] at hx; omega) (by simp)
       repeat' ((conv => whnf) <;> (first | refine LK.see 182 rfl (Sb.agg (.cons (.refl _) (.cons (.refl _) (.cons (Sb.nil (k := 1)) .nil)))) ?_ | refine iR (T := tab) ?_ | refine zM ?_ | refine zW ?_ | intro _ | exact zF | refine Br.tt ?_ | refine Br.ff ?_ | (refine Br.mk (fun h => ?_) (fun h => ?_) <;> (try simp only [sh] at h) <;> try first | (exfalso; omega) | exact absurd trivial h | (simp at h; done)) | refine zA ?_ | refine zN ?_ | refine zO ?_ | refine zP ?_ | refine zB ?_ | refine zL ent41 c3 ?_ | refine zG ent41 (fun h => c3) ?_ | refine lB ?_ | refine lBA ?_ | refine lM ?_ | refine lM0 ?_ | refine lMA ?_ | refine sM ?_ | refine zK ?_ | refine s1 ?_ | refine sA ?_ | refine pS ?_ | refine LK.gr (Gr.bslV rfl rfl rfl rfl) ?_ | refine Ask.of (Gr.bslV rfl rfl rfl rfl) ?_ | refine zC ?_ | refine zD ?_ | exact True.intro | fail))
       ·rename_i A3 q3 cp3
        rw [hgw, aloB_get hdn, aloB_get hen] at h
        have hc : (!badW p w [d] && !badW p w [e] && badW p w [d, e]) = true := by rw [h.1.1, h.1.2, h.2]; rfl
        (conv => whnf); (refine Nxt.of ((e + 1, Value.slice A3 q3 cp3)) [3, 15, 141, 142, 143, 144, 145, 146, 147, 148, 149, 150, 151, 152, 153, 154, 155, 156, 157, 158, 159, 160, 161, 162, 163, 164, 165, 166, 167, 168, 169, 170, 171, 172, 173, 174, 175, 176, 177, 178, 179, 180, 181, 182, 183, 184] Qr Qr Qr ?_ ?_ Qy ?_ <;> (try dsimp only) <;> (try omega))
        rw [aftL_succ _ he1, ← List.append_assoc, twoS, if_pos hc, Lg, List.map_append]
        exact Qs
       ·rw [hgw, aloB_get hdn, aloB_get hen] at h
        have hc : ¬ (!badW p w [d] && !badW p w [e] && badW p w [d, e]) = true := by
         rcases h with (h | h) | h <;> rw [h] <;> simp
        (conv => whnf); (refine Nxt.of ((e + 1, v)) [3, 15, 141, 142, 143, 144, 145, 146, 147, 148, 149, 150, 151, 152, 153, 154, 155, 156, 157, 158, 159, 160, 161, 162, 163, 164, 165, 166, 167, 168, 169, 170, 171, 172, 173, 174, 175, 176, 177, 178, 179, 180, 181, 182, 183, 184] Qr Qr Qr ?_ ?_ Qy ?_ <;> (try dsimp only) <;> (try omega))
        rw [aftL_succ _ he1, twoS, if_neg hc]
        simp only [List.append_nil]
        exact Qs
      ·obtain rfl : e = p.duties.length := by omega
       repeat' ((conv => whnf) <;> (first | refine zM ?_ | refine zW ?_ | intro _ | exact zF | refine Br.tt ?_ | refine Br.ff ?_ | (refine Br.mk (fun h => ?_) (fun h => ?_) <;> (try simp only [sh] at h) <;> try first | (exfalso; omega) | exact absurd trivial h | (simp at h; done)) | refine zA ?_ | refine zN ?_ | refine zO ?_ | refine zP ?_ | refine zB ?_ | refine lB ?_ | refine lBA ?_ | refine zK ?_ | refine s1 ?_ | refine sA ?_ | refine zC ?_ | fail))
       (conv => whnf); (refine Nxt.of ((d + 1, v)) [3, 14, 15, 132, 133, 134, 135, 136, 137, 138, 139, 140, 141, 142, 143, 144, 145, 146, 147, 148, 149, 150, 151, 152, 153, 154, 155, 156, 157, 158, 159, 160, 161, 162, 163, 164, 165, 166, 167, 168, 169, 170, 171, 172, 173, 174, 175, 176, 177, 178, 179, 180, 181, 182, 183, 184] Qr Qr Qr ?_ ?_ Qy ?_ <;> (try dsimp only) <;> (try omega))
       rw [seqL_succ, ← List.append_assoc]
       exact Qs
     ·obtain rfl : d = p.duties.length := by omega
      repeat' ((conv => whnf) <;> (first | refine zM ?_ | refine zW ?_ | intro _ | exact zF | refine Br.tt ?_ | refine Br.ff ?_ | (refine Br.mk (fun h => ?_) (fun h => ?_) <;> (try simp only [sh] at h) <;> try first | (exfalso; omega) | exact absurd trivial h | (simp at h; done)) | refine zA ?_ | refine zN ?_ | refine zO ?_ | refine zP ?_ | refine zB ?_ | refine lB ?_ | refine lBA ?_ | refine zK ?_ | refine s1 ?_ | refine sA ?_ | refine zC ?_ | fail))
      (conv => whnf); (refine Nxt.of ((w + 1, v)) [3, 13, 14, 15, 125, 126, 127, 128, 129, 130, 131, 132, 133, 134, 135, 136, 137, 138, 139, 140, 141, 142, 143, 144, 145, 146, 147, 148, 149, 150, 151, 152, 153, 154, 155, 156, 157, 158, 159, 160, 161, 162, 163, 164, 165, 166, 167, 168, 169, 170, 171, 172, 173, 174, 175, 176, 177, 178, 179, 180, 181, 182, 183, 184] Qr Qr Qr ?_ ?_ Qy ?_ <;> (try dsimp only) <;> (try omega))
      rw [seqL_succ, ← List.append_assoc]
      exact Qs
    ·obtain rfl : w = p.workers.length := by omega
     repeat' ((conv => whnf) <;> (first | refine zM ?_ | refine zW ?_ | intro _ | exact zF | refine Br.tt ?_ | refine Br.ff ?_ | (refine Br.mk (fun h => ?_) (fun h => ?_) <;> (try simp only [sh] at h) <;> try first | (exfalso; omega) | exact absurd trivial h | (simp at h; done)) | refine zA ?_ | refine zN ?_ | refine zO ?_ | refine zP ?_ | refine zB ?_ | refine lB ?_ | refine lBA ?_ | refine zK ?_ | refine s1 ?_ | refine sA ?_ | refine zC ?_ | fail))
     conv => whnf
     refine .out _ (by exact .cons _ (.cons_cons _ (List.nil_sublist _))) ⟨_, rfl, ?_⟩
     rw [baseP, if_pos hv]
end Go.Proofs.YtjfnkmlnbaianaaGreat
