/-
  Walks: reference 20: Proves and what it calls.
  Conditions: those of each theorem.
-/
import Derived.Test.YtecemgicnboaaaaGreatNP1
import Derived.Test.YtecemgicnboaaaaGreatRF3
import Derived.Test.YtecemgicnboaaaaGreatNS3
namespace Go.Proofs.YtecemgicnboaaaaGreat
open Go.E2 Go.Wage
theorem c0proper_ok (p : Pl) (l : List Lt) (_hd : p.duties.length ≤ 1000) (_hw : p.workers.length ≤ 1000) (hl : l.length ≤ 100000) : FnA Tryz.prog 38 [.agg (pcs p), .sl 3 (l.map ltav)] (B (l.all (properB p))) := by
  have hld : (p.duties.map duav).length = p.duties.length := by simp
  have hlw : (p.workers.map wkav).length = p.workers.length := by simp
  have hll : (l.map ltav).length = l.length := by simp
  refine fn_run (T := tab) Tryz.func38 rfl Tryz.ntmps38 rfl Tryz.results38 (fun _ => ?_)
  repeat' ((conv => whnf) <;> (first | refine zM ?_ | refine zW ?_ | intro _ | exact zF | refine Br.tt ?_ | refine Br.ff ?_ | (refine Br.mk (fun h => ?_) (fun h => ?_) <;> (try simp only [sh] at h) <;> try first | (exfalso; omega) | exact absurd trivial h | (simp at h; done)) | refine zA ?_ | refine zN ?_ | refine zO ?_ | refine zP ?_ | refine zB ?_ | refine lB ?_ | refine lBA ?_ | refine zK ?_ | refine s1 ?_ | refine sA ?_ | refine zC ?_ | fail))
  (conv => whnf); refine CK.loop [4, 5, 6, 7, 8, 9, 10, 11, 12, 13, 14, 15, 16, 17, 18, 19, 20, 21, 22, 23, 24, 25, 26, 27, 28, 29, 30, 31, 32, 33, 34, 35, 36, 37, 38, 39, 40, 41, 42, 43, 44, 45, 46, 47] (σ := Nat) (fun k => k ≤ l.length ∧ (l.take k).all (properB p) = true) (fun k => [(5, I k)]) (fun _ => _) (fun k => l.length - k) 0 ⟨Nat.zero_le _, rfl⟩ Qy (List.Sublist.refl _) ?_
  conv => whnf
  rintro k ⟨i1, i2⟩
  by_cases hk : k < l.length
  · repeat' ((conv => whnf) <;> (first | refine zM ?_ | refine zW ?_ | intro _ | exact zF | refine Br.tt ?_ | refine Br.ff ?_ | (refine Br.mk (fun h => ?_) (fun h => ?_) <;> (try simp only [sh] at h) <;> try first | (exfalso; omega) | exact absurd trivial h | (simp at h; done)) | refine zA ?_ | refine zN ?_ | refine zO ?_ | refine zP ?_ | refine zB ?_ | refine lB ?_ | refine lBA ?_ | refine zK ?_ | refine s1 ?_ | refine sA ?_ | refine zC ?_ | fail))
    · conv => whnf
      refine Fin.pure (congrArg B (all_at hk ?_).symm)
      rw [Bool.eq_false_iff, ne_eq, properB_iff]
      omega
    · (conv => whnf); (refine Nxt.of (k + 1) [4, 5, 6, 7, 8, 9, 10, 11, 12, 13, 14, 15, 16, 17, 18, 19, 20, 21, 22, 23, 24, 25, 26, 27, 28, 29, 30, 31, 32, 33, 34, 35, 36, 37, 38, 39, 40, 41, 42, 43, 44, 45, 46, 47] Qr Qr Qr ?_ ?_ Qy Qs <;> (try dsimp only) <;> (try omega))
      exact ⟨hk, all_take i2 hk (properB_iff.2 (by omega))⟩
  · repeat' ((conv => whnf) <;> (first | refine zM ?_ | refine zW ?_ | intro _ | exact zF | refine Br.tt ?_ | refine Br.ff ?_ | (refine Br.mk (fun h => ?_) (fun h => ?_) <;> (try simp only [sh] at h) <;> try first | (exfalso; omega) | exact absurd trivial h | (simp at h; done)) | refine zA ?_ | refine zN ?_ | refine zO ?_ | refine zP ?_ | refine zB ?_ | refine lB ?_ | refine lBA ?_ | refine zK ?_ | refine s1 ?_ | refine sA ?_ | refine zC ?_ | fail))
    conv => whnf
    rw [List.take_of_length_le (by omega)] at i2
    exact Fin.pure (congrArg B i2.symm)
def someC (p : Pl) (cl : List Lt) : Bool := decide (0 < p.duties.length) && decide (cl.length = p.workers.length) && (List.range cl.length).all (rowB cl)
def oneC (cl : List Lt) : Bool := decide (cl.length = 2) && (!(cl.getD 0 default).is && !(cl.getD 1 default).is && decide ((cl.getD 0 default).du = (cl.getD 1 default).du) && decide ((cl.getD 0 default).wk < (cl.getD 1 default).wk))
theorem c0one_ok (l : List Lt) (_hl : l.length ≤ 100000) : FnA Tryz.prog 40 [.sl 3 (l.map ltav)] (B (oneC l)) := by
  have hll : (l.map ltav).length = l.length := by simp
  refine fn_run (T := tab) Tryz.func40 rfl Tryz.ntmps40 rfl Tryz.results40 (fun _ => ?_)
  repeat' ((conv => whnf) <;> (first | refine zM ?_ | refine zW ?_ | intro _ | exact zF | refine Br.tt ?_ | refine Br.ff ?_ | (refine Br.mk (fun h => ?_) (fun h => ?_) <;> (try simp only [sh] at h) <;> try first | (exfalso; omega) | exact absurd trivial h | (simp at h; done)) | refine zA ?_ | refine zN ?_ | refine zO ?_ | refine zP ?_ | refine zB ?_ | refine lB ?_ | refine lBA ?_ | refine zK ?_ | refine s1 ?_ | refine sA ?_ | refine zC ?_ | fail))
  conv => whnf
  refine Fin.pure (congrArg B ?_)
  unfold oneC
  rw [hll]
  by_cases h2 : l.length = 2
  · rw [decide_eq_true h2, decide_eq_true (by omega)]
    simp only [Bool.true_and]
    rfl
  · rw [decide_eq_false h2, decide_eq_false (by omega)]
    simp only [Bool.false_and]
def denC (p : Pl) (cl : List Lt) : Option (List Int) := denL cl (List.replicate p.duties.length (-1))
theorem set_Ir (l : List Int) (a : Nat) (x : Int) : (l.map I).set a ((I (l.getD a default)).setCell 0 (I x)) = (l.set a x).map I := by
  rw [List.map_set]; rfl
theorem denL_at {cl : List Lt} {ro : List Int} {k : Nat} (hk : k < cl.length) : denL (cl.drop k) ro = if (!(cl.getD k default).is && decide (ro.getD (cl.getD k default).du.toNat default < 0)) = true then denL (cl.drop (k + 1)) (ro.set (cl.getD k default).du.toNat (cl.getD k default).wk) else none := by
  rw [dropG hk, denL]
theorem denC_ro {p : Pl} {l : List Lt} {r : List Int} (hp : l.all (properB p) = true) (h : denC p l = some r) : isRo p r = true := by
  unfold denC at h
  refine isRo_iff.2 ⟨by rw [denL_len h, List.length_replicate], ?_⟩
  refine denL_bd h (fun x hx => ?_) fun w hw => ?_
  · have := properB_iff.1 (List.all_eq_true.1 hp x hx); omega
  · rw [List.eq_of_mem_replicate hw]; omega
def badC (p : Pl) (cl : List Lt) : Bool := match denC p cl with
  | some ro => decide (0 < cl.length) && violB p ro
  | none => false
def costC (p : Pl) (b : Int) (cl : List Lt) : Bool := match denC p cl with
  | some ro => decide (0 < cl.length) && decide (b ≤ fullP p ro p.duties)
  | none => false
theorem c0has_ok (l : List Lt) (x : Lt) (hl : l.length ≤ 100000) : FnA Tryz.prog 75 [.sl 3 (l.map ltav), ltav x] (B (l.contains x)) := by
  have hll : (l.map ltav).length = l.length := by simp
  refine fn_run (T := tab) Tryz.func75 rfl Tryz.ntmps75 rfl Tryz.results75 (fun _ => ?_)
  repeat' ((conv => whnf) <;> (first | refine zM ?_ | refine zW ?_ | intro _ | exact zF | refine Br.tt ?_ | refine Br.ff ?_ | (refine Br.mk (fun h => ?_) (fun h => ?_) <;> (try simp only [sh] at h) <;> try first | (exfalso; omega) | exact absurd trivial h | (simp at h; done)) | refine zA ?_ | refine zN ?_ | refine zO ?_ | refine zP ?_ | refine zB ?_ | refine lB ?_ | refine lBA ?_ | refine zK ?_ | refine s1 ?_ | refine sA ?_ | refine zC ?_ | fail))
  (conv => whnf); refine CK.loop [4, 5, 6, 7, 8, 9, 10, 11, 12, 13, 14, 15, 16, 17] (σ := Nat) (fun k => k ≤ l.length ∧ x ∉ l.take k) (fun k => [(5, I k)]) (fun _ => _) (fun k => l.length - k) 0 ⟨Nat.zero_le _, by simp⟩ Qy (List.Sublist.refl _) ?_
  conv => whnf
  rintro k ⟨i1, i2⟩
  by_cases hk : k < l.length
  · have hq := eqLt (l.getD k default) x
    repeat' ((conv => whnf) <;> (first | refine zM ?_ | refine zW ?_ | intro _ | exact zF | refine Br.tt ?_ | refine Br.ff ?_ | (refine Br.mk (fun h => ?_) (fun h => ?_) <;> (try simp only [sh] at h) <;> try first | (exfalso; omega) | exact absurd trivial h | (simp at h; done)) | refine zA ?_ | refine zN ?_ | refine zO ?_ | refine zP ?_ | refine zB ?_ | refine Ask.of (Gr.eqlS rfl rfl rfl rfl (eqs124 _ _ _ _ _ _)) ?_ | refine Ask.of (Gr.neqS rfl rfl rfl rfl (eqs124 _ _ _ _ _ _)) ?_ | refine Ask.of (Gr.eqlS rfl rfl rfl rfl (eqs28 _ _ _ _)) ?_ | refine Ask.of (Gr.neqS rfl rfl rfl rfl (eqs28 _ _ _ _)) ?_ | refine Ask.of (Gr.eqlS rfl rfl rfl rfl (eqs165 _ _ _ _)) ?_ | refine Ask.of (Gr.neqS rfl rfl rfl rfl (eqs165 _ _ _ _)) ?_ | refine Ask.of (Gr.eqlS rfl rfl rfl rfl (eqs90 _ _ _ _ _ _ _ _)) ?_ | refine Ask.of (Gr.neqS rfl rfl rfl rfl (eqs90 _ _ _ _ _ _ _ _)) ?_ | refine lB ?_ | refine lBA ?_ | refine zK ?_ | refine s1 ?_ | refine sA ?_ | refine zC ?_ | fail))
    · conv => whnf
      refine Fin.pure (congrArg B ?_)
      have : l.getD k default = x := by
        rw [← decide_eq_true_eq (p := l.getD k default = x), ← hq]
        simp only [Bool.and_eq_true, decide_eq_true_eq, beq_iff_eq, and_true]
        exact h
      rw [← this, eq_comm, List.contains_eq_mem, decide_eq_true_eq]
      exact gAt hk
    · (conv => whnf); (refine Nxt.of (k + 1) [4, 5, 6, 7, 8, 9, 10, 11, 12, 13, 14, 15, 16, 17] Qr Qr Qr ?_ ?_ Qy Qs <;> (try dsimp only) <;> (try omega))
      refine ⟨hk, ?_⟩
      rw [take_snoc hk, List.mem_append, List.mem_singleton]
      rintro (h2 | h2)
      · exact i2 h2
      · subst h2
        simp at h
  · repeat' ((conv => whnf) <;> (first | refine zM ?_ | refine zW ?_ | intro _ | exact zF | refine Br.tt ?_ | refine Br.ff ?_ | (refine Br.mk (fun h => ?_) (fun h => ?_) <;> (try simp only [sh] at h) <;> try first | (exfalso; omega) | exact absurd trivial h | (simp at h; done)) | refine zA ?_ | refine zN ?_ | refine zO ?_ | refine zP ?_ | refine zB ?_ | refine lB ?_ | refine lBA ?_ | refine zK ?_ | refine s1 ?_ | refine sA ?_ | refine zC ?_ | fail))
    conv => whnf
    rw [List.take_of_length_le (by omega)] at i2
    refine Fin.pure (congrArg B ?_)
    simp [i2]
theorem openL_cong {a b cl : List Lt} (h : ∀ x, x ∈ a ↔ x ∈ b) : openL a cl = openL b cl := by
  unfold openL
  congr 1
  funext l
  simp only [List.contains_eq_mem, h]
theorem unitF_cong {log : List Sg} : ∀ (ks : List Int) {a b : List Lt}, (∀ x, x ∈ a ↔ x ∈ b) → unitF log ks a = unitF log ks b
  | [], _, _, _ => rfl
  | k :: ks, a, b, h => by
    rw [unitF, unitF, openL_cong h, unitF_cong ks (a := _ :: a) (b := _ :: b) fun x => by rw [List.mem_cons, List.mem_cons, h]]
theorem Ix.mapNs {w : Bool} {i : Nat} {k : AV → Prop} {α : Type} [Inhabited α] {f : α → AV} {ys : List α} {s : α} (hs : ys.getD i default = s) (h : w = true → i < ys.length) (hk : k (f s)) : Ix w (ys.map f) (i : Int) k := .mapN h (by rw [hs]; exact hk)
theorem some_C (p : Pl) (s : Sg) : someB p s = (decide (s.frm.length = 0) && someC p s.cl) := by
  unfold someB someC
  simp only [Bool.and_assoc]
theorem one_C (s : Sg) : oneB s = (decide (s.frm.length = 0) && oneC s.cl) := by
  unfold oneB oneC
  simp only [Bool.and_assoc]
theorem bad_C (p : Pl) (s : Sg) : badS p s = (decide (s.frm.length = 0) && badC p s.cl) := by
  unfold badS badC denS denC
  by_cases h1 : s.frm.length = 0
  · by_cases h2 : 0 < s.cl.length
    · rw [decide_eq_true h1, decide_eq_true h2, if_pos (show (true && true) = true from rfl)]
      cases denL s.cl (List.replicate p.duties.length (-1)) <;> simp
    · rw [decide_eq_true h1, decide_eq_false h2, if_neg (by simp)]
      cases denL s.cl (List.replicate p.duties.length (-1)) <;> simp
  · rw [decide_eq_false h1, Bool.false_and, if_neg (by simp), Bool.false_and]
theorem cost_C (p : Pl) (b : Int) (s : Sg) : costS p b s = (decide (s.frm.length = 0) && costC p b s.cl) := by
  unfold costS costC denS denC
  by_cases h1 : s.frm.length = 0
  · by_cases h2 : 0 < s.cl.length
    · rw [decide_eq_true h1, decide_eq_true h2, if_pos (show (true && true) = true from rfl)]
      cases denL s.cl (List.replicate p.duties.length (-1)) <;> simp
    · rw [decide_eq_true h1, decide_eq_false h2, if_neg (by simp)]
      cases denL s.cl (List.replicate p.duties.length (-1)) <;> simp
  · rw [decide_eq_false h1, Bool.false_and, if_neg (by simp), Bool.false_and]
theorem rule_C (p : Pl) (b : Int) (log : List Sg) (k : Int) (s : Sg) : ruleB p b log k s = if s.rule = 5 then unitB log k s else decide (s.frm.length = 0) && (if s.rule = 1 then someC p s.cl else if s.rule = 2 then oneC s.cl else if s.rule = 3 then badC p s.cl else if s.rule = 4 then costC p b s.cl else false) := by
  unfold ruleB
  rw [some_C, one_C, bad_C, cost_C]
  by_cases h5 : s.rule = 5
  · rw [if_pos h5, if_neg (by omega), if_neg (by omega), if_neg (by omega), if_neg (by omega), if_pos h5]
  · rw [if_neg h5, if_neg h5]
    split
    · rfl
    split
    · rfl
    split
    · rfl
    split
    · rfl
    · rw [Bool.and_false]
theorem c0some_ok (p : Pl) (l : List Lt) (hd : p.duties.length ≤ 1000) (hw : p.workers.length ≤ 1000) (_hl : l.length ≤ 100000) : FnA Tryz.prog 41 [.agg (pcs p), .sl 3 (l.map ltav)] (B (someC p l)) := by
  have hld : (p.duties.map duav).length = p.duties.length := by simp
  have hlw : (p.workers.map wkav).length = p.workers.length := by simp
  have hll : (l.map ltav).length = l.length := by simp
  refine fn_run (T := tab) Tryz.func41 rfl Tryz.ntmps41 rfl Tryz.results41 (fun _ => ?_)
  repeat' ((conv => whnf) <;> (first | refine zM ?_ | refine zW ?_ | intro _ | exact zF | refine Br.tt ?_ | refine Br.ff ?_ | (refine Br.mk (fun h => ?_) (fun h => ?_) <;> (try simp only [sh] at h) <;> try first | (exfalso; omega) | exact absurd trivial h | (simp at h; done)) | refine zA ?_ | refine zN ?_ | refine zO ?_ | refine zP ?_ | refine zB ?_ | refine lB ?_ | refine lBA ?_ | refine zK ?_ | refine s1 ?_ | refine sA ?_ | refine zC ?_ | fail))
  · conv => whnf
    refine Fin.pure (congrArg B ?_)
    refine (Bool.eq_false_iff.2 fun hc => ?_).symm
    unfold someC at hc
    simp only [Bool.and_eq_true, decide_eq_true_eq] at hc
    omega
  have hS : someC p l = (List.range l.length).all (rowB l) := by
    unfold someC
    rw [decide_eq_true (by omega), decide_eq_true (by omega)]
    rfl
  (conv => whnf); refine CK.loop [4, 5, 6, 19, 20, 21, 22, 23, 24, 25, 26, 27, 28, 29, 30, 31, 32, 33, 34, 35, 36] (σ := Nat) (fun k => k ≤ l.length ∧ (List.range k).all (rowB l) = true) (fun k => [(5, I k)]) (fun _ => _) (fun k => l.length - k) 0 ⟨Nat.zero_le _, rfl⟩ Qy (List.Sublist.refl _) ?_
  conv => whnf
  rintro k ⟨i1, i2⟩
  by_cases hk : k < l.length
  · have hq := eqLt (l.getD k default) ⟨(l.getD 0 default).du, (k : Int), true⟩
    repeat' ((conv => whnf) <;> (first | refine zM ?_ | refine zW ?_ | intro _ | exact zF | refine Br.tt ?_ | refine Br.ff ?_ | (refine Br.mk (fun h => ?_) (fun h => ?_) <;> (try simp only [sh] at h) <;> try first | (exfalso; omega) | exact absurd trivial h | (simp at h; done)) | refine zA ?_ | refine zN ?_ | refine zO ?_ | refine zP ?_ | refine zB ?_ | refine Ask.of (Gr.eqlS rfl rfl rfl rfl (eqs124 _ _ _ _ _ _)) ?_ | refine Ask.of (Gr.neqS rfl rfl rfl rfl (eqs124 _ _ _ _ _ _)) ?_ | refine Ask.of (Gr.eqlS rfl rfl rfl rfl (eqs28 _ _ _ _)) ?_ | refine Ask.of (Gr.neqS rfl rfl rfl rfl (eqs28 _ _ _ _)) ?_ | refine Ask.of (Gr.eqlS rfl rfl rfl rfl (eqs165 _ _ _ _)) ?_ | refine Ask.of (Gr.neqS rfl rfl rfl rfl (eqs165 _ _ _ _)) ?_ | refine Ask.of (Gr.eqlS rfl rfl rfl rfl (eqs90 _ _ _ _ _ _ _ _)) ?_ | refine Ask.of (Gr.neqS rfl rfl rfl rfl (eqs90 _ _ _ _ _ _ _ _)) ?_ | refine lB ?_ | refine lBA ?_ | refine zK ?_ | refine s1 ?_ | refine sA ?_ | refine zC ?_ | fail))
    · conv => whnf
      refine Fin.pure (congrArg B ?_)
      rw [hS, all_fail hk]
      unfold rowB
      rw [← hq]
      grind
    · (conv => whnf); (refine Nxt.of (k + 1) [4, 5, 6, 19, 20, 21, 22, 23, 24, 25, 26, 27, 28, 29, 30, 31, 32, 33, 34, 35, 36] Qr Qr Qr ?_ ?_ Qy Qs <;> (try dsimp only) <;> (try omega))
      refine ⟨hk, all_succ i2 ?_⟩
      unfold rowB
      rw [← hq]
      grind
  · obtain rfl : k = l.length := by omega
    repeat' ((conv => whnf) <;> (first | refine zM ?_ | refine zW ?_ | intro _ | exact zF | refine Br.tt ?_ | refine Br.ff ?_ | (refine Br.mk (fun h => ?_) (fun h => ?_) <;> (try simp only [sh] at h) <;> try first | (exfalso; omega) | exact absurd trivial h | (simp at h; done)) | refine zA ?_ | refine zN ?_ | refine zO ?_ | refine zP ?_ | refine zB ?_ | refine lB ?_ | refine lBA ?_ | refine zK ?_ | refine s1 ?_ | refine sA ?_ | refine zC ?_ | fail))
    conv => whnf
    exact Fin.pure (congrArg B (hS.trans i2).symm)
set_option maxRecDepth 4000 in
set_option maxHeartbeats 4000000 in
theorem c0partial_ok (p : Pl) (l : List Lt) (hd : p.duties.length ≤ 1000) (hl : l.length ≤ 100000) (hp : l.all (properB p) = true) :
    FnA Tryz.prog 39 [.agg (pcs p), .sl 3 (l.map ltav)] (.tup [.sl 1 (((denC p l).getD []).map I), B ((denC p l).isSome && decide (0 < l.length))]) := by
  have hld : (p.duties.map duav).length = p.duties.length := by simp
  have hll : (l.map ltav).length = l.length := by simp
  have hlr : (List.replicate p.duties.length (AV.v (.int .i64 0))).length = p.duties.length := by simp
  refine fn_run (T := tab) Tryz.func39 rfl Tryz.ntmps39 rfl Tryz.results39 (fun _ => ?_)
  repeat' ((conv => whnf) <;> (first | refine nR (T := tab) ?_ | (refine LK.eff (Eff.mkS (T := tab) (N := p.duties.length) (z := .int .i64 0) rfl rfl rfl rfl (congrArg (fun q : Nat => some (I (q : Int))) hld) (by omega)) ?_ <;> rintro _ _ ⟨A1, B1, C1, rfl, rfl⟩) | refine zM ?_ | refine zW ?_ | intro _ | exact zF | refine Br.tt ?_ | refine Br.ff ?_ | (refine Br.mk (fun h => ?_) (fun h => ?_) <;> (try simp only [sh] at h) <;> try first | (exfalso; omega) | exact absurd trivial h | (simp at h; done)) | refine zA ?_ | refine zN ?_ | refine zO ?_ | refine zP ?_ | refine zB ?_ | refine lB ?_ | refine lBA ?_ | refine zK ?_ | refine s1 ?_ | refine sA ?_ | refine pS ?_ | refine Kx.nil ?_ | refine Kx.stp rfl rfl Qs ?_ | refine kA ?_ | refine kS ?_ | (refine Kx.frzR 0 rfl ?_ <;> refine kF ?_) | refine kP ?_ | refine k1 ?_ | refine kB ?_ | refine kL ?_ | refine zC ?_ | fail))
  rename_i bp
  (conv => whnf); refine CK.loopK [7, 14, 15, 16, 17, 18, 19, 20, 21, 22] (σ := Nat) (fun k => k ≤ p.duties.length) (fun k => [(7, I k)]) (fun k => [.row (.slice A1 B1 C1) 3 1 0 false ((List.replicate k (-1) ++ List.replicate (p.duties.length - k) 0).map I)]) [.blk bp 32 false (pcs p)] (fun k => p.duties.length - k) 0 (Nat.zero_le _) Qy (by
    have e : (List.replicate 0 (-1 : Int) ++ List.replicate (p.duties.length - 0) 0).map I = List.replicate p.duties.length (AV.v (.int .i64 0)) := by rw [List.replicate_zero, List.nil_append, Nat.sub_zero, List.map_replicate]
    rw [e]
    exact Qs) ?_
  conv => whnf
  rintro k i1
  have hkl0 : (List.replicate k (-1 : Int) ++ List.replicate (p.duties.length - k) 0).length = p.duties.length := by simp; omega
  have hkl : ((List.replicate k (-1 : Int) ++ List.replicate (p.duties.length - k) 0).map I).length = p.duties.length := by simp; omega
  by_cases hk : k < p.duties.length
  · have hset : ((List.replicate k (-1 : Int) ++ List.replicate (p.duties.length - k) 0).map I).set k ((I ((List.replicate k (-1 : Int) ++ List.replicate (p.duties.length - k) 0).getD k default)).setCell 0 (I (-1))) = (List.replicate (k + 1) (-1 : Int) ++ List.replicate (p.duties.length - (k + 1)) 0).map I := by
      have e1 : List.replicate (p.duties.length - k) (0 : Int) = 0 :: List.replicate (p.duties.length - (k + 1)) 0 := by
        rw [show p.duties.length - k = (p.duties.length - (k + 1)) + 1 by omega, List.replicate_succ]
      rw [e1, List.map_append, List.set_append_right _ _ (by simp), List.length_map, List.length_replicate, Nat.sub_self, List.replicate_succ', List.append_assoc, List.map_append]
      rfl
    repeat' ((conv => whnf) <;> (first | (refine LK.stRM (a := k) (j := 0) 0 rfl rfl rfl rfl rfl (Nat.zero_le _) (by simp; omega) rfl rfl ?_ <;> rw [hset]) | refine iR (T := tab) ?_ | refine nR (T := tab) ?_ | refine zM ?_ | refine zW ?_ | intro _ | exact zF | refine Br.tt ?_ | refine Br.ff ?_ | (refine Br.mk (fun h => ?_) (fun h => ?_) <;> (try simp only [sh] at h) <;> try first | (exfalso; omega) | exact absurd trivial h | (simp at h; done)) | refine zA ?_ | refine zN ?_ | refine zO ?_ | refine zP ?_ | refine zB ?_ | refine lB ?_ | refine lBA ?_ | refine lM ?_ | refine lM0 ?_ | refine lMA ?_ | refine sM ?_ | refine zK ?_ | refine s1 ?_ | refine sA ?_ | refine pS ?_ | refine Kx.nil ?_ | refine Kx.stp rfl rfl Qs ?_ | refine kA ?_ | refine kS ?_ | (refine Kx.frzR 0 rfl ?_ <;> refine kF ?_) | refine kP ?_ | refine k1 ?_ | refine kB ?_ | refine kL ?_ | refine zC ?_ | fail))
    (conv => whnf); (refine Nxt.of (k + 1) [7, 14, 15, 16, 17, 18, 19, 20, 21, 22] Qr Qr Qr ?_ ?_ Qy ?_ <;> (try dsimp only) <;> (try omega))
    exact Qs
  obtain rfl : k = p.duties.length := by omega
  have e0 : (List.replicate p.duties.length (-1 : Int) ++ List.replicate (p.duties.length - p.duties.length) 0) = List.replicate p.duties.length (-1) := by rw [Nat.sub_self, List.replicate_zero, List.append_nil]
  rw [e0] at hkl ⊢
  repeat' ((conv => whnf) <;> (first | refine nR (T := tab) ?_ | refine zM ?_ | refine zW ?_ | intro _ | exact zF | refine Br.tt ?_ | refine Br.ff ?_ | (refine Br.mk (fun h => ?_) (fun h => ?_) <;> (try simp only [sh] at h) <;> try first | (exfalso; omega) | exact absurd trivial h | (simp at h; done)) | refine zA ?_ | refine zN ?_ | refine zO ?_ | refine zP ?_ | refine zB ?_ | refine lB ?_ | refine lBA ?_ | refine zK ?_ | refine s1 ?_ | refine sA ?_ | refine pS ?_ | refine zC ?_ | fail))
  (conv => whnf); refine CK.loopK [4, 5, 8, 9, 23, 24, 25, 26, 27, 28, 29, 30, 31, 32, 33, 34, 35, 36, 37, 38, 39, 40, 41, 42, 43, 44, 45, 46, 47, 48] (σ := Nat × List Int) (fun s => s.1 ≤ l.length ∧ s.2.length = p.duties.length ∧ denC p l = denL (l.drop s.1) s.2) (fun ⟨k, _⟩ => [(8, I k)]) (fun ⟨_, r⟩ => [.row (.slice A1 B1 C1) 3 1 0 false (r.map I)]) [.blk bp 32 false (pcs p)] (fun s => l.length - s.1) (0, List.replicate p.duties.length (-1)) ⟨Nat.zero_le _, by simp, rfl⟩ Qy (List.Sublist.refl _) ?_
  conv => whnf
  rintro ⟨k, r⟩ ⟨j1, j2, j3⟩
  simp only at j1 j2 j3
  have hlr : (r.map I).length = r.length := by simp
  by_cases hk : k < l.length
  · have hpk := properB_iff.1 (List.all_eq_true.1 hp _ (gAt hk))
    rw [denL_at hk] at j3
    have hset := set_Ir r (l.getD k default).du.toNat (l.getD k default).wk
    repeat' ((conv => whnf) <;> (first | refine LK.stRM (a := (l.getD k default).du.toNat) (j := 0) 1 rfl rfl rfl rfl rfl (Nat.zero_le _) (by omega) rfl rfl ?_ | refine Ask.idxR (T := tab) 1 rfl rfl rfl rfl (fun _ => by omega) ?_ | refine zM ?_ | refine zW ?_ | intro _ | exact zF | refine Br.tt ?_ | refine Br.ff ?_ | (refine Br.mk (fun h => ?_) (fun h => ?_) <;> (try simp only [sh] at h) <;> try first | (exfalso; omega) | exact absurd trivial h | (simp at h; done)) | refine zA ?_ | refine zN ?_ | refine zO ?_ | refine zP ?_ | refine zB ?_ | refine lB ?_ | refine lBA ?_ | refine lM ?_ | refine lM0 ?_ | refine lMA ?_ | refine sM ?_ | refine zK ?_ | refine s1 ?_ | refine sA ?_ | refine Kx.nil ?_ | refine Kx.stp rfl rfl Qs ?_ | refine kA ?_ | (refine Kx.frzR 0 rfl ?_ <;> refine kF ?_) | refine kP ?_ | refine k1 ?_ | refine kB ?_ | refine kL ?_ | refine zC ?_ | fail))
    · conv => whnf
      rw [if_neg (by simp only [Bool.and_eq_true, Bool.not_eq_true', decide_eq_true_eq]; exact fun h2 => h.elim (fun h => by rw [h2.1] at h; cases h) (fun h => by omega))] at j3
      rw [j3]
      exact Fin.seeP (Sb.tup (.cons Sb.nil (.cons (.refl _) .nil)))
    · rw [if_pos (by simp only [Bool.and_eq_true, Bool.not_eq_true', decide_eq_true_eq]; exact ⟨h.1, by omega⟩)] at j3
      (conv => whnf); (refine Nxt.of ((k + 1, r.set (l.getD k default).du.toNat (l.getD k default).wk)) [4, 5, 8, 9, 23, 24, 25, 26, 27, 28, 29, 30, 31, 32, 33, 34, 35, 36, 37, 38, 39, 40, 41, 42, 43, 44, 45, 46, 47, 48] Qr Qr Qr ?_ ?_ Qy ?_ <;> (try dsimp only) <;> (try omega))
      · exact ⟨hk, by rw [List.length_set]; exact j2, j3⟩
      · rw [← hset]
        exact Qs
  · rw [List.drop_eq_nil_of_le (by omega), denL] at j3
    repeat' ((conv => whnf) <;> (first | refine zM ?_ | refine zW ?_ | intro _ | exact zF | refine Br.tt ?_ | refine Br.ff ?_ | (refine Br.mk (fun h => ?_) (fun h => ?_) <;> (try simp only [sh] at h) <;> try first | (exfalso; omega) | exact absurd trivial h | (simp at h; done)) | refine zA ?_ | refine zN ?_ | refine zO ?_ | refine zP ?_ | refine zB ?_ | refine lB ?_ | refine lBA ?_ | refine lM ?_ | refine lM0 ?_ | refine lMA ?_ | refine sM ?_ | refine zK ?_ | refine s1 ?_ | refine sA ?_ | refine zC ?_ | fail))
    conv => whnf
    refine Fin.frzR 0 rfl ?_
    rw [j3]
    refine Fin.see (Sb.tup (.cons (Sb.row 0 rfl) (.cons (.refl _) .nil))) ?_
    refine Fin.pure ?_
    rw [hll]
    simp
/-- the least wage of the first workers that agree -/
def lsF (p : Pl) (r : Int) (k : Nat) : Int := if 0 ≤ r then (if r < k then (p.workers.getD r.toNat default).wage else -1) else if k = 0 then -1 else cheapL (p.workers.take k)
theorem lsF_bd {p : Pl} (hv : validP p = true) {r : Int} (hr : r < p.workers.length) (k : Nat) : -1 ≤ lsF p r k ∧ lsF p r k ≤ 1000000 ∧ (r < 0 → (lsF p r k < 0 ↔ k = 0)) := by
  unfold lsF
  have hc := cheapL_bd (l := p.workers.take k) fun w hw => wage_bd hv w (List.mem_of_mem_take hw)
  split
  · split
    · have := wage_bd hv _ (gAt (show r.toNat < p.workers.length by omega))
      omega
    · omega
  · split <;> omega
theorem lsF_succ {p : Pl} (hv : validP p = true) {r : Int} {k : Nat} (hr : r < p.workers.length) (hk : k < p.workers.length) : lsF p r (k + 1) = if r = k ∨ (r < 0 ∧ (lsF p r k < 0 ∨ (p.workers.getD k default).wage < lsF p r k)) then (p.workers.getD k default).wage else lsF p r k := by
  have hb := lsF_bd hv hr k
  by_cases h0 : 0 ≤ r
  · unfold lsF
    rw [if_pos h0, if_pos h0]
    by_cases h1 : r = k
    · subst h1
      rw [if_pos (by omega), if_pos (.inl rfl), Int.toNat_natCast]
    · rw [if_neg (show ¬ (r = k ∨ _) by omega)]
      by_cases h2 : r < k
      · rw [if_pos (by omega), if_pos h2]
      · rw [if_neg (by omega), if_neg h2]
  · have h3 := hb.2.2 (by omega)
    have e1 : lsF p r (k + 1) = cheapL (p.workers.take (k + 1)) := by unfold lsF; rw [if_neg h0, if_neg (by omega)]
    rw [e1, take_snoc hk, cheap_snoc, List.length_take, Nat.min_eq_left (by omega)]
    by_cases hk0 : k = 0
    · rw [if_pos (.inl hk0), if_pos (.inr ⟨by omega, .inl (h3.2 hk0)⟩)]
    · have e2 : lsF p r k = cheapL (p.workers.take k) := by unfold lsF; rw [if_neg h0, if_neg hk0]
      rw [e2] at h3 ⊢
      by_cases hw : (p.workers.getD k default).wage < cheapL (p.workers.take k)
      · rw [if_pos (.inr hw), if_pos (.inr ⟨by omega, .inr hw⟩)]
      · rw [if_neg (by omega), if_neg (by omega)]
theorem lsF_all {p : Pl} (hv : validP p = true) {r : Int} (hr : r < p.workers.length) : max (lsF p r p.workers.length) 0 = if 0 ≤ r then (p.workers.getD r.toNat default).wage else cheapL p.workers := by
  unfold lsF
  split
  · have := wage_bd hv _ (gAt (show r.toNat < p.workers.length by omega))
    first | (rw [if_pos hr]; omega) | omega
  · rw [List.take_length]
    have hc := cheapL_bd (wage_bd hv)
    split
    · rename_i h
      rw [List.eq_nil_of_length_eq_zero h]
      rfl
    · omega
set_option maxRecDepth 4000 in
set_option maxHeartbeats 4000000 in
theorem c0Floor_ok (p : Pl) (ro : List Int) (hs : Small p) (hv : validP p = true) (hri : isRo p ro = true) : FnA Tryz.prog 43 [.agg (pcs p), .sl 1 (ro.map I)] (I (fullP p ro p.duties)) := by
  have hrl := (isRo_iff.1 hri).1
  have hro := (isRo_iff.1 hri).2
  have hsd := hs.du
  have hsw := hs.wk
  have hlr : (ro.map I).length = ro.length := by simp
  have hld : (p.duties.map duav).length = p.duties.length := by simp
  have hlw : (p.workers.map wkav).length = p.workers.length := by simp
  have hV := validP_iff.1 hv
  refine fn_run (T := tab) Tryz.func43 rfl Tryz.ntmps43 rfl Tryz.results43 (fun _ => ?_)
  repeat' ((conv => whnf) <;> (first | refine zM ?_ | refine zW ?_ | intro _ | exact zF | refine Br.tt ?_ | refine Br.ff ?_ | (refine Br.mk (fun h => ?_) (fun h => ?_) <;> (try simp only [sh] at h) <;> try first | (exfalso; omega) | exact absurd trivial h | (simp at h; done)) | refine zA ?_ | refine zN ?_ | refine zO ?_ | refine zP ?_ | refine zB ?_ | refine lB ?_ | refine lBA ?_ | refine zK ?_ | refine s1 ?_ | refine sA ?_ | refine zC ?_ | fail))
  (conv => whnf); refine CK.loopK [5, 6, 7, 8, 9, 10, 11, 12, 13, 14, 15, 16, 17, 18, 19, 20, 21, 22, 23, 24, 25, 26, 27, 28, 29, 30, 31, 32, 33, 34, 35, 36, 37, 38, 39, 40, 41, 42, 43, 44, 45, 46, 47, 48, 49, 50, 51, 52, 53, 54, 55, 56, 57, 58, 59, 60, 61, 62, 63, 64, 65, 66, 67, 68, 69, 70, 71, 72] (σ := Nat × Int) (fun s => s.1 ≤ ro.length ∧ s.2 = fullP p (ro.take s.1) (p.duties.take s.1) ∧ 0 ≤ s.2 ∧ s.2 ≤ 1440000000 * s.1) (fun ⟨k, n⟩ => [(6, I k), (5, I n)]) (fun _ => []) _ (fun s => ro.length - s.1) (0, 0) ⟨Nat.zero_le _, by simp [fullP], by simp, by simp⟩ Qy (List.Sublist.refl _) ?_
  conv => whnf
  rintro ⟨k, n⟩ ⟨i1, i2, i3, i4⟩
  simp only at i1 i2 i3 i4
  dsimp only
  by_cases hk : k < ro.length
  · have hwk := hro _ (gAt hk)
    have hdk := List.all_eq_true.1 hV.2.2.2.1 _ (gAt (show k < p.duties.length by omega))
    have hdb := duB_bd (dutyOk.b hdk)
    have tf := termF_bd hv hwk.2 hdk
    have s1 := fullP_snoc p (ro.getD k default) (p.duties.getD k default) (a := ro.take k) (b := p.duties.take k) (by simp; omega)
    rw [← take_snoc hk, ← take_snoc (show k < p.duties.length by omega), ← i2] at s1
    have hall := lsF_all hv hwk.2
    unfold termF at s1 tf
    rw [← hall] at s1 tf
    generalize hr : ro.getD k default = r at *
    repeat' ((conv => whnf) <;> (first | refine Ix.mapNs hr Qw ?_ | refine zM ?_ | refine zW ?_ | intro _ | exact zF | refine Br.tt ?_ | refine Br.ff ?_ | (refine Br.mk (fun h => ?_) (fun h => ?_) <;> (try simp only [sh] at h) <;> try first | (exfalso; omega) | exact absurd trivial h | (simp at h; done)) | refine zA ?_ | refine zN ?_ | refine zO ?_ | refine zP ?_ | refine zB ?_ | refine lB ?_ | refine lBA ?_ | refine zK ?_ | refine s1 ?_ | refine sA ?_ | refine zC ?_ | fail))
    (conv => whnf); refine CK.loopK [7, 8, 15, 16, 17, 18, 19, 20, 21, 22, 23, 24, 25, 26, 27, 28, 29, 30, 31, 32, 33, 34, 35, 36, 37, 38, 39, 40, 41, 42, 43, 44, 45, 46, 47, 48, 49, 50, 51, 52, 53, 54] (σ := Nat × Int) (fun q => q.1 ≤ p.workers.length ∧ q.2 = lsF p r q.1) (fun ⟨j, l⟩ => [(8, I j), (7, I l)]) (fun _ => []) _ (fun q => p.workers.length - q.1) (0, -1) ⟨Nat.zero_le _, by simp only; unfold lsF; split <;> first | (rw [if_neg (by omega)]) | rfl⟩ Qy (List.Sublist.refl _) ?_
    conv => whnf
    rintro ⟨j, l⟩ ⟨j1, j2⟩
    simp only at j1 j2
    have hlb := lsF_bd hv hwk.2 j
    rw [← j2] at hlb
    by_cases hj : j < p.workers.length
    · have hsu := lsF_succ hv hwk.2 hj
      have hwb := wage_bd hv _ (gAt hj)
      rw [← j2] at hsu
      repeat' ((conv => whnf) <;> (first | refine Ix.mapNs hr Qw ?_ | refine zM ?_ | refine zW ?_ | intro _ | exact zF | refine Br.tt ?_ | refine Br.ff ?_ | (refine Br.mk (fun h => ?_) (fun h => ?_) <;> (try simp only [sh] at h) <;> try first | (exfalso; omega) | exact absurd trivial h | (simp at h; done)) | refine zA ?_ | refine zN ?_ | refine zO ?_ | refine zP ?_ | refine zB ?_ | refine lB ?_ | refine lBA ?_ | refine zK ?_ | refine s1 ?_ | refine sA ?_ | refine zC ?_ | fail))
      · rename_i h
        rw [if_pos (by grind)] at hsu
        (conv => whnf); (refine Nxt.of ((j + 1, (p.workers.getD j default).wage)) [7, 8, 15, 16, 17, 18, 19, 20, 21, 22, 23, 24, 25, 26, 27, 28, 29, 30, 31, 32, 33, 34, 35, 36, 37, 38, 39, 40, 41, 42, 43, 44, 45, 46, 47, 48, 49, 50, 51, 52, 53, 54] Qr Qr Qr ?_ ?_ Qy Qs <;> (try dsimp only) <;> (try omega))
      · rename_i h
        rw [if_neg (by grind)] at hsu
        (conv => whnf); (refine Nxt.of ((j + 1, l)) [7, 8, 15, 16, 17, 18, 19, 20, 21, 22, 23, 24, 25, 26, 27, 28, 29, 30, 31, 32, 33, 34, 35, 36, 37, 38, 39, 40, 41, 42, 43, 44, 45, 46, 47, 48, 49, 50, 51, 52, 53, 54] Qr Qr Qr ?_ ?_ Qy Qs <;> (try dsimp only) <;> (try omega))
    · obtain rfl : j = p.workers.length := by omega
      rw [← j2] at s1 tf
      repeat' ((conv => whnf) <;> (first | refine Ix.mapNs hr Qw ?_ | refine zM ?_ | refine zW ?_ | intro _ | exact zF | refine Br.tt ?_ | refine Br.ff ?_ | (refine Br.mk (fun h => ?_) (fun h => ?_) <;> (try simp only [sh] at h) <;> try first | (exfalso; omega) | exact absurd trivial h | (simp at h; done)) | refine zA ?_ | refine zN ?_ | refine zO ?_ | refine zP ?_ | refine zB ?_ | refine lB ?_ | refine lBA ?_ | refine zK ?_ | refine s1 ?_ | refine sA ?_ | refine zC ?_ | fail))
      (conv => whnf); (refine Nxt.of ((k + 1, n + max l 0 * ((p.duties.getD k default).to_ - (p.duties.getD k default).frm))) [5, 6, 7, 8, 9, 10, 11, 12, 13, 14, 15, 16, 17, 18, 19, 20, 21, 22, 23, 24, 25, 26, 27, 28, 29, 30, 31, 32, 33, 34, 35, 36, 37, 38, 39, 40, 41, 42, 43, 44, 45, 46, 47, 48, 49, 50, 51, 52, 53, 54, 55, 56, 57, 58, 59, 60, 61, 62, 63, 64, 65, 66, 67, 68, 69, 70, 71, 72] Qr Qr Qr ?_ ?_ Qy ?_ <;> (try dsimp only) <;> (try omega))
      exact Qs
  · rw [List.take_of_length_le (by omega), List.take_of_length_le (by omega)] at i2
    repeat' ((conv => whnf) <;> (first | refine zM ?_ | refine zW ?_ | intro _ | exact zF | refine Br.tt ?_ | refine Br.ff ?_ | (refine Br.mk (fun h => ?_) (fun h => ?_) <;> (try simp only [sh] at h) <;> try first | (exfalso; omega) | exact absurd trivial h | (simp at h; done)) | refine zA ?_ | refine zN ?_ | refine zO ?_ | refine zP ?_ | refine zB ?_ | refine lB ?_ | refine lBA ?_ | refine zK ?_ | refine s1 ?_ | refine sA ?_ | refine zC ?_ | fail))
    conv => whnf
    exact Fin.pure (congrArg I i2)
/-- each literal once -/
def ddL (l : List Lt) : List Lt := l.foldl (fun a x => if a.contains x then a else a ++ [x]) []
theorem ddL_snoc (l : List Lt) (x : Lt) : ddL (l ++ [x]) = if (ddL l).contains x then ddL l else ddL l ++ [x] := by
  unfold ddL
  rw [List.foldl_append]
  rfl
theorem ddL_mems : ∀ (l : List Lt) (x : Lt), x ∈ ddL l ↔ x ∈ l := fun l => by
  rw [← List.reverse_reverse l]
  induction l.reverse with
  | nil => simp [ddL]
  | cons y l ih =>
    intro x
    rw [List.reverse_cons, ddL_snoc]
    split
    · rename_i h
      rw [List.contains_iff_mem, ih] at h
      rw [ih, List.mem_append, List.mem_singleton]
      exact ⟨.inl, fun hh => hh.elim id fun e => by rw [e]; exact h⟩
    · rw [List.mem_append, List.mem_append, ih]
theorem ddL_mem {x : Lt} (l : List Lt) : x ∈ ddL l ↔ x ∈ l := ddL_mems l x
theorem ddL_len (l : List Lt) : (ddL l).length ≤ l.length := by
  rw [← List.reverse_reverse l]
  induction l.reverse with
  | nil => simp [ddL]
  | cons y l ih =>
    rw [List.reverse_cons, ddL_snoc]
    split
    · rw [List.length_append]; omega
    · rw [List.length_append, List.length_append]; simpa using ih
theorem ddL_hd : ∀ l : List Lt, (ddL l).getD 0 default = l.getD 0 default := fun l => by
  rw [← List.reverse_reverse l]
  induction l.reverse with
  | nil => rfl
  | cons y l ih =>
    rw [List.reverse_cons, ddL_snoc]
    by_cases h0 : l.reverse = []
    · rw [h0]; rfl
    · have hd : ddL l.reverse ≠ [] := fun e => h0 (List.eq_nil_iff_forall_not_mem.2 fun x hx => by rw [← ddL_mem, e] at hx; cases hx)
      have e1 : ∀ (a : List Lt), a ≠ [] → (a ++ [y]).getD 0 default = a.getD 0 default := fun a ha => by
        obtain ⟨b, a', rfl⟩ := List.exists_cons_of_ne_nil ha
        rfl
      rw [e1 _ h0]
      split
      · exact ih
      · rw [e1 _ hd]; exact ih
theorem ddL_nil {l : List Lt} : (ddL l).length = 0 ↔ l = [] := by
  constructor
  · intro h
    exact List.eq_nil_iff_forall_not_mem.2 fun x hx => by rw [← ddL_mem, List.eq_nil_of_length_eq_zero h] at hx; cases hx
  · rintro rfl; rfl
theorem ddL_nodup (l : List Lt) : (ddL l).Nodup := by
  rw [← List.reverse_reverse l]
  induction l.reverse with
  | nil => simp [ddL]
  | cons y l ih =>
    rw [List.reverse_cons, ddL_snoc]
    split
    · exact ih
    · rename_i h
      rw [List.contains_iff_mem] at h
      rw [List.nodup_append]
      exact ⟨ih, by simp, fun a ha b hb => by rw [List.mem_singleton] at hb; subst hb; exact fun e => h (by rw [← e]; exact ha)⟩
theorem ddL_same {l : List Lt} (h : l ≠ []) : (ddL l).length ≤ 1 ↔ sameL l = true := by
  unfold sameL
  rw [List.all_eq_true]
  simp only [decide_eq_true_eq]
  have h0 : 0 < (ddL l).length := Nat.pos_of_ne_zero fun e => h (ddL_nil.1 e)
  constructor
  · intro h1 x hx
    rw [← ddL_hd]
    have hm := (ddL_mem l).2 hx
    obtain ⟨i, hi, rfl⟩ := List.mem_iff_getElem.1 hm
    obtain rfl : i = 0 := by omega
    rw [getD_at hi]
  · intro h1
    apply Classical.byContradiction
    intro hn
    have a0 := (ddL_mem l).1 (List.getElem_mem h0)
    have a1 := (ddL_mem l).1 (List.getElem_mem (show 1 < (ddL l).length by omega))
    have := List.pairwise_iff_getElem.1 (ddL_nodup l) 0 1 h0 (by omega) (by omega)
    exact this (by rw [h1 _ a0, h1 _ a1])
set_option maxRecDepth 4000 in
set_option maxHeartbeats 16000000 in
theorem c0unit_ok (log : List Sg) (k : Nat) (hk : k < log.length) (_hll : log.length ≤ 100000) (hc : ∀ s ∈ log, s.cl.length ≤ 10000 ∧ s.frm.length ≤ 10000) : FnA Tryz.prog 44 [.sl 3 (log.map sgav), I k] (B (unitB log k (log.getD k default))) := by
  have hlg : (log.map sgav).length = log.length := by simp
  have hck := hc _ (gAt hk)
  generalize hs : log.getD k default = s at *
  have hlc : (s.cl.map ltav).length = s.cl.length := by simp
  have hlf : (s.frm.map I).length = s.frm.length := by simp
  refine fn_run (T := tab) Tryz.func44 rfl Tryz.ntmps44 rfl Tryz.results44 (fun _ => ?_)
  repeat' ((conv => whnf) <;> (first | refine Ix.mapNs hs Qw ?_ | refine zM ?_ | refine zW ?_ | intro _ | exact zF | refine Br.tt ?_ | refine Br.ff ?_ | (refine Br.mk (fun h => ?_) (fun h => ?_) <;> (try simp only [sh] at h) <;> try first | (exfalso; omega) | exact absurd trivial h | (simp at h; done)) | refine zA ?_ | refine zN ?_ | refine zO ?_ | refine zP ?_ | refine zB ?_ | refine lB ?_ | refine lBA ?_ | refine zK ?_ | refine s1 ?_ | refine sA ?_ | refine zC ?_ | fail))
  refine CK.nilrow 124 3 ?_
  (conv => whnf); refine CK.loopK [5, 6, 7, 14, 15, 16, 17, 18, 19, 20, 21, 22, 23, 24, 25, 26, 27, 28, 29, 30, 31, 32, 33, 34, 35, 36, 37, 38, 39] (σ := Nat × Option Addr × Nat × Nat) (fun q => q.1 ≤ s.cl.length) (fun ⟨j, A, q, cp⟩ => [(6, I j), (5, .v (.slice A q cp))]) (fun ⟨j, A, q, cp⟩ => [.row (.slice A q cp) 124 3 0 false (((s.cl.take j).map negL).map ltav)]) [] (fun q => s.cl.length - q.1) (0, none, 0, 0) (Nat.zero_le _) Qy (List.Sublist.refl _) ?_
  conv => whnf
  rintro ⟨j, A, q, cp⟩ i1
  simp only at i1
  by_cases hj : j < s.cl.length
  · have hrl : (((s.cl.take j).map negL).map ltav).length = j := by simp; omega
    repeat' ((conv => whnf) <;> (first | refine Ix.mapNs hs Qw ?_ | refine zM ?_ | refine zW ?_ | intro _ | exact zF | refine Br.tt ?_ | refine Br.ff ?_ | (refine Br.mk (fun h => ?_) (fun h => ?_) <;> (try simp only [sh] at h) <;> try first | (exfalso; omega) | exact absurd trivial h | (simp at h; done)) | refine zA ?_ | refine zN ?_ | refine zO ?_ | refine zP ?_ | refine zB ?_ | refine lB ?_ | refine lBA ?_ | refine zK ?_ | refine s1 ?_ | refine sA ?_ | refine pS ?_ | refine LK.gr (Gr.bslV rfl rfl rfl rfl) ?_ | refine Ask.of (Gr.bslV rfl rfl rfl rfl) ?_ | refine zC ?_ | refine zD ?_ | fail))
    rename_i A2 q2 cp2
    (conv => whnf); (refine Nxt.of ((j + 1, A2, q2, cp2)) [5, 6, 7, 14, 15, 16, 17, 18, 19, 20, 21, 22, 23, 24, 25, 26, 27, 28, 29, 30, 31, 32, 33, 34, 35, 36, 37, 38, 39] Qr Qr Qr ?_ ?_ Qy ?_ <;> (try dsimp only) <;> (try omega))
    rw [take_snoc hj, List.map_append, List.map_append]
    exact Qs
  have ej : s.cl.take j = s.cl := List.take_of_length_le (by omega)
  dsimp only
  rw [ej]
  repeat' ((conv => whnf) <;> (first | refine Ix.mapNs hs Qw ?_ | refine zM ?_ | refine zW ?_ | intro _ | exact zF | refine Br.tt ?_ | refine Br.ff ?_ | (refine Br.mk (fun h => ?_) (fun h => ?_) <;> (try simp only [sh] at h) <;> try first | (exfalso; omega) | exact absurd trivial h | (simp at h; done)) | refine zA ?_ | refine zN ?_ | refine zO ?_ | refine zP ?_ | refine zB ?_ | refine lB ?_ | refine lBA ?_ | refine zK ?_ | refine s1 ?_ | refine sA ?_ | refine pS ?_ | refine LK.gr (Gr.bslV rfl rfl rfl rfl) ?_ | refine Ask.of (Gr.bslV rfl rfl rfl rfl) ?_ | refine zC ?_ | refine zD ?_ | fail))
  (conv => whnf); refine CK.loopK [4, 5, 8, 9, 10, 11, 12, 13, 40, 41, 42, 43, 44, 45, 46, 47, 48, 49, 50, 51, 52, 53, 54, 55, 56, 57, 58, 59, 60, 61, 62, 63, 64, 65, 66, 67, 68, 69, 70, 71, 72, 73, 74, 75, 76, 77, 78, 79, 80, 81, 82, 83, 84, 85, 86, 87, 88, 89, 90, 91, 92, 93, 94, 95, 96, 97, 98, 99, 100, 101, 102, 103, 104, 105, 106, 107, 108, 109, 110, 111, 112, 113, 114, 115, 116, 117, 118, 119, 120, 121, 122] (σ := Nat × Nat × Bool × List Lt × Option Addr × Nat × Nat) (fun q => q.1 ≤ s.frm.length ∧ q.2.2.2.1.length ≤ s.cl.length + q.1 ∧ ((s.frm.take q.1).all fun j => decide (0 ≤ j) && decide (j < (k : Int))) = true ∧ unitF log s.frm (s.cl.map negL) = unitF log (s.frm.drop q.1) q.2.2.2.1) (fun ⟨e, _, _, _, A, q, cp⟩ => [(8, I e), (5, .v (.slice A q cp))]) (fun ⟨_, m, z, held, A, q, cp⟩ => [.row (.slice A q cp) 124 3 m z (held.map ltav)]) [] (fun q => s.frm.length - q.1) (0, 0, false, s.cl.map negL, A, q, cp) ⟨Nat.zero_le _, by simp, rfl, rfl⟩ Qy (List.Sublist.refl _) ?_
  conv => whnf
  rintro ⟨e, m, z, held, A, q, cp⟩ ⟨e1, e2, e3, e4⟩
  simp only at e1 e2 e3 e4
  dsimp only
  by_cases he : e < s.frm.length
  · generalize hfe : s.frm.getD e default = fe at *
    have hhl : (held.map ltav).length = held.length := by simp
    repeat' ((conv => whnf) <;> (first | refine Ix.mapNs hfe Qw ?_ | refine Ix.mapNs hs Qw ?_ | refine zM ?_ | refine zW ?_ | intro _ | exact zF | refine Br.tt ?_ | refine Br.ff ?_ | (refine Br.mk (fun h => ?_) (fun h => ?_) <;> (try simp only [sh] at h) <;> try first | (exfalso; omega) | exact absurd trivial h | (simp at h; done)) | refine zA ?_ | refine zN ?_ | refine zO ?_ | refine zP ?_ | refine zB ?_ | refine lB ?_ | refine lBA ?_ | refine zK ?_ | refine s1 ?_ | refine sA ?_ | refine pS ?_ | refine LK.gr (Gr.bslV rfl rfl rfl rfl) ?_ | refine Ask.of (Gr.bslV rfl rfl rfl rfl) ?_ | refine zC ?_ | refine zD ?_ | fail))
    · conv => whnf
      refine Fin.pure (congrArg B ?_)
      rw [unitB, all_at he, Bool.false_and]
      rw [hfe]
      simp only [Bool.and_eq_false_iff, decide_eq_false_iff_not]
      omega
    have hfk : 0 ≤ fe ∧ fe < (k : Int) := by omega
    have hkl : fe.toNat < log.length := by omega
    have hcc := hc _ (gAt hkl)
    rw [dropG he, hfe, unitF] at e4
    have e5 : ((s.frm.take (e + 1)).all fun j => decide (0 ≤ j) && decide (j < (k : Int))) = true := all_take e3 he (by rw [hfe]; simp only [Bool.and_eq_true, decide_eq_true_eq]; exact hfk)
    have hol := open_len held (log.getD fe.toNat default).cl
    have hcl : ((log.getD fe.toNat default).cl.map ltav).length = (log.getD fe.toNat default).cl.length := by simp
    repeat' ((conv => whnf) <;> (first | refine Ix.mapNs hs Qw ?_ | refine zM ?_ | refine zW ?_ | intro _ | exact zF | refine Br.tt ?_ | refine Br.ff ?_ | (refine Br.mk (fun h => ?_) (fun h => ?_) <;> (try simp only [sh] at h) <;> try first | (exfalso; omega) | exact absurd trivial h | (simp at h; done)) | refine zA ?_ | refine zN ?_ | refine zO ?_ | refine zP ?_ | refine zB ?_ | refine lB ?_ | refine lBA ?_ | refine zK ?_ | refine s1 ?_ | refine sA ?_ | refine pS ?_ | refine LK.gr (Gr.bslV rfl rfl rfl rfl) ?_ | refine Ask.of (Gr.bslV rfl rfl rfl rfl) ?_ | refine zC ?_ | refine zD ?_ | fail))
    conv => whnf
    refine CK.frzR 0 rfl ?_
    refine CK.nilrow 124 3 ?_
    (conv => whnf); refine CK.loopK [10, 11, 12, 13, 65, 66, 67, 68, 69, 70, 71, 72, 73, 74, 75, 76, 77, 78, 79, 80, 81, 82, 83, 84, 85, 86, 87, 88, 89, 90, 91, 92, 93, 94, 95, 96, 97, 98, 99, 100, 101] (σ := Nat × Nat × Bool × Option Addr × Nat × Nat) (fun q => q.1 ≤ (log.getD fe.toNat default).cl.length) (fun ⟨f, _, _, A', q', cp'⟩ => [(11, I f), (10, .v (.slice A' q' cp'))]) (fun ⟨f, m', z', A', q', cp'⟩ => [.row (.slice A' q' cp') 124 3 m' z' ((ddL (openL held ((log.getD fe.toNat default).cl.take f))).map ltav)]) [.row (.slice A q cp) 124 3 (held.map ltav).length true (held.map ltav)] (fun q => (log.getD fe.toNat default).cl.length - q.1) (0, 0, false, none, 0, 0) (Nat.zero_le _) Qy (List.Sublist.refl _) ?_
    conv => whnf
    rintro ⟨f, m', z', A', q', cp'⟩ f1
    simp only at f1
    by_cases hf : f < (log.getD fe.toNat default).cl.length
    · have c1 := c0has_ok held (negL ((log.getD fe.toNat default).cl.getD f default)) (by omega)
      have hdl := ddL_len (openL held ((log.getD fe.toNat default).cl.take f))
      have hol2 := open_len held ((log.getD fe.toNat default).cl.take f)
      rw [List.length_take, Nat.min_eq_left (by omega)] at hol2
      have c2 := c0has_ok (ddL (openL held ((log.getD fe.toNat default).cl.take f))) ((log.getD fe.toNat default).cl.getD f default) (by omega)
      have hot := open_take (held := held) hf
      have hddl : ((ddL (openL held ((log.getD fe.toNat default).cl.take f))).map ltav).length = (ddL (openL held ((log.getD fe.toNat default).cl.take f))).length := by simp
      repeat' ((conv => whnf) <;> (first | (refine LK.frzR 2 rfl ?_ <;> refine LK.callA ent75 c1 rfl rfl Ql ?_) | refine Ix.mapNs hs Qw ?_ | refine zM ?_ | refine zW ?_ | intro _ | exact zF | refine Br.tt ?_ | refine Br.ff ?_ | (refine Br.mk (fun h => ?_) (fun h => ?_) <;> (try simp only [sh] at h) <;> try first | (exfalso; omega) | exact absurd trivial h | (simp at h; done)) | refine zA ?_ | refine zN ?_ | refine zO ?_ | refine zP ?_ | refine zB ?_ | refine zL ent75 c2 ?_ | refine zG ent75 (fun h => c2) ?_ | refine lB ?_ | refine lBA ?_ | refine zK ?_ | refine s1 ?_ | refine sA ?_ | refine pS ?_ | refine LK.gr (Gr.bslV rfl rfl rfl rfl) ?_ | refine Ask.of (Gr.bslV rfl rfl rfl rfl) ?_ | refine zC ?_ | refine zD ?_ | fail))
      · rename_i A3 q3 cp3
        have hdd : ddL (openL held ((log.getD fe.toNat default).cl.take (f + 1))) = ddL (openL held ((log.getD fe.toNat default).cl.take f)) ++ [(log.getD fe.toNat default).cl.getD f default] := by
          rw [hot, if_neg (by grind), ddL_snoc, if_neg (by grind)]
        (conv => whnf); (refine Nxt.of ((f + 1, ((ddL (openL held ((log.getD fe.toNat default).cl.take f))).map ltav).length, false, A3, q3, cp3)) [10, 11, 12, 13, 65, 66, 67, 68, 69, 70, 71, 72, 73, 74, 75, 76, 77, 78, 79, 80, 81, 82, 83, 84, 85, 86, 87, 88, 89, 90, 91, 92, 93, 94, 95, 96, 97, 98, 99, 100, 101] Qr Qr Qr ?_ ?_ Qy ?_ <;> (try dsimp only) <;> (try omega))
        rw [hdd, List.map_append]
        exact Qs
      · have hdd : ddL (openL held ((log.getD fe.toNat default).cl.take (f + 1))) = ddL (openL held ((log.getD fe.toNat default).cl.take f)) := by
          rw [hot]
          by_cases h1 : held.contains (negL ((log.getD fe.toNat default).cl.getD f default)) = true
          · rw [if_pos h1, List.append_nil]
          · rw [if_neg h1, ddL_snoc, if_pos (by grind)]
        (conv => whnf); (refine Nxt.of ((f + 1, ((ddL (openL held ((log.getD fe.toNat default).cl.take f))).map ltav).length, true, A', q', cp')) [10, 11, 12, 13, 65, 66, 67, 68, 69, 70, 71, 72, 73, 74, 75, 76, 77, 78, 79, 80, 81, 82, 83, 84, 85, 86, 87, 88, 89, 90, 91, 92, 93, 94, 95, 96, 97, 98, 99, 100, 101] Qr Qr Qr ?_ ?_ Qy ?_ <;> (try dsimp only) <;> (try omega))
        rw [hdd]
        exact Qs
    · have ef : (log.getD fe.toNat default).cl.take f = (log.getD fe.toNat default).cl := List.take_of_length_le (by omega)
      dsimp only
      rw [ef]
      have hdl := ddL_len (openL held (log.getD fe.toNat default).cl)
      have hdh := ddL_hd (openL held (log.getD fe.toNat default).cl)
      have hdn := ddL_nil (l := openL held (log.getD fe.toNat default).cl)
      have hds := fun h => ddL_same (l := openL held (log.getD fe.toNat default).cl) h
      generalize openL held (log.getD fe.toNat default).cl = op at *
      generalize hdo : ddL op = dop at *
      have hop : (dop.map ltav).length = dop.length := by simp
      repeat' ((conv => whnf) <;> (first | refine lMA (T := tab) ?_ | refine iR (T := tab) ?_ | refine nR (T := tab) ?_ | refine Ix.mapNs hs Qw ?_ | refine zM ?_ | refine zW ?_ | intro _ | exact zF | refine Br.tt ?_ | refine Br.ff ?_ | (refine Br.mk (fun h => ?_) (fun h => ?_) <;> (try simp only [sh] at h) <;> try first | (exfalso; omega) | exact absurd trivial h | (simp at h; done)) | refine zA ?_ | refine zN ?_ | refine zO ?_ | refine zP ?_ | refine zB ?_ | refine lB ?_ | refine lBA ?_ | refine zK ?_ | refine s1 ?_ | refine sA ?_ | refine pS ?_ | refine LK.gr (Gr.bslV rfl rfl rfl rfl) ?_ | refine Ask.of (Gr.bslV rfl rfl rfl rfl) ?_ | refine zC ?_ | refine zD ?_ | fail))
      · rename_i h
        conv => whnf
        refine Fin.pure (congrArg B ?_)
        have : op = [] := hdn.1 (by omega)
        rw [if_pos this] at e4
        have e6 : unitB log k s = decide ((s.frm.drop (e + 1)).length = 0) ∨ unitB log k s = false ∧ (s.frm.drop (e + 1)).length ≠ 0 := by
          by_cases hz : (s.frm.drop (e + 1)).length = 0
          · left
            have hall : (s.frm.all fun j => decide (0 ≤ j) && decide (j < (k : Int))) = true := by
              rw [List.take_of_length_le (by rw [List.length_drop] at hz; omega)] at e5
              exact e5
            rw [unitB, hall, Bool.true_and, e4]
          · right
            refine ⟨?_, hz⟩
            rw [unitB, e4, decide_eq_false hz, Bool.and_false]
        rw [List.length_drop] at e6
        rcases e6 with e6 | ⟨e6, e7⟩
        · rw [e6, decide_eq_decide]
          omega
        · rw [e6, decide_eq_false_iff_not]
          omega
      · conv => whnf
        refine Fin.pure (congrArg B ?_)
        have hne : op ≠ [] := fun e => by have := hdn.2 e; omega
        have hsm : sameL op = false := Bool.eq_false_iff.2 fun hsm => by have := (hds hne).2 hsm; omega
        rw [if_neg hne, hsm, Bool.false_and] at e4
        rw [unitB, e4, Bool.and_false]
      · rename_i A4 q4 cp4
        have hne : op ≠ [] := fun e => by have := hdn.2 e; omega
        rw [if_neg hne, (hds hne).1 (by omega), Bool.true_and] at e4
        (conv => whnf); (refine Nxt.of ((e + 1, (held.map ltav).length, false, held ++ [op.getD 0 default], A4, q4, cp4)) [4, 5, 8, 9, 10, 11, 12, 13, 40, 41, 42, 43, 44, 45, 46, 47, 48, 49, 50, 51, 52, 53, 54, 55, 56, 57, 58, 59, 60, 61, 62, 63, 64, 65, 66, 67, 68, 69, 70, 71, 72, 73, 74, 75, 76, 77, 78, 79, 80, 81, 82, 83, 84, 85, 86, 87, 88, 89, 90, 91, 92, 93, 94, 95, 96, 97, 98, 99, 100, 101, 102, 103, 104, 105, 106, 107, 108, 109, 110, 111, 112, 113, 114, 115, 116, 117, 118, 119, 120, 121, 122] Qr Qr Qr ?_ ?_ Qy ?_ <;> (try dsimp only) <;> (try omega))
        · refine ⟨by omega, by simp; omega, e5, ?_⟩
          rw [e4]
          exact unitF_cong _ fun x => by simp [or_comm]
        · rw [List.map_append, ← hdh]
          exact Qs
  · rw [List.drop_eq_nil_of_le (by omega), unitF] at e4
    repeat' ((conv => whnf) <;> (first | refine Ix.mapNs hs Qw ?_ | refine zM ?_ | refine zW ?_ | intro _ | exact zF | refine Br.tt ?_ | refine Br.ff ?_ | (refine Br.mk (fun h => ?_) (fun h => ?_) <;> (try simp only [sh] at h) <;> try first | (exfalso; omega) | exact absurd trivial h | (simp at h; done)) | refine zA ?_ | refine zN ?_ | refine zO ?_ | refine zP ?_ | refine zB ?_ | refine lB ?_ | refine lBA ?_ | refine zK ?_ | refine s1 ?_ | refine sA ?_ | refine pS ?_ | refine LK.gr (Gr.bslV rfl rfl rfl rfl) ?_ | refine Ask.of (Gr.bslV rfl rfl rfl rfl) ?_ | refine zC ?_ | refine zD ?_ | fail))
    conv => whnf
    refine Fin.pure (congrArg B ?_)
    rw [unitB, e4, Bool.and_false]
def shortC (log : List Sg) : Bool := (log.all fun s => decide (s.cl.length ≤ 30) && decide (s.frm.length ≤ 80)) && decide (log.length ≤ 3000)
theorem c0Short_ok (log : List Sg) (hl : log.length ≤ 1000000) (hc : ∀ s ∈ log, s.cl.length ≤ 1000000 ∧ s.frm.length ≤ 1000000) : FnA Tryz.prog 17 [.sl 3 (log.map sgav)] (B (shortC log)) := by
  have hlg : (log.map sgav).length = log.length := by simp
  refine fn_run (T := tab) Tryz.func17 rfl Tryz.ntmps17 rfl Tryz.results17 (fun _ => ?_)
  repeat' ((conv => whnf) <;> (first | refine zM ?_ | refine zW ?_ | intro _ | exact zF | refine Br.tt ?_ | refine Br.ff ?_ | (refine Br.mk (fun h => ?_) (fun h => ?_) <;> (try simp only [sh] at h) <;> try first | (exfalso; omega) | exact absurd trivial h | (simp at h; done)) | refine zA ?_ | refine zN ?_ | refine zO ?_ | refine zP ?_ | refine zB ?_ | refine lB ?_ | refine lBA ?_ | refine zK ?_ | refine s1 ?_ | refine sA ?_ | refine zC ?_ | fail))
  (conv => whnf); refine CK.loop [2, 3, 4, 5, 6, 7, 8, 9, 10, 11, 12, 13, 14, 15, 16, 17, 18, 19, 20, 21, 22, 23, 24, 25] (σ := Nat) (fun k => k ≤ log.length ∧ ((log.take k).all fun s => decide (s.cl.length ≤ 30) && decide (s.frm.length ≤ 80)) = true) (fun k => [(3, I k)]) (fun _ => _) (fun k => log.length - k) 0 ⟨Nat.zero_le _, rfl⟩ Qy (List.Sublist.refl _) ?_
  conv => whnf
  rintro k ⟨i1, i2⟩
  by_cases hk : k < log.length
  · have hck := hc _ (gAt hk)
    have hlc : ((log.getD k default).cl.map ltav).length = (log.getD k default).cl.length := by simp
    have hlf : ((log.getD k default).frm.map I).length = (log.getD k default).frm.length := by simp
    repeat' ((conv => whnf) <;> (first | refine zM ?_ | refine zW ?_ | intro _ | exact zF | refine Br.tt ?_ | refine Br.ff ?_ | (refine Br.mk (fun h => ?_) (fun h => ?_) <;> (try simp only [sh] at h) <;> try first | (exfalso; omega) | exact absurd trivial h | (simp at h; done)) | refine zA ?_ | refine zN ?_ | refine zO ?_ | refine zP ?_ | refine zB ?_ | refine lB ?_ | refine lBA ?_ | refine zK ?_ | refine s1 ?_ | refine sA ?_ | refine zC ?_ | fail))
    · conv => whnf
      refine Fin.pure (congrArg B ?_)
      unfold shortC
      rw [all_at hk, Bool.false_and]
      simp only [Bool.and_eq_false_iff, decide_eq_false_iff_not]
      omega
    · (conv => whnf); (refine Nxt.of (k + 1) [2, 3, 4, 5, 6, 7, 8, 9, 10, 11, 12, 13, 14, 15, 16, 17, 18, 19, 20, 21, 22, 23, 24, 25] Qr Qr Qr ?_ ?_ Qy Qs <;> (try dsimp only) <;> (try omega))
      exact ⟨hk, all_take i2 hk (by simp only [Bool.and_eq_true, decide_eq_true_eq]; omega)⟩
  · rw [List.take_of_length_le (by omega)] at i2
    repeat' ((conv => whnf) <;> (first | refine zM ?_ | refine zW ?_ | intro _ | exact zF | refine Br.tt ?_ | refine Br.ff ?_ | (refine Br.mk (fun h => ?_) (fun h => ?_) <;> (try simp only [sh] at h) <;> try first | (exfalso; omega) | exact absurd trivial h | (simp at h; done)) | refine zA ?_ | refine zN ?_ | refine zO ?_ | refine zP ?_ | refine zB ?_ | refine lB ?_ | refine lBA ?_ | refine zK ?_ | refine s1 ?_ | refine sA ?_ | refine zC ?_ | fail))
    conv => whnf
    refine Fin.pure (congrArg B ?_)
    unfold shortC
    rw [i2, hlg, Bool.true_and, decide_eq_decide]
    omega
set_option maxRecDepth 4000 in
set_option maxHeartbeats 16000000 in
theorem c0Proves_ok (p : Pl) (bd : Int) (log : List Sg) (hs : Small p) (hv : validP p = true) (hll : log.length ≤ 100000) (hc : ∀ s ∈ log, s.cl.length ≤ 10000 ∧ s.frm.length ≤ 10000) : FnA Tryz.prog 18 [.agg (pcs p), I bd, .sl 3 (log.map sgav)] (B (prvB p bd log)) := by
  have hlg : (log.map sgav).length = log.length := by simp
  refine fn_run (T := tab) Tryz.func18 rfl Tryz.ntmps18 rfl Tryz.results18 (fun _ => ?_)
  repeat' ((conv => whnf) <;> (first | refine zM ?_ | refine zW ?_ | intro _ | exact zF | refine Br.tt ?_ | refine Br.ff ?_ | (refine Br.mk (fun h => ?_) (fun h => ?_) <;> (try simp only [sh] at h) <;> try first | (exfalso; omega) | exact absurd trivial h | (simp at h; done)) | refine zA ?_ | refine zN ?_ | refine zO ?_ | refine zP ?_ | refine zB ?_ | refine lB ?_ | refine lBA ?_ | refine zK ?_ | refine s1 ?_ | refine sA ?_ | refine zC ?_ | fail))
  (conv => whnf); refine CK.loopK [6, 7, 8, 9, 10, 11, 12, 13, 14, 15, 16, 17, 18, 19, 20, 21, 22, 23, 24, 25, 26, 27, 28, 29, 30, 31, 32, 33, 34, 35, 36, 37, 38, 39, 40, 41, 42, 43, 44, 45, 46, 47, 48, 49, 50, 51, 52, 53, 54, 55, 56, 57, 58, 59, 60, 61, 62, 63, 64, 65, 66, 67, 68, 69, 70, 71, 72, 73, 74, 75, 76, 77, 78, 79, 80, 81, 82, 83, 84, 85, 86, 87, 88, 89, 90, 91, 92, 93, 94, 95, 96, 97, 98, 99, 100, 101] (σ := Nat) (fun k => k ≤ log.length ∧ (List.range k).all (follB p bd log) = true) (fun k => [(7, I k)]) (fun _ => []) _ (fun k => log.length - k) 0 ⟨Nat.zero_le _, rfl⟩ Qy (List.Sublist.refl _) ?_
  conv => whnf
  rintro k ⟨i1, i2⟩
  by_cases hk : k < log.length
  · have hck := hc _ (gAt hk)
    have c5 := c0unit_ok log k hk hll hc
    have hno : follB p bd log k = false → prvB p bd log = false := fun h => by
      unfold prvB
      rw [all_fail hk h, Bool.false_and]
    have hfol : follB p bd log k = ((log.getD k default).cl.all (properB p) && ruleB p bd log k (log.getD k default)) := rfl
    rw [rule_C] at hfol
    generalize hsg : log.getD k default = s at *
    have hlc : (s.cl.map ltav).length = s.cl.length := by simp
    have hlf : (s.frm.map I).length = s.frm.length := by simp
    have c0 := c0proper_ok p s.cl hs.du hs.wk (by omega)
    have c1 := c0some_ok p s.cl hs.du hs.wk (by omega)
    have c2 := c0one_ok s.cl (by omega)
    by_cases hp : s.cl.all (properB p) = true
    · rw [hp] at c0 hfol
      rw [Bool.true_and] at hfol
      have c3 := c0partial_ok p s.cl hs.du (by omega) hp
      have hbad : badC p s.cl = match denC p s.cl with | some ro => decide (0 < s.cl.length) && violB p ro | none => false := rfl
      have hcst : costC p bd s.cl = match denC p s.cl with | some ro => decide (0 < s.cl.length) && decide (bd ≤ fullP p ro p.duties) | none => false := rfl
      cases hd : denC p s.cl with
      | none =>
        rw [hd] at c3 hbad hcst
        simp only [Option.isSome_none, Bool.false_and] at c3
        dsimp only at hbad hcst
        repeat' ((conv => whnf) <;> (first | refine Ask.callA (r := I 0) ent43 (fun h => by simp at h) rfl rfl (SbL.refl _) ?_ | refine Ix.mapNs hsg Qw ?_ | refine zM ?_ | refine zW ?_ | intro _ | exact zF | refine Br.tt ?_ | refine Br.ff ?_ | (refine Br.mk (fun h => ?_) (fun h => ?_) <;> (try simp only [sh] at h) <;> try first | (exfalso; omega) | exact absurd trivial h | (simp at h; done)) | refine zA ?_ | refine zN ?_ | refine zO ?_ | refine zP ?_ | refine zB ?_ | refine zL ent38 c0 ?_ | refine zG ent38 (fun h => c0) ?_ | refine zL ent41 c1 ?_ | refine zG ent41 (fun h => c1) ?_ | refine zL ent40 c2 ?_ | refine zG ent40 (fun h => c2) ?_ | refine zL ent39 c3 ?_ | refine zG ent39 (fun h => c3) ?_ | refine zL ent44 c5 ?_ | refine zG ent44 (fun h => c5) ?_ | refine lB ?_ | refine lBA ?_ | refine zK ?_ | refine s1 ?_ | refine sA ?_ | refine zC ?_ | fail))
        all_goals first
          | ((conv => whnf); refine Fin.pure (congrArg B ?_); exact (hno (by rw [hfol]; grind)).symm)
          | ((conv => whnf); (refine Nxt.of (k + 1) [6, 7, 8, 9, 10, 11, 12, 13, 14, 15, 16, 17, 18, 19, 20, 21, 22, 23, 24, 25, 26, 27, 28, 29, 30, 31, 32, 33, 34, 35, 36, 37, 38, 39, 40, 41, 42, 43, 44, 45, 46, 47, 48, 49, 50, 51, 52, 53, 54, 55, 56, 57, 58, 59, 60, 61, 62, 63, 64, 65, 66, 67, 68, 69, 70, 71, 72, 73, 74, 75, 76, 77, 78, 79, 80, 81, 82, 83, 84, 85, 86, 87, 88, 89, 90, 91, 92, 93, 94, 95, 96, 97, 98, 99, 100, 101] Qr Qr Qr ?_ ?_ Qy Qs <;> (try dsimp only) <;> (try omega)); exact ⟨hk, all_succ i2 (by rw [hfol]; grind)⟩)
      | some ro =>
        rw [hd] at c3 hbad hcst
        dsimp only at hbad hcst
        have hri := denC_ro hp hd
        have hrl := (isRo_iff.1 hri).1
        have hsd := hs.du
        have c6 := v8Bad_ok p ro hs (by omega)
        have hok : okRo p ro = true := by unfold okRo; rw [hv, hri]; rfl
        rw [if_pos hok, if_pos hok] at c6
        have c7 := c0Floor_ok p ro hs hv hri
        have hb := badP_le hv hrl
        have hbl : ((badP p ro).map viav).length = (badP p ro).length := by simp
        have hvi : violB p ro = decide (0 < (badP p ro).length) := by
          rw [Bool.eq_iff_iff, violB_iff, decide_eq_true_eq, List.length_pos_iff]
        simp only [Option.isSome_some, Bool.true_and, Option.getD_some] at c3
        repeat' ((conv => whnf) <;> (first | refine Ix.mapNs hsg Qw ?_ | refine zM ?_ | refine zW ?_ | intro _ | exact zF | refine Br.tt ?_ | refine Br.ff ?_ | (refine Br.mk (fun h => ?_) (fun h => ?_) <;> (try simp only [sh] at h) <;> try first | (exfalso; omega) | exact absurd trivial h | (simp at h; done)) | refine zA ?_ | refine zN ?_ | refine zO ?_ | refine zP ?_ | refine zB ?_ | refine zL ent38 c0 ?_ | refine zG ent38 (fun h => c0) ?_ | refine zL ent41 c1 ?_ | refine zG ent41 (fun h => c1) ?_ | refine zL ent40 c2 ?_ | refine zG ent40 (fun h => c2) ?_ | refine zL ent39 c3 ?_ | refine zG ent39 (fun h => c3) ?_ | refine zL ent44 c5 ?_ | refine zG ent44 (fun h => c5) ?_ | refine zL ent42 c6 ?_ | refine zG ent42 (fun h => c6) ?_ | refine zL ent43 c7 ?_ | refine zG ent43 (fun h => c7) ?_ | refine lB ?_ | refine lBA ?_ | refine zK ?_ | refine s1 ?_ | refine sA ?_ | refine zC ?_ | fail))
        all_goals first
          | ((conv => whnf); refine Fin.pure (congrArg B ?_); exact (hno (by rw [hfol]; grind)).symm)
          | ((conv => whnf); (refine Nxt.of (k + 1) [6, 7, 8, 9, 10, 11, 12, 13, 14, 15, 16, 17, 18, 19, 20, 21, 22, 23, 24, 25, 26, 27, 28, 29, 30, 31, 32, 33, 34, 35, 36, 37, 38, 39, 40, 41, 42, 43, 44, 45, 46, 47, 48, 49, 50, 51, 52, 53, 54, 55, 56, 57, 58, 59, 60, 61, 62, 63, 64, 65, 66, 67, 68, 69, 70, 71, 72, 73, 74, 75, 76, 77, 78, 79, 80, 81, 82, 83, 84, 85, 86, 87, 88, 89, 90, 91, 92, 93, 94, 95, 96, 97, 98, 99, 100, 101] Qr Qr Qr ?_ ?_ Qy Qs <;> (try dsimp only) <;> (try omega)); exact ⟨hk, all_succ i2 (by rw [hfol]; grind)⟩)
    · rw [Bool.eq_false_iff.2 hp] at c0 hfol
      rw [hno (by rw [hfol]; rfl)]
      repeat' ((conv => whnf) <;> (first | refine Ix.mapNs hsg Qw ?_ | refine zM ?_ | refine zW ?_ | intro _ | exact zF | refine Fin.pure ?_ | refine Br.tt ?_ | refine Br.ff ?_ | (refine Br.mk (fun h => ?_) (fun h => ?_) <;> (try simp only [sh] at h) <;> try first | (exfalso; omega) | exact absurd trivial h | (simp at h; done)) | refine zA ?_ | refine zN ?_ | refine zO ?_ | refine zP ?_ | refine zB ?_ | refine zL ent38 c0 ?_ | refine zG ent38 (fun h => c0) ?_ | refine lB ?_ | refine lBA ?_ | refine zK ?_ | refine s1 ?_ | refine sA ?_ | refine zC ?_ | fail))
  · obtain rfl : k = log.length := by omega
    have hlc : ((log.getD (log.length - 1) default).cl.map ltav).length = (log.getD (log.length - 1) default).cl.length := by simp
    repeat' ((conv => whnf) <;> (first | refine zM ?_ | refine zW ?_ | intro _ | exact zF | refine Br.tt ?_ | refine Br.ff ?_ | (refine Br.mk (fun h => ?_) (fun h => ?_) <;> (try simp only [sh] at h) <;> try first | (exfalso; omega) | exact absurd trivial h | (simp at h; done)) | refine zA ?_ | refine zN ?_ | refine zO ?_ | refine zP ?_ | refine zB ?_ | refine lB ?_ | refine lBA ?_ | refine zK ?_ | refine s1 ?_ | refine sA ?_ | refine zC ?_ | fail))
    conv => whnf
    refine Fin.pure (congrArg B ?_)
    have e : (((log.map sgav).length : Int) - 1).toNat = log.length - 1 := by omega
    unfold prvB
    rw [i2, Bool.true_and, e, hlg, hlc]
    congr 1 <;> (rw [decide_eq_decide]; omega)
end Go.Proofs.YtecemgicnboaaaaGreat
