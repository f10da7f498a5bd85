/-
  Walks: the reference's Bounds, Changed, People.
  Conditions: those of each theorem.
-/
import Derived.Test.YtkdbijfkcjcjmaaF4
import Derived.Test.YtkdbijfkcjcjmaaF12C
import Derived.Test.YtkdbijfkcjcjmaaSP
namespace Go.Proofs.Ytkdbijfkcjcjmaa
open Go.E2 Go.Wage
/-- insertion into an ascending list -/
def insI (l : List Int) (n : Int) : List Int := match l with
  | [] => [n]
  | x :: l => if x < n then x :: insI l n else if x = n then x :: l else n :: x :: l
theorem dropG {l : List Int} {k : Nat} (h : k < l.length) : l.drop k = l.getD k default :: l.drop (k + 1) := by
  rw [List.drop_eq_getElem_cons h]
  simp [List.getD, h]
theorem insI_drop {l : List Int} {n : Int} {k : Nat} (h : ∀ j, j < k → l.getD j default < n) (hk : k ≤ l.length) : insI l n = l.take k ++ insI (l.drop k) n := by
  induction k generalizing l with
  | zero => simp
  | succ k ih =>
    cases l with
    | nil => simp at hk
    | cons x l =>
      have h0 : x < n := by simpa using h 0 (by omega)
      rw [List.take_succ_cons, List.drop_succ_cons, List.cons_append, ← ih (fun j hj => by simpa using h (j + 1) (by omega)) (by simpa using hk), insI, if_pos h0]
theorem insI_mem {l : List Int} {n x : Int} : x ∈ insI l n ↔ x = n ∨ x ∈ l := by
  induction l with
  | nil => simp [insI]
  | cons y l ih =>
    rw [insI]
    split
    · rw [List.mem_cons, ih, List.mem_cons]
      grind
    · split
      · grind
      · grind
theorem insI_asc {l : List Int} {n : Int} (h : l.Pairwise (· < ·)) : (insI l n).Pairwise (· < ·) := by
  induction l with
  | nil => simp [insI]
  | cons y l ih =>
    rw [List.pairwise_cons] at h
    rw [insI]
    split
    · rw [List.pairwise_cons]
      refine ⟨fun z hz => ?_, ih h.2⟩
      rcases insI_mem.1 hz with rfl | hz
      · assumption
      · exact h.1 z hz
    · split
      · exact List.pairwise_cons.2 h
      · rw [List.pairwise_cons]
        refine ⟨fun z hz => ?_, List.pairwise_cons.2 h⟩
        rcases List.mem_cons.1 hz with rfl | hz
        · omega
        · have := h.1 z hz; omega
theorem insI_len {l : List Int} {n : Int} : (insI l n).length ≤ l.length + 1 := by
  induction l with
  | nil => simp [insI]
  | cons y l ih =>
    rw [insI]
    split
    · simp only [List.length_cons]; omega
    · split <;> simp
theorem ainsert_ok (l : List Int) (n : Int) (hlen : l.length ≤ 100000) : FnA Try.prog 49 [.sl 1 (l.map I), I n] (.sl 1 ((insI l n).map I)) := by
  have hl : (l.map I).length = l.length := by simp
  refine fn_run (T := tab) Try.func49 rfl Try.ntmps49 rfl Try.results49 (fun _ => ?_)
  repeat' ((conv => whnf) <;> (first | refine Must.mk (fun h => h) ?_ | refine Must.mk (fun _ => rfl) ?_ | refine Must.mk Qw ?_ | intro _ | exact Fin.pure rfl | refine Fin.pure ?_ | refine Br.tt ?_ | refine Br.ff ?_ | (refine Br.mk (fun h => ?_) (fun h => ?_) <;> (try simp only [sh] at h) <;> (try first | (exfalso; omega) | exact absurd trivial h | (exfalso; simp at h; done))) | refine Ix.at ‹_› Qw ?_ | refine Ix.mapN Qw ?_ | refine Ix.mapN1 Qw ?_ | refine Ix.map Qw ?_ | refine Ix.at Qi Qw ?_ | refine Quo.nn Qw ?_ | refine Quo.t Qw ?_ | refine Rem.nn Qw ?_ | refine Rem.t Qw ?_ | refine LK.askW rfl ?_ | refine CK.any false Qk ?_ | fail))
  (conv => whnf); refine CK.loop [5, 6, 7, 8, 9, 10, 11, 12, 13, 14, 15, 16, 17, 18, 19] (σ := Nat) (fun k => k ≤ l.length ∧ ∀ j, j < k → l.getD j default < n) (fun k => [(5, I k)]) (fun _ => []) (fun k => l.length - k) 0 ⟨Nat.zero_le _, fun j h => by omega⟩ Qy (List.nil_sublist _) ?_
  conv => whnf
  rintro k ⟨i1, i2⟩
  repeat' ((conv => whnf) <;> (first | (refine Kx.eff rfl (Eff.app (T := tab) 0 rfl rfl rfl rfl rfl Qb Q1 (by simp only [List.length_append, List.length_take, List.length_drop, List.length_map, List.length_cons, List.length_nil]; omega)) (by rintro _ _ ⟨_, rfl, rfl⟩; exact Qs) ?_ <;> rintro _ _ ⟨_, rfl, rfl⟩) | refine CK.anyK [1, 2, 3, 5, 6, 8, 9, 10] [0, 4, 7, 11, 12] _ (List.Sublist.refl _) Qk ?_ | (refine Nxt.of (k + 1) [5, 6, 7, 8, 9, 10, 11, 12, 13, 14, 15, 16, 17, 18, 19] Qr Qr Qr ?_ ?_ Qy Qs <;> (try dsimp only) <;> (try omega)) | refine Must.mk (fun h => h) ?_ | refine Must.mk (fun _ => rfl) ?_ | refine Must.mk Qw ?_ | intro _ | exact Fin.pure rfl | refine Br.tt ?_ | refine Br.ff ?_ | (refine Br.mk (fun h => ?_) (fun h => ?_) <;> (try simp only [sh] at h) <;> (try first | (exfalso; omega) | exact absurd trivial h | (exfalso; simp at h; done))) | refine Ix.at ‹_› Qw ?_ | refine Ix.mapN Qw ?_ | refine Ix.mapN1 Qw ?_ | refine Ix.map Qw ?_ | refine Ix.at Qi Qw ?_ | refine Quo.nn Qw ?_ | refine Quo.t Qw ?_ | refine Rem.nn Qw ?_ | refine Rem.t Qw ?_ | refine Ask.ldB (T := tab) 0 rfl rfl rfl rfl ?_ | refine Ask.ldB (T := tab) 1 rfl rfl rfl rfl ?_ | refine Ask.ldB (T := tab) 2 rfl rfl rfl rfl ?_ | refine Ask.ldB (T := tab) 3 rfl rfl rfl rfl ?_ | refine Ask.ldBA (T := tab) 0 rfl rfl rfl rfl ?_ | refine Ask.ldBA (T := tab) 1 rfl rfl rfl rfl ?_ | refine Ask.ldBA (T := tab) 2 rfl rfl rfl rfl ?_ | refine Ask.ldBA (T := tab) 3 rfl rfl rfl rfl ?_ | refine AskR.cellA (T := tab) 0 rfl rfl rfl rfl ?_ | refine AskR.cellA (T := tab) 1 rfl rfl rfl rfl ?_ | refine AskR.cellA (T := tab) 2 rfl rfl rfl rfl ?_ | refine AskR.cellA (T := tab) 3 rfl rfl rfl rfl ?_ | refine AskR.cell1 (T := tab) 0 rfl rfl rfl rfl ?_ | refine AskR.cell1 (T := tab) 1 rfl rfl rfl rfl ?_ | refine AskR.cell1 (T := tab) 2 rfl rfl rfl rfl ?_ | refine AskR.cell1 (T := tab) 3 rfl rfl rfl rfl ?_ | refine Ask.lenR (T := tab) 0 rfl rfl rfl ?_ | refine Ask.lenR (T := tab) 1 rfl rfl rfl ?_ | refine Ask.lenR (T := tab) 2 rfl rfl rfl ?_ | refine Ask.lenR (T := tab) 3 rfl rfl rfl ?_ | refine Ask.idxR (T := tab) 0 rfl rfl rfl rfl Qw ?_ | refine Ask.idxR (T := tab) 1 rfl rfl rfl rfl Qw ?_ | refine Ask.idxR (T := tab) 2 rfl rfl rfl rfl Qw ?_ | refine Ask.idxR (T := tab) 3 rfl rfl rfl rfl Qw ?_ | refine Ask.ldR (T := tab) 0 rfl rfl rfl rfl Qi rfl ?_ | refine Ask.ldR (T := tab) 1 rfl rfl rfl rfl Qi rfl ?_ | refine Ask.ldR (T := tab) 2 rfl rfl rfl rfl Qi rfl ?_ | refine Ask.ldR (T := tab) 3 rfl rfl rfl rfl Qi rfl ?_ | refine Ask.ldR0 (T := tab) 0 rfl rfl rfl rfl Qi rfl ?_ | refine Ask.ldR0 (T := tab) 1 rfl rfl rfl rfl Qi rfl ?_ | refine Ask.ldR0 (T := tab) 2 rfl rfl rfl rfl Qi rfl ?_ | refine Ask.ldR0 (T := tab) 3 rfl rfl rfl rfl Qi rfl ?_ | refine Ask.ldRA (T := tab) 0 rfl rfl rfl rfl Qi ?_ | refine Ask.ldRA (T := tab) 1 rfl rfl rfl rfl Qi ?_ | refine Ask.ldRA (T := tab) 2 rfl rfl rfl rfl Qi ?_ | refine Ask.ldRA (T := tab) 3 rfl rfl rfl rfl Qi ?_ | refine LK.askW rfl ?_ | refine LK.st1 0 rfl rfl rfl rfl rfl rfl rfl ?_ | refine LK.st1 1 rfl rfl rfl rfl rfl rfl rfl ?_ | refine LK.st1 2 rfl rfl rfl rfl rfl rfl rfl ?_ | refine LK.st1 3 rfl rfl rfl rfl rfl rfl rfl ?_ | refine LK.stA 0 rfl rfl rfl rfl rfl rfl rfl rfl ?_ | refine LK.stA 1 rfl rfl rfl rfl rfl rfl rfl rfl ?_ | refine LK.stA 2 rfl rfl rfl rfl rfl rfl rfl rfl ?_ | refine LK.stA 3 rfl rfl rfl rfl rfl rfl rfl rfl ?_ | refine LK.bsl rfl rfl rfl rfl ?_ | (refine LK.frzR 0 rfl ?_ <;> refine LK.app 1 rfl rfl rfl rfl rfl (Sb.row 0 rfl) Q1 Qo ?_) | (refine LK.frzR 0 rfl ?_ <;> refine LK.app 2 rfl rfl rfl rfl rfl (Sb.row 0 rfl) Q1 Qo ?_) | (refine LK.frzR 0 rfl ?_ <;> refine LK.app 3 rfl rfl rfl rfl rfl (Sb.row 0 rfl) Q1 Qo ?_) | refine LK.app 0 rfl rfl rfl rfl rfl Qb Q1 Qo ?_ | refine LK.app 1 rfl rfl rfl rfl rfl Qb Q1 Qo ?_ | refine LK.app 2 rfl rfl rfl rfl rfl Qb Q1 Qo ?_ | refine LK.app 3 rfl rfl rfl rfl rfl Qb Q1 Qo ?_ | refine LK.stR 0 rfl rfl rfl rfl rfl (by omega) Qi rfl rfl ?_ | refine LK.stR 1 rfl rfl rfl rfl rfl (by omega) Qi rfl rfl ?_ | refine LK.stR 2 rfl rfl rfl rfl rfl (by omega) Qi rfl rfl ?_ | refine LK.stR 3 rfl rfl rfl rfl rfl (by omega) Qi rfl rfl ?_ | refine LK.gr (Gr.bslV (T := tab) rfl rfl rfl rfl) ?_ | refine Ask.of (Gr.bslV (T := tab) rfl rfl rfl rfl) ?_ | refine Kx.nil ?_ | refine Kx.stp (T := tab) rfl rfl Qs ?_ | (refine Kx.eff rfl (Eff.alloc (T := tab) rfl rfl) (by rintro _ _ ⟨_, rfl, rfl⟩; exact Qs) ?_ <;> rintro _ _ ⟨_, rfl, rfl⟩) | (refine Kx.frzR 0 rfl ?_ <;> refine Kx.eff rfl (Eff.app (T := tab) 1 rfl rfl rfl rfl rfl (Sb.row 0 rfl) Q1 Qo) (by rintro _ _ ⟨_, rfl, rfl⟩; exact Qs) ?_ <;> rintro _ _ ⟨_, rfl, rfl⟩) | (refine Kx.frzR 0 rfl ?_ <;> refine Kx.eff rfl (Eff.app (T := tab) 2 rfl rfl rfl rfl rfl (Sb.row 0 rfl) Q1 Qo) (by rintro _ _ ⟨_, rfl, rfl⟩; exact Qs) ?_ <;> rintro _ _ ⟨_, rfl, rfl⟩) | (refine Kx.frzR 0 rfl ?_ <;> refine Kx.eff rfl (Eff.app (T := tab) 3 rfl rfl rfl rfl rfl (Sb.row 0 rfl) Q1 Qo) (by rintro _ _ ⟨_, rfl, rfl⟩; exact Qs) ?_ <;> rintro _ _ ⟨_, rfl, rfl⟩) | (refine Kx.eff rfl (Eff.app (T := tab) 0 rfl rfl rfl rfl rfl Qb Q1 Qo) (by rintro _ _ ⟨_, rfl, rfl⟩; exact Qs) ?_ <;> rintro _ _ ⟨_, rfl, rfl⟩) | (refine Kx.eff rfl (Eff.app (T := tab) 1 rfl rfl rfl rfl rfl Qb Q1 Qo) (by rintro _ _ ⟨_, rfl, rfl⟩; exact Qs) ?_ <;> rintro _ _ ⟨_, rfl, rfl⟩) | (refine Kx.eff rfl (Eff.app (T := tab) 2 rfl rfl rfl rfl rfl Qb Q1 Qo) (by rintro _ _ ⟨_, rfl, rfl⟩; exact Qs) ?_ <;> rintro _ _ ⟨_, rfl, rfl⟩) | (refine Kx.eff rfl (Eff.app (T := tab) 3 rfl rfl rfl rfl rfl Qb Q1 Qo) (by rintro _ _ ⟨_, rfl, rfl⟩; exact Qs) ?_ <;> rintro _ _ ⟨_, rfl, rfl⟩) | (refine Kx.eff rfl (Eff.st1 (T := tab) 0 rfl rfl rfl rfl rfl rfl rfl) (by rintro _ _ ⟨rfl, rfl⟩; exact Qs) ?_ <;> rintro _ _ ⟨rfl, rfl⟩) | (refine Kx.eff rfl (Eff.st1 (T := tab) 1 rfl rfl rfl rfl rfl rfl rfl) (by rintro _ _ ⟨rfl, rfl⟩; exact Qs) ?_ <;> rintro _ _ ⟨rfl, rfl⟩) | (refine Kx.eff rfl (Eff.st1 (T := tab) 2 rfl rfl rfl rfl rfl rfl rfl) (by rintro _ _ ⟨rfl, rfl⟩; exact Qs) ?_ <;> rintro _ _ ⟨rfl, rfl⟩) | (refine Kx.eff rfl (Eff.st1 (T := tab) 3 rfl rfl rfl rfl rfl rfl rfl) (by rintro _ _ ⟨rfl, rfl⟩; exact Qs) ?_ <;> rintro _ _ ⟨rfl, rfl⟩) | (refine Kx.eff rfl (Eff.stA (T := tab) 0 rfl rfl rfl rfl rfl rfl rfl rfl) (by rintro _ _ ⟨rfl, rfl⟩; exact Qs) ?_ <;> rintro _ _ ⟨rfl, rfl⟩) | (refine Kx.eff rfl (Eff.stA (T := tab) 1 rfl rfl rfl rfl rfl rfl rfl rfl) (by rintro _ _ ⟨rfl, rfl⟩; exact Qs) ?_ <;> rintro _ _ ⟨rfl, rfl⟩) | (refine Kx.eff rfl (Eff.stA (T := tab) 2 rfl rfl rfl rfl rfl rfl rfl rfl) (by rintro _ _ ⟨rfl, rfl⟩; exact Qs) ?_ <;> rintro _ _ ⟨rfl, rfl⟩) | (refine Kx.eff rfl (Eff.stA (T := tab) 3 rfl rfl rfl rfl rfl rfl rfl rfl) (by rintro _ _ ⟨rfl, rfl⟩; exact Qs) ?_ <;> rintro _ _ ⟨rfl, rfl⟩) | (refine Kx.eff rfl (Eff.bsl (T := tab) rfl rfl rfl rfl) (by rintro _ _ ⟨_, rfl, rfl⟩; exact Qs) ?_ <;> rintro _ _ ⟨_, rfl, rfl⟩) | refine CK.any false Qk ?_ | refine CK.any true Qk ?_ | fail))
  · refine ⟨by omega, fun j hj => ?_⟩
    by_cases e : j = k
    · subst e; exact h.2
    · exact i2 j (by omega)
  all_goals (conv => whnf)
  · refine Fin.pure ?_
    rw [insI_drop i2 i1, dropG (by omega), insI, if_neg (by omega), if_pos h.2, ← dropG (by omega), List.take_append_drop]
  · refine Fin.frzR 0 rfl ?_
    refine Fin.see (Sb.row 0 rfl) ?_
    refine .out [] (List.nil_sublist _) ⟨?_, rfl⟩
    have e : insI (l.drop k) n = n :: l.drop k := by
      by_cases hk : k < l.length
      · rw [dropG hk, insI, if_neg (by omega), if_neg (by omega)]
      · rw [List.drop_eq_nil_of_le (by omega)]; rfl
    rw [insI_drop i2 i1, e]
    simp [List.map_take, List.map_drop]
theorem insI_sI {l : List Int} {n : Int} (xs : List Int) (h : l = sI xs) : insI l n = sI (n :: xs) := by
  refine asc_uniq (insI_asc (by rw [h]; exact sI_asc _)) (sI_asc _) fun x => ?_
  rw [insI_mem, sI_mem, h, sI_mem, List.mem_cons]
theorem sI_perm {a b : List Int} (h : ∀ x, x ∈ a ↔ x ∈ b) : sI a = sI b := asc_uniq (sI_asc _) (sI_asc _) fun x => by rw [sI_mem, sI_mem, h]
theorem bnd_flat_len (fs : List Fa) (p n : ByteArray) : (fs.flatMap (bndF p n)).length ≤ 2 * fs.length := by
  induction fs with
  | nil => simp
  | cons f fs ih =>
    rw [List.flatMap_cons, List.length_append, List.length_cons]
    have : (bndF p n f).length ≤ 2 := by unfold bndF; split <;> simp
    omega
theorem bnds0_nil (p n : ByteArray) : bnds0 [] p n = [0] := asc_uniq (sI_asc _) (by simp) fun x => by unfold bnds0; rw [sI_mem]; simp
theorem bnds0_len (fs : List Fa) (p n : ByteArray) : (bnds0 fs p n).length ≤ 2 * fs.length + 1 := by
  refine Nat.le_trans (compact_len _) ?_
  rw [List.length_cons]
  have := bnd_flat_len fs p n
  omega
set_option maxHeartbeats 4000000 in
theorem aBounds_ok (fs : List Fa) (p n : ByteArray) (hlen : fs.length ≤ 1000) : FnA Try.prog 38 [stav fs, .v (.string p), .v (.string n)] (.sl 1 ((bnds0 fs p n).map I)) := by
  have hl : (fs.map fcav).length = fs.length := by simp
  refine fn_run (T := tab) Try.func38 rfl Try.ntmps38 rfl Try.results38 (fun _ => ?_)
  repeat' ((conv => whnf) <;> (first | refine Must.mk (fun h => h) ?_ | refine Must.mk (fun _ => rfl) ?_ | refine Must.mk Qw ?_ | intro _ | exact Fin.pure rfl | refine Fin.pure ?_ | refine Br.tt ?_ | refine Br.ff ?_ | (refine Br.mk (fun h => ?_) (fun h => ?_) <;> (try simp only [sh] at h) <;> (try first | (exfalso; omega) | exact absurd trivial h | (exfalso; simp at h; done))) | refine Ix.at ‹_› Qw ?_ | refine Ix.mapN Qw ?_ | refine Ix.mapN1 Qw ?_ | refine Ix.map Qw ?_ | refine Ix.at Qi Qw ?_ | refine Quo.nn Qw ?_ | refine Quo.t Qw ?_ | refine Rem.nn Qw ?_ | refine Rem.t Qw ?_ | refine Ask.ldB (T := tab) 0 rfl rfl rfl rfl ?_ | refine Ask.ldB (T := tab) 1 rfl rfl rfl rfl ?_ | refine Ask.ldBA (T := tab) 0 rfl rfl rfl rfl ?_ | refine Ask.ldBA (T := tab) 1 rfl rfl rfl rfl ?_ | refine AskR.cellA (T := tab) 0 rfl rfl rfl rfl ?_ | refine AskR.cellA (T := tab) 1 rfl rfl rfl rfl ?_ | refine AskR.cell1 (T := tab) 0 rfl rfl rfl rfl ?_ | refine AskR.cell1 (T := tab) 1 rfl rfl rfl rfl ?_ | refine LK.askW rfl ?_ | refine LK.st1 0 rfl rfl rfl rfl rfl rfl rfl ?_ | refine LK.st1 1 rfl rfl rfl rfl rfl rfl rfl ?_ | refine LK.stA 0 rfl rfl rfl rfl rfl rfl rfl rfl ?_ | refine LK.stA 1 rfl rfl rfl rfl rfl rfl rfl rfl ?_ | refine LK.gr (Gr.bslV (T := tab) rfl rfl rfl rfl) ?_ | refine Ask.of (Gr.bslV (T := tab) rfl rfl rfl rfl) ?_ | refine CK.any false Qk ?_ | refine CK.any true Qk ?_ | fail))
  (conv => whnf); refine CK.loopK [7, 8, 9, 11, 12, 13, 14, 15, 16, 17, 18, 19, 20, 21, 22, 23, 24, 25, 26, 27, 28, 29, 30, 31, 32, 33, 34, 35, 36, 37, 38, 39] (σ := Nat) (fun k => k ≤ fs.length) (fun k => [(8, I k), (7, .sl 1 ((bnds0 (fs.take k) p n).map I))]) (fun _ => []) _ (fun k => fs.length - k) 0 (Nat.zero_le _) (Says.cons rfl (Says.cons (by rw [List.take_zero, bnds0_nil]; rfl) Says.nil)) (List.Sublist.refl _) ?_
  conv => whnf
  rintro k hk
  by_cases hlt : k < fs.length
  · have hbl := bnds0_len (fs.take k) p n
    rw [List.length_take] at hbl
    have c1 := ainsert_ok (bnds0 (fs.take k) p n) (fs.getD k default).frm (by omega)
    have hil := insI_len (l := bnds0 (fs.take k) p n) (n := (fs.getD k default).frm)
    have c2 := ainsert_ok (insI (bnds0 (fs.take k) p n) (fs.getD k default).frm) (fs.getD k default).to_ (by omega)
    have e1 : (fs.getD k default).person = p ∧ (fs.getD k default).name = n → insI (insI (bnds0 (fs.take k) p n) (fs.getD k default).frm) (fs.getD k default).to_ = bnds0 (fs.take (k + 1)) p n := fun h => by
      have a1 := insI_sI (n := (fs.getD k default).frm) (0 :: (fs.take k).flatMap (bndF p n)) (l := bnds0 (fs.take k) p n) rfl
      rw [insI_sI (n := (fs.getD k default).to_) _ a1]
      refine sI_perm fun x => ?_
      rw [flat_tk (f := bndF p n) hlt, bndF, if_pos h]
      simp only [List.mem_cons, List.mem_append, List.not_mem_nil, or_false]
      grind
    have e2 : ¬ ((fs.getD k default).person = p ∧ (fs.getD k default).name = n) → bnds0 (fs.take k) p n = bnds0 (fs.take (k + 1)) p n := fun h => by
      unfold bnds0
      rw [flat_tk (f := bndF p n) hlt, bndF, if_neg h, List.append_nil]
    repeat' ((conv => whnf) <;> (first | refine Must.mk (fun h => h) ?_ | refine Must.mk (fun _ => rfl) ?_ | refine Must.mk Qw ?_ | intro _ | exact Fin.pure rfl | refine Fin.pure ?_ | refine Br.tt ?_ | refine Br.ff ?_ | (refine Br.mk (fun h => ?_) (fun h => ?_) <;> (try simp only [sh] at h) <;> (try first | (exfalso; omega) | exact absurd trivial h | (exfalso; simp at h; done))) | refine Ix.at ‹_› Qw ?_ | refine Ix.mapN Qw ?_ | refine Ix.mapN1 Qw ?_ | refine Ix.map Qw ?_ | refine Ix.at Qi Qw ?_ | refine Quo.nn Qw ?_ | refine Quo.t Qw ?_ | refine Rem.nn Qw ?_ | refine Rem.t Qw ?_ | refine LK.callA ent49 (c1) rfl rfl (SbL.refl _) ?_ | refine Ask.callA ent49 (fun h => c1) rfl rfl (SbL.refl _) ?_ | refine LK.callA ent49 (c1) rfl rfl Ql ?_ | refine Ask.callA ent49 (fun h => c1) rfl rfl Ql ?_ | refine LK.callA ent49 (c2) rfl rfl (SbL.refl _) ?_ | refine Ask.callA ent49 (fun h => c2) rfl rfl (SbL.refl _) ?_ | refine LK.callA ent49 (c2) rfl rfl Ql ?_ | refine Ask.callA ent49 (fun h => c2) rfl rfl Ql ?_ | refine Ask.ldB (T := tab) 0 rfl rfl rfl rfl ?_ | refine Ask.ldB (T := tab) 1 rfl rfl rfl rfl ?_ | refine Ask.ldB (T := tab) 2 rfl rfl rfl rfl ?_ | refine Ask.ldBA (T := tab) 0 rfl rfl rfl rfl ?_ | refine Ask.ldBA (T := tab) 1 rfl rfl rfl rfl ?_ | refine Ask.ldBA (T := tab) 2 rfl rfl rfl rfl ?_ | refine AskR.cellA (T := tab) 0 rfl rfl rfl rfl ?_ | refine AskR.cellA (T := tab) 1 rfl rfl rfl rfl ?_ | refine AskR.cellA (T := tab) 2 rfl rfl rfl rfl ?_ | refine AskR.cell1 (T := tab) 0 rfl rfl rfl rfl ?_ | refine AskR.cell1 (T := tab) 1 rfl rfl rfl rfl ?_ | refine AskR.cell1 (T := tab) 2 rfl rfl rfl rfl ?_ | refine LK.askW rfl ?_ | refine LK.st1 0 rfl rfl rfl rfl rfl rfl rfl ?_ | refine LK.st1 1 rfl rfl rfl rfl rfl rfl rfl ?_ | refine LK.st1 2 rfl rfl rfl rfl rfl rfl rfl ?_ | refine LK.stA 0 rfl rfl rfl rfl rfl rfl rfl rfl ?_ | refine LK.stA 1 rfl rfl rfl rfl rfl rfl rfl rfl ?_ | refine LK.stA 2 rfl rfl rfl rfl rfl rfl rfl rfl ?_ | refine CK.any false Qk ?_ | fail))
    · conv => whnf
      refine Nxt.of (k + 1) [7, 8, 9, 11, 12, 13, 14, 15, 16, 17, 18, 19, 20, 21, 22, 23, 24, 25, 26, 27, 28, 29, 30, 31, 32, 33, 34, 35, 36, 37, 38, 39] Qr Qr Qr (by omega) (by omega) (Says.cons rfl (Says.cons (by rw [← e1 h]; rfl) Says.nil)) Qs
    · conv => whnf
      refine Nxt.of (k + 1) [7, 8, 9, 11, 12, 13, 14, 15, 16, 17, 18, 19, 20, 21, 22, 23, 24, 25, 26, 27, 28, 29, 30, 31, 32, 33, 34, 35, 36, 37, 38, 39] Qr Qr Qr (by omega) (by omega) (Says.cons rfl (Says.cons (by rw [← e2 (by grind)]; rfl) Says.nil)) Qs
  · repeat' ((conv => whnf) <;> (first | refine Must.mk (fun h => h) ?_ | refine Must.mk (fun _ => rfl) ?_ | refine Must.mk Qw ?_ | intro _ | exact Fin.pure rfl | refine Br.tt ?_ | refine Br.ff ?_ | (refine Br.mk (fun h => ?_) (fun h => ?_) <;> (try simp only [sh] at h) <;> (try first | (exfalso; omega) | exact absurd trivial h | (exfalso; simp at h; done))) | refine Ix.at ‹_› Qw ?_ | refine Ix.mapN Qw ?_ | refine Ix.mapN1 Qw ?_ | refine Ix.map Qw ?_ | refine Ix.at Qi Qw ?_ | refine Quo.nn Qw ?_ | refine Quo.t Qw ?_ | refine Rem.nn Qw ?_ | refine Rem.t Qw ?_ | refine Ask.ldB (T := tab) 0 rfl rfl rfl rfl ?_ | refine Ask.ldB (T := tab) 1 rfl rfl rfl rfl ?_ | refine Ask.ldB (T := tab) 2 rfl rfl rfl rfl ?_ | refine Ask.ldBA (T := tab) 0 rfl rfl rfl rfl ?_ | refine Ask.ldBA (T := tab) 1 rfl rfl rfl rfl ?_ | refine Ask.ldBA (T := tab) 2 rfl rfl rfl rfl ?_ | refine AskR.cellA (T := tab) 0 rfl rfl rfl rfl ?_ | refine AskR.cellA (T := tab) 1 rfl rfl rfl rfl ?_ | refine AskR.cellA (T := tab) 2 rfl rfl rfl rfl ?_ | refine AskR.cell1 (T := tab) 0 rfl rfl rfl rfl ?_ | refine AskR.cell1 (T := tab) 1 rfl rfl rfl rfl ?_ | refine AskR.cell1 (T := tab) 2 rfl rfl rfl rfl ?_ | refine LK.askW rfl ?_ | refine LK.st1 0 rfl rfl rfl rfl rfl rfl rfl ?_ | refine LK.st1 1 rfl rfl rfl rfl rfl rfl rfl ?_ | refine LK.st1 2 rfl rfl rfl rfl rfl rfl rfl ?_ | refine LK.stA 0 rfl rfl rfl rfl rfl rfl rfl rfl ?_ | refine LK.stA 1 rfl rfl rfl rfl rfl rfl rfl rfl ?_ | refine LK.stA 2 rfl rfl rfl rfl rfl rfl rfl rfl ?_ | refine CK.any false Qk ?_ | fail))
    conv => whnf
    exact Fin.pure (by rw [List.take_of_length_le (by omega)])
end Go.Proofs.Ytkdbijfkcjcjmaa
