/-
  Walks: package piecewise: Valid, at, Eval, floor, Round, steps.
  Conditions: those of each theorem.
-/
import Derived.Test.YtnekeokgognegaaTab
import Derived.Test.YtnekeokgognegaaE5E
import Derived.Test.YtnekeokgognegaaPA
namespace Go.Proofs.Ytnekeokgognegaa
open Go.E2 Go.Wage
def pav (p : Pc) : AV := .agg [I p.frm, I p.at_, I p.slope]
def favC (den : Int) (ps : List Pc) : List AV := [I den, .sl 3 (ps.map pav)]
def fav (den : Int) (ps : List Pc) : AV := .agg (favC den ps)
theorem gAtD {α : Type} [Inhabited α] {l : List α} {i : Nat} (h : i < l.length) : l[i]? = some (l.getD i default) := by simp [List.getD, h]
theorem sSearch_ok (hi : Int) (f : FuncId) (caps : List AV) (p : Int → Bool) (hent : EntersT Try.prog f) (h1 : 0 ≤ hi) (h2 : hi ≤ 4000000000000000000) (hf : ∀ x, 0 ≤ x → x < hi → FnA Try.prog f (I x :: caps) (B (p x)))
    (hm : ∀ x y, 0 ≤ x → x ≤ y → y < hi → p x = true → p y = true) : FnA Try.prog 48 [I hi, .fn (.func f) caps] (I (fst p 0 hi)) := by
  refine fn_run (T := tab) Try.func48 rfl Try.ntmps48 rfl Try.results48 (fun _ => ?_)
  repeat' ((conv => whnf) <;> (first | refine zM ?_ | refine zW ?_ | intro _ | exact zF | refine Br.tt ?_ | refine Br.ff ?_ | (refine Br.mk (fun h => ?_) (fun h => ?_) <;> (try simp only [sh] at h) <;> try first | (exfalso; omega) | exact absurd trivial h | (simp at h; done)) | refine zA ?_ | refine zN ?_ | refine zO ?_ | refine zP ?_ | refine zB ?_ | refine zQ ?_ | refine Quo.t Qw ?_ | refine zR ?_ | refine Rem.t Qw ?_ | refine lB ?_ | refine lBA ?_ | refine zK ?_ | refine s1 ?_ | refine sA ?_ | refine zC ?_ | fail))
  (conv => whnf); refine CK.loopK [5, 6, 7, 9, 10, 11, 12, 13, 14, 15, 16, 17, 18, 19, 20, 21, 22, 23, 24] (σ := Int × Int) (fun s => 0 ≤ s.1 ∧ s.2 ≤ hi ∧ s.1 ≤ s.2 ∧ (∀ x, 0 ≤ x → x < s.1 → p x = false) ∧ (∀ x, s.2 ≤ x → x < hi → p x = true)) (fun ⟨a, b⟩ => [(5, I a), (6, I b)]) (fun _ => []) [] (fun s => (s.2 - s.1).toNat) (0, hi) ⟨by simp only; omega, by simp only; omega, by simp only; omega, fun x h1 h2 => by simp only at h2; omega, fun x h1 h2 => by simp only at h1; omega⟩ Qy (by exact List.nil_sublist _) ?_
  conv => whnf
  rintro ⟨a, b⟩ ⟨i1, i2, i3, i5, i6⟩
  simp only at i1 i2 i3 i5 i6
  by_cases hab : a < b
  · have hw : IntKind.u64.wrap (a + b) = a + b := by
      simp [IntKind.wrap, IntKind.bits, IntKind.signed]
      omega
    repeat' ((conv => whnf) <;> (first | refine LK.callC hent rfl (Sb.refl _) rfl (SbL.refl _) (hf _ (by omega) (by omega)) ?_ | refine Ask.of (Gr.ofEq (r' := .v (.int .u64 ((a + b) / 2))) (Gr.shr1 rfl rfl) (by rw [hw])) ?_ | refine zM ?_ | refine zW ?_ | intro _ | exact zF | refine Br.tt ?_ | refine Br.ff ?_ | (refine Br.mk (fun h => ?_) (fun h => ?_) <;> (try simp only [sh] at h) <;> try first | (exfalso; omega) | exact absurd trivial h | (simp at h; done)) | refine zA ?_ | refine zN ?_ | refine zO ?_ | refine zP ?_ | refine zB ?_ | refine zQ ?_ | refine Quo.t Qw ?_ | refine zR ?_ | refine Rem.t Qw ?_ | refine lB ?_ | refine lBA ?_ | refine zK ?_ | refine s1 ?_ | refine sA ?_ | refine zC ?_ | fail))
    · (conv => whnf); (refine Nxt.of (((a + b) / 2 + 1, b)) [5, 6, 7, 9, 10, 11, 12, 13, 14, 15, 16, 17, 18, 19, 20, 21, 22, 23, 24] Qr Qr Qr ?_ ?_ Qy Qs <;> (try dsimp only) <;> (try omega))
      refine ⟨by omega, by omega, by omega, fun x hx1 hx2 => ?_, i6⟩
      cases hp : p x with
      | false => rfl
      | true => rw [hm x _ hx1 (by omega) (by omega) hp] at h; cases h
    · (conv => whnf); (refine Nxt.of ((a, (a + b) / 2)) [5, 6, 7, 9, 10, 11, 12, 13, 14, 15, 16, 17, 18, 19, 20, 21, 22, 23, 24] Qr Qr Qr ?_ ?_ Qy Qs <;> (try dsimp only) <;> (try omega))
      exact ⟨by omega, by omega, by omega, i5, fun x hx1 hx2 => hm _ _ (by omega) hx1 hx2 h⟩
  · repeat' ((conv => whnf) <;> (first | refine zM ?_ | refine zW ?_ | intro _ | exact zF | refine Br.tt ?_ | refine Br.ff ?_ | (refine Br.mk (fun h => ?_) (fun h => ?_) <;> (try simp only [sh] at h) <;> try first | (exfalso; omega) | exact absurd trivial h | (simp at h; done)) | refine zA ?_ | refine zN ?_ | refine zO ?_ | refine zP ?_ | refine zB ?_ | refine zQ ?_ | refine Quo.t Qw ?_ | refine zR ?_ | refine Rem.t Qw ?_ | refine lB ?_ | refine lBA ?_ | refine zK ?_ | refine s1 ?_ | refine sA ?_ | refine zC ?_ | fail))
    conv => whnf
    refine .out _ (by exact List.nil_sublist _) ⟨congrArg I ?_, rfl⟩
    by_cases hlt : 0 < hi
    · rw [fst_is hlt (r := a) (by unfold IsFirst; rw [if_pos hlt]; exact ⟨i1, by omega, i5, fun x h1 h2 => i6 x (by omega) h2⟩)]
    · have e : a = 0 := by omega
      rw [e]
      unfold fst
      rw [show (hi - 0).toNat = 0 by omega]
      rfl
set_option maxHeartbeats 4000000 in
theorem valid_ok (den : Int) (ps : List Pc) (hlen : ps.length ≤ 9223372036854775807) : FnA Try.prog 20 [fav den ps] (B (validB den ps)) := by
  have hl : (ps.map pav).length = ps.length := by simp
  by_cases hh : den < 1 ∨ 1000000 < den ∨ (ps.length : Int) < 1 ∨ 64 < (ps.length : Int)
  · have hv := validB_head (ps := ps) (den := den) hh
    refine fn_run (T := tab) Try.func20 rfl Try.ntmps20 rfl Try.results20 (fun _ => ?_)
    repeat' ((conv => whnf) <;> (first | refine zM ?_ | refine zW ?_ | intro _ | exact zF | refine Br.tt ?_ | refine Br.ff ?_ | (refine Br.mk (fun h => ?_) (fun h => ?_) <;> (try simp only [sh] at h) <;> try first | (exfalso; omega) | exact absurd trivial h | (simp at h; done)) | refine zA ?_ | refine zN ?_ | refine zO ?_ | refine zP ?_ | refine zB ?_ | refine zQ ?_ | refine Quo.t Qw ?_ | refine zR ?_ | refine Rem.t Qw ?_ | refine lB ?_ | refine lBA ?_ | refine zK ?_ | refine s1 ?_ | refine sA ?_ | refine zC ?_ | fail))
    all_goals (conv => whnf)
    all_goals exact .out _ (by exact List.nil_sublist _) ⟨congrArg B hv.symm, rfl⟩
  · refine fn_run (T := tab) Try.func20 rfl Try.ntmps20 rfl Try.results20 (fun _ => ?_)
    repeat' ((conv => whnf) <;> (first | refine zM ?_ | refine zW ?_ | intro _ | exact zF | refine Br.tt ?_ | refine Br.ff ?_ | (refine Br.mk (fun h => ?_) (fun h => ?_) <;> (try simp only [sh] at h) <;> try first | (exfalso; omega) | exact absurd trivial h | (simp at h; done)) | refine zA ?_ | refine zN ?_ | refine zO ?_ | refine zP ?_ | refine zB ?_ | refine zQ ?_ | refine Quo.t Qw ?_ | refine zR ?_ | refine Rem.t Qw ?_ | refine lB ?_ | refine lBA ?_ | refine zK ?_ | refine s1 ?_ | refine sA ?_ | refine zC ?_ | fail))
    rename_i b
    (conv => whnf); refine CK.loopK [2, 3, 4, 28, 29, 30, 31, 32, 33, 34, 35, 36, 37, 38, 39, 40, 41, 42, 43, 44, 45, 46, 47, 48, 49, 50, 51, 52, 53, 54, 55, 56, 57, 58, 59, 60, 61, 62, 63, 64, 65, 66, 67, 68, 69, 70, 71, 72, 73, 74, 75, 76, 77] (σ := Nat) (fun k => k ≤ ps.length ∧ (List.range k).all (okI ps) = true) (fun k => [(28, I k)]) (fun _ => [.blk b 24 false (favC den ps)]) [] (fun k => ps.length - k) 0 ⟨Nat.zero_le _, rfl⟩ Qy Qs ?_
    conv => whnf
    rintro k ⟨i1, i2⟩
    by_cases hk : k < ps.length
    · have hok := okI_iff (gAtD hk) (gAtD (show ((k : Int) - 1).toNat < ps.length by omega))
      have hno := validB_false (den := den) hk
      rw [show ((k : Int) - 1).toNat = k - 1 by omega] at hok
      repeat' ((conv => whnf) <;> (first | refine CK.anyK (id := 8) [0, 1, 2, 3, 4, 5, 6, 7, 8, 9, 10, 11, 12, 13, 14, 15, 16, 17, 18] [] _ (List.Sublist.refl _) Qk ?_ | refine zM ?_ | refine zW ?_ | intro _ | exact zF | refine Br.tt ?_ | refine Br.ff ?_ | (refine Br.mk (fun h => ?_) (fun h => ?_) <;> (try simp only [sh] at h) <;> try first | (exfalso; omega) | exact absurd trivial h | (simp at h; done)) | refine zA ?_ | refine zN ?_ | refine zO ?_ | refine zP ?_ | refine zB ?_ | refine zQ ?_ | refine Quo.t Qw ?_ | refine zR ?_ | refine Rem.t Qw ?_ | refine lB ?_ | refine lBA ?_ | refine zK ?_ | refine s1 ?_ | refine sA ?_ | refine Kx.nil ?_ | refine Kx.stp rfl rfl Qs ?_ | refine kA ?_ | (refine Kx.frzR 0 rfl ?_ <;> refine kF ?_) | refine kP ?_ | refine k1 ?_ | refine kB ?_ | refine kL ?_ | refine zC ?_ | exact True.intro | fail))
      · conv => whnf
        exact .out _ (by exact List.nil_sublist _) ⟨congrArg B (hno (by rw [← Bool.not_eq_true, hok]; omega)).symm, rfl⟩
      · conv => whnf
        exact .out _ (by exact List.nil_sublist _) ⟨congrArg B (hno (by rw [← Bool.not_eq_true, hok]; omega)).symm, rfl⟩
      · conv => whnf
        exact .out _ (by exact List.nil_sublist _) ⟨congrArg B (hno (by rw [← Bool.not_eq_true, hok]; omega)).symm, rfl⟩
      · (conv => whnf); (refine Nxt.of (k + 1) [2, 3, 4, 28, 29, 30, 31, 32, 33, 34, 35, 36, 37, 38, 39, 40, 41, 42, 43, 44, 45, 46, 47, 48, 49, 50, 51, 52, 53, 54, 55, 56, 57, 58, 59, 60, 61, 62, 63, 64, 65, 66, 67, 68, 69, 70, 71, 72, 73, 74, 75, 76, 77] Qr Qr Qr ?_ ?_ Qy Qs <;> (try dsimp only) <;> (try omega))
        exact ⟨hk, all_snoc i2 (hok.2 (by omega))⟩
    · obtain rfl : k = ps.length := by omega
      repeat' ((conv => whnf) <;> (first | refine zM ?_ | refine zW ?_ | intro _ | exact zF | refine Br.tt ?_ | refine Br.ff ?_ | (refine Br.mk (fun h => ?_) (fun h => ?_) <;> (try simp only [sh] at h) <;> try first | (exfalso; omega) | exact absurd trivial h | (simp at h; done)) | refine zA ?_ | refine zN ?_ | refine zO ?_ | refine zP ?_ | refine zB ?_ | refine zQ ?_ | refine Quo.t Qw ?_ | refine zR ?_ | refine Rem.t Qw ?_ | refine lB ?_ | refine lBA ?_ | refine zK ?_ | refine s1 ?_ | refine sA ?_ | refine zC ?_ | fail))
      conv => whnf
      refine .out _ (by exact List.nil_sublist _) ⟨congrArg B ?_, rfl⟩
      simp [validB, i2]
      omega
theorem at1_ok (den x i : Int) (ps : List Pc) (hi : 0 ≤ i) (hi' : i < ps.length) : FnA Try.prog 49 [I i, .fp (favC den ps) 0, .fp [I x] 0] (B (decide (x < (ps.getD i.toNat default).frm))) := by
  have hl : (ps.map pav).length = ps.length := by simp
  refine fn_run (T := tab) Try.func49 rfl Try.ntmps49 rfl Try.results49 (fun _ => ?_)
  repeat' ((conv => whnf) <;> (first | refine zM ?_ | refine zW ?_ | intro _ | exact zF | refine Fin.pure ?_ | refine Br.tt ?_ | refine Br.ff ?_ | (refine Br.mk (fun h => ?_) (fun h => ?_) <;> (try simp only [sh] at h) <;> try first | (exfalso; omega) | exact absurd trivial h | (simp at h; done)) | refine zA ?_ | refine zN ?_ | refine zO ?_ | refine zP ?_ | refine zB ?_ | refine zQ ?_ | refine Quo.t Qw ?_ | refine zR ?_ | refine Rem.t Qw ?_ | refine lB ?_ | refine lBA ?_ | refine zK ?_ | refine s1 ?_ | refine sA ?_ | refine zC ?_ | fail))
set_option maxHeartbeats 4000000 in
theorem at_ok (den x : Int) (ps : List Pc) (hok : validB den ps = true) (hx : 0 ≤ x) (hx' : x ≤ 1000000000000) : FnA Try.prog 30 [fav den ps, I x] (.tup [I (numAt ps x), I (pcAt ps x).slope]) := by
  have hvp := valid_parts hok
  have hl : (ps.map pav).length = ps.length := by simp
  have hs : FnA Try.prog 48 [I (ps.map pav).length, .fn (.func 49) [.fp (favC den ps) 0, .fp [I x] 0]] (I (pix ps x + 1 : Nat)) := by
    rw [hl]
    refine (sSearch_ok ps.length 49 _ (fun i => decide (x < (ps.getD i.toNat default).frm)) ent49 (by omega) (by omega) (fun i h0 h1 => at1_ok den x i ps h0 h1) ?_).val ?_
    · intro a b ha hab hb hpa
      simp only [decide_eq_true_eq] at hpa ⊢
      rcases Int.lt_or_eq_of_le hab with hlt | rfl
      · have := valid_incr hok (show a.toNat < b.toNat by omega) (gAtD (by omega)) (gAtD (by omega))
        omega
      · exact hpa
    · obtain ⟨s1, s2, s3⟩ := pcAt_spec hok hx
      have hsl : pix ps x < ps.length := (List.getElem?_eq_some_iff.1 s1).1
      have hgp : ps.getD (pix ps x) default = pcAt ps x := by
        have := gAtD hsl
        rw [s1] at this
        exact (Option.some.inj this).symm
      rw [fst_is (r := ((pix ps x + 1 : Nat) : Int)) (by omega)]
      unfold IsFirst
      rw [if_pos (by omega)]
      refine ⟨by omega, by omega, fun i h0 h1 => ?_, fun i h0 h1 => ?_⟩
      · simp only [decide_eq_false_iff_not]
        rcases Nat.lt_or_ge i.toNat (pix ps x) with h | h
        · have := valid_incr hok h (gAtD (show i.toNat < ps.length by omega)) s1; omega
        · have e : i.toNat = pix ps x := by omega
          rw [e, hgp]
          omega
      · have e2 := gAtD (show pix ps x + 1 < ps.length by omega)
        have h2 := s3 _ e2
        simp only [decide_eq_true_eq]
        rcases Nat.lt_or_ge (pix ps x + 1) i.toNat with h | h
        · have := valid_incr hok h e2 (gAtD (show i.toNat < ps.length by omega)); omega
        · have e : i.toNat = pix ps x + 1 := by omega
          rw [e]; exact h2
  obtain ⟨s1, s2, s3⟩ := pcAt_spec hok hx
  have hsl : pix ps x < ps.length := (List.getElem?_eq_some_iff.1 s1).1
  have hb := valid_piece hok s1
  have hm := mul_bd (pcAt ps x).slope (x - (pcAt ps x).frm) 1000000 1000000000000 (by omega) (by omega) (by omega) (by omega) (by omega)
  have hel : (ps.map pav)[(((pix ps x + 1 : Nat) : Int) - 1).toNat]? = some (pav (pcAt ps x)) := by
    rw [show (((pix ps x + 1 : Nat) : Int) - 1).toNat = pix ps x by omega, List.getElem?_map, s1]
    rfl
  unfold numAt
  generalize pcAt ps x = p at *
  refine fn_run (T := tab) Try.func30 rfl Try.ntmps30 rfl Try.results30 (fun _ => ?_)
  repeat' ((conv => whnf) <;> (first | refine CK.anyK (id := 3) [0, 1, 2, 3, 4, 5, 6, 7, 8, 9, 10, 11, 12, 13] [] _ (List.Sublist.refl _) Qk ?_ | refine zA ?_ (h := hel) | (refine LK.frzB 0 rfl ?_ <;> refine LK.frzB 1 rfl ?_ <;> refine LK.see 11 rfl (Sb.fn (.cons (Sb.ptr 1 rfl) (.cons (Sb.ptr 0 rfl) .nil))) ?_ <;> refine LK.callA ent48 hs rfl rfl Ql ?_) | refine zM ?_ | refine zW ?_ | intro _ | exact zF | refine Fin.pure ?_ | refine Br.tt ?_ | refine Br.ff ?_ | (refine Br.mk (fun h => ?_) (fun h => ?_) <;> (try simp only [sh] at h) <;> try first | (exfalso; omega) | exact absurd trivial h | (simp at h; done)) | refine zA ?_ | refine zN ?_ | refine zO ?_ | refine zP ?_ | refine zB ?_ | refine zQ ?_ | refine Quo.t Qw ?_ | refine zR ?_ | refine Rem.t Qw ?_ | refine lB ?_ | refine lBA ?_ | refine zK ?_ | refine s1 ?_ | refine sA ?_ | refine Kx.nil ?_ | refine Kx.stp rfl rfl Qs ?_ | refine kA ?_ | (refine Kx.frzR 0 rfl ?_ <;> refine kF ?_) | refine kP ?_ | refine k1 ?_ | refine kB ?_ | refine kL ?_ | refine zC ?_ | fail))
theorem argument_ok (x : Int) : FnA Try.prog 43 [I x] (B (argB x)) := by
  refine fn_run (T := tab) Try.func43 rfl Try.ntmps43 rfl Try.results43 (fun _ => ?_)
  repeat' ((conv => whnf) <;> (first | refine zM ?_ | refine zW ?_ | intro _ | exact zF | refine Fin.pure ?_ | refine Br.tt ?_ | refine Br.ff ?_ | (refine Br.mk (fun h => ?_) (fun h => ?_) <;> (try simp only [sh] at h) <;> try first | (exfalso; omega) | exact absurd trivial h | (simp at h; done)) | refine zA ?_ | refine zN ?_ | refine zO ?_ | refine zP ?_ | refine zB ?_ | refine zQ ?_ | refine Quo.t Qw ?_ | refine zR ?_ | refine Rem.t Qw ?_ | refine lB ?_ | refine lBA ?_ | refine zK ?_ | refine s1 ?_ | refine sA ?_ | refine zC ?_ | fail))
theorem pfloor_ok (a b : Int) (hb : 1 ≤ b) (ha : -9000000000000000000 ≤ a ∧ a ≤ 9000000000000000000) : FnA Try.prog 44 [I a, I b] (I (a / b)) := by
  have hfd := fdiv_eq a b hb
  have h2 := tdiv_bd a b hb ha
  unfold fdiv at hfd
  refine fn_run (T := tab) Try.func44 rfl Try.ntmps44 rfl Try.results44 (fun _ => ?_)
  repeat' ((conv => whnf) <;> (first | refine zM ?_ | refine zW ?_ | intro _ | exact zF | refine Br.tt ?_ | refine Br.ff ?_ | (refine Br.mk (fun h => ?_) (fun h => ?_) <;> (try simp only [sh] at h) <;> try first | (exfalso; omega) | exact absurd trivial h | (simp at h; done)) | refine zA ?_ | refine zN ?_ | refine zO ?_ | refine zP ?_ | refine zB ?_ | refine zQ ?_ | refine Quo.t Qw ?_ | refine zR ?_ | refine Rem.t Qw ?_ | refine lB ?_ | refine lBA ?_ | refine zK ?_ | refine s1 ?_ | refine sA ?_ | refine zC ?_ | fail))
  · conv => whnf
    exact .out _ (by exact List.nil_sublist _) ⟨congrArg I (by rw [← hfd, if_pos h]), rfl⟩
  · conv => whnf
    exact .out _ (by exact List.nil_sublist _) ⟨congrArg I (by rw [← hfd, if_neg (by omega)]), rfl⟩
def tr3 (r : Int × Int × Int) : AV := .tup [I r.1, I r.2.1, I r.2.2]
def pr2 (r : Int × Int) : AV := .tup [I r.1, I r.2]
theorem pEval_ok (den x : Int) (ps : List Pc) (hlen : ps.length ≤ 9223372036854775807) : FnA Try.prog 22 [fav den ps, I x] (tr3 (evalR den ps x)) := by
  have cv := valid_ok den ps hlen
  have ca := argument_ok x
  by_cases hok : validB den ps = true ∧ argB x = true
  · have hx : 0 ≤ x ∧ x ≤ 1000000000000 := by simpa [argB] using hok.2
    have e : evalR den ps x = (numAt ps x, den, 0) := if_pos hok
    rw [e]
    rw [hok.1] at cv
    rw [hok.2] at ca
    have cn := at_ok den x ps hok.1 hx.1 hx.2
    refine fn_run (T := tab) Try.func22 rfl Try.ntmps22 rfl Try.results22 (fun _ => ?_)
    repeat' ((conv => whnf) <;> (first | refine zM ?_ | refine zW ?_ | intro _ | exact zF | refine Fin.pure ?_ | refine Br.tt ?_ | refine Br.ff ?_ | (refine Br.mk (fun h => ?_) (fun h => ?_) <;> (try simp only [sh] at h) <;> try first | (exfalso; omega) | exact absurd trivial h | (simp at h; done)) | refine zA ?_ | refine zN ?_ | refine zO ?_ | refine zP ?_ | refine zB ?_ | refine zQ ?_ | refine Quo.t Qw ?_ | refine zR ?_ | refine Rem.t Qw ?_ | refine zL ent20 cv ?_ | refine zG ent20 (fun h => cv) ?_ | refine zL ent43 ca ?_ | refine zG ent43 (fun h => ca) ?_ | refine zL ent30 cn ?_ | refine zG ent30 (fun h => cn) ?_ | refine lB ?_ | refine lBA ?_ | refine zK ?_ | refine s1 ?_ | refine sA ?_ | refine zC ?_ | exact True.intro | fail))
  · have e : evalR den ps x = (0, 0, 1) := if_neg hok
    rw [e]
    cases hv : validB den ps with
    | true =>
      rw [hv] at cv
      have ha : argB x = false := by
        cases h : argB x with
        | true => exact absurd ⟨hv, h⟩ hok
        | false => rfl
      rw [ha] at ca
      refine fn_run (T := tab) Try.func22 rfl Try.ntmps22 rfl Try.results22 (fun _ => ?_)
      repeat' ((conv => whnf) <;> (first | refine zM ?_ | refine zW ?_ | intro _ | exact zF | refine Fin.pure ?_ | refine Br.tt ?_ | refine Br.ff ?_ | (refine Br.mk (fun h => ?_) (fun h => ?_) <;> (try simp only [sh] at h) <;> try first | (exfalso; omega) | exact absurd trivial h | (simp at h; done)) | refine zA ?_ | refine zN ?_ | refine zO ?_ | refine zP ?_ | refine zB ?_ | refine zQ ?_ | refine Quo.t Qw ?_ | refine zR ?_ | refine Rem.t Qw ?_ | refine zL ent20 cv ?_ | refine zG ent20 (fun h => cv) ?_ | refine zL ent43 ca ?_ | refine zG ent43 (fun h => ca) ?_ | refine lB ?_ | refine lBA ?_ | refine zK ?_ | refine s1 ?_ | refine sA ?_ | refine zC ?_ | exact True.intro | fail))
    | false =>
      rw [hv] at cv
      refine fn_run (T := tab) Try.func22 rfl Try.ntmps22 rfl Try.results22 (fun _ => ?_)
      repeat' ((conv => whnf) <;> (first | refine zM ?_ | refine zW ?_ | intro _ | exact zF | refine Fin.pure ?_ | refine Br.tt ?_ | refine Br.ff ?_ | (refine Br.mk (fun h => ?_) (fun h => ?_) <;> (try simp only [sh] at h) <;> try first | (exfalso; omega) | exact absurd trivial h | (simp at h; done)) | refine zA ?_ | refine zN ?_ | refine zO ?_ | refine zP ?_ | refine zB ?_ | refine zQ ?_ | refine Quo.t Qw ?_ | refine zR ?_ | refine Rem.t Qw ?_ | refine zL ent20 cv ?_ | refine zG ent20 (fun h => cv) ?_ | refine zL ent43 ca ?_ | refine zG ent43 (fun h => ca) ?_ | refine lB ?_ | refine lBA ?_ | refine zK ?_ | refine s1 ?_ | refine sA ?_ | refine zC ?_ | exact True.intro | fail))
def stepsR (start slope low high : Int) : Int × Int :=
  if 0 < slope then (-((start - low) / slope), (high - start) / slope)
  else if slope < 0 then (-((high - start) / -slope), (start - low) / -slope)
  else if low ≤ start ∧ start ≤ high then (0, 1000000000000) else (0, -1)
theorem pSteps_ok (start slope low high : Int) (h1 : -2000000000000000000 ≤ start ∧ start ≤ 2000000000000000000) (h2 : -1000000 ≤ slope ∧ slope ≤ 1000000) (h3 : -2000000000000000000 ≤ low ∧ low ≤ 2000000000000000000) (h4 : -2000000000000000000 ≤ high ∧ high ≤ 2000000000000000000) :
    FnA Try.prog 38 [I start, I slope, I low, I high] (pr2 (stepsR start slope low high)) := by
  unfold stepsR
  by_cases hp : 0 < slope
  · rw [if_pos hp]
    have c1 := pfloor_ok (start - low) slope (by omega) (by omega)
    have c2 := pfloor_ok (high - start) slope (by omega) (by omega)
    have q1 := div_abs (start - low) slope 4000000000000000000 (by omega) (by omega) (by omega) (by omega)
    refine fn_run (T := tab) Try.func38 rfl Try.ntmps38 rfl Try.results38 (fun _ => ?_)
    repeat' ((conv => whnf) <;> (first | refine zM ?_ | refine zW ?_ | intro _ | exact zF | refine Fin.pure ?_ | refine Br.tt ?_ | refine Br.ff ?_ | (refine Br.mk (fun h => ?_) (fun h => ?_) <;> (try simp only [sh] at h) <;> try first | (exfalso; omega) | exact absurd trivial h | (simp at h; done)) | refine zA ?_ | refine zN ?_ | refine zO ?_ | refine zP ?_ | refine zB ?_ | refine zQ ?_ | refine Quo.t Qw ?_ | refine zR ?_ | refine Rem.t Qw ?_ | refine zL ent44 c1 ?_ | refine zG ent44 (fun h => c1) ?_ | refine zL ent44 c2 ?_ | refine zG ent44 (fun h => c2) ?_ | refine lB ?_ | refine lBA ?_ | refine zK ?_ | refine s1 ?_ | refine sA ?_ | refine zC ?_ | fail))
  · rw [if_neg hp]
    by_cases hm : slope < 0
    · rw [if_pos hm]
      have c1 := pfloor_ok (high - start) (-slope) (by omega) (by omega)
      have c2 := pfloor_ok (start - low) (-slope) (by omega) (by omega)
      have q1 := div_abs (high - start) (-slope) 4000000000000000000 (by omega) (by omega) (by omega) (by omega)
      refine fn_run (T := tab) Try.func38 rfl Try.ntmps38 rfl Try.results38 (fun _ => ?_)
      repeat' ((conv => whnf) <;> (first | refine zM ?_ | refine zW ?_ | intro _ | exact zF | refine Fin.pure ?_ | refine Br.tt ?_ | refine Br.ff ?_ | (refine Br.mk (fun h => ?_) (fun h => ?_) <;> (try simp only [sh] at h) <;> try first | (exfalso; omega) | exact absurd trivial h | (simp at h; done)) | refine zA ?_ | refine zN ?_ | refine zO ?_ | refine zP ?_ | refine zB ?_ | refine zQ ?_ | refine Quo.t Qw ?_ | refine zR ?_ | refine Rem.t Qw ?_ | refine zL ent44 c1 ?_ | refine zG ent44 (fun h => c1) ?_ | refine zL ent44 c2 ?_ | refine zG ent44 (fun h => c2) ?_ | refine lB ?_ | refine lBA ?_ | refine zK ?_ | refine s1 ?_ | refine sA ?_ | refine zC ?_ | fail))
    · rw [if_neg hm]
      refine fn_run (T := tab) Try.func38 rfl Try.ntmps38 rfl Try.results38 (fun _ => ?_)
      repeat' ((conv => whnf) <;> (first | refine zM ?_ | refine zW ?_ | intro _ | exact zF | refine Br.tt ?_ | refine Br.ff ?_ | (refine Br.mk (fun h => ?_) (fun h => ?_) <;> (try simp only [sh] at h) <;> try first | (exfalso; omega) | exact absurd trivial h | (simp at h; done)) | refine zA ?_ | refine zN ?_ | refine zO ?_ | refine zP ?_ | refine zB ?_ | refine zQ ?_ | refine Quo.t Qw ?_ | refine zR ?_ | refine Rem.t Qw ?_ | refine lB ?_ | refine lBA ?_ | refine zK ?_ | refine s1 ?_ | refine sA ?_ | refine zC ?_ | fail))
      all_goals (conv => whnf)
      all_goals first | rw [if_pos (by omega)] | rw [if_neg (by omega)]
      all_goals exact .out _ (by exact List.nil_sublist _) ⟨rfl, rfl⟩
set_option maxHeartbeats 8000000 in
theorem round_ok (den x mode : Int) (ps : List Pc) (hlen : ps.length ≤ 9223372036854775807) : FnA Try.prog 24 [fav den ps, I x, I mode] (pr2 (roundR den ps x mode)) := by
  have cv := valid_ok den ps hlen
  have ca := argument_ok x
  by_cases hok : validB den ps = true ∧ argB x = true ∧ modeB mode = true
  · obtain ⟨h1, h2, h3⟩ := hok
    have hx : 0 ≤ x ∧ x ≤ 1000000000000 := by simpa [argB] using h2
    have hm : mode = 0 ∨ mode = 1 ∨ mode = 2 := by simpa [modeB, or_assoc] using h3
    have hvp := valid_parts h1
    have hn := numAt_bd h1 hx.1 hx.2
    have hd := div_bd (numAt ps x) den (by omega)
    have hq := div_abs (numAt ps x) den 2000000000000000000 (by omega) (by omega) (by omega) (by omega)
    have he : roundR den ps x mode = if inMax (roundQ (numAt ps x) den mode) = true then (roundQ (numAt ps x) den mode, 0) else (0, 3) := if_pos ⟨h1, h2, h3⟩
    rw [he]
    rw [h1] at cv
    rw [h2] at ca
    have c3 := at_ok den x ps h1 hx.1 hx.2
    have c4 := pfloor_ok (numAt ps x) den (by omega) (by omega)
    generalize hN : numAt ps x = N at *
    generalize hQ : N / den = q at *
    clear hlen
    refine fn_run (T := tab) Try.func24 rfl Try.ntmps24 rfl Try.results24 (fun _ => ?_)
    repeat' ((conv => whnf) <;> (first | refine zM ?_ | refine zW ?_ | intro _ | exact zF | refine Br.tt ?_ | refine Br.ff ?_ | (refine Br.mk (fun h => ?_) (fun h => ?_) <;> (try simp only [sh] at h) <;> try first | (exfalso; omega) | exact absurd trivial h | (simp at h; done)) | refine zA ?_ | refine zN ?_ | refine zO ?_ | refine zP ?_ | refine zB ?_ | refine zQ ?_ | refine Quo.t Qw ?_ | refine zR ?_ | refine Rem.t Qw ?_ | refine zL ent20 cv ?_ | refine zG ent20 (fun h => cv) ?_ | refine zL ent43 ca ?_ | refine zG ent43 (fun h => ca) ?_ | refine zL ent30 c3 ?_ | refine zG ent30 (fun h => c3) ?_ | refine zL ent44 c4 ?_ | refine zG ent44 (fun h => c4) ?_ | refine lB ?_ | refine lBA ?_ | refine zK ?_ | refine s1 ?_ | refine sA ?_ | refine zC ?_ | exact True.intro | fail))
    all_goals (conv => whnf)
    all_goals refine .out _ (by exact List.nil_sublist _) ⟨?_, rfl⟩
    all_goals first | rw [roundQ_pos hQ (by omega)] | rw [roundQ_neg hQ (by omega)]
    all_goals first | rw [if_pos (inMax_t (by omega))] | rw [if_neg (inMax_f (by omega))]
    all_goals rfl
  · have he : roundR den ps x mode = (0, 1) := if_neg hok
    rw [he]
    cases hv : validB den ps with
    | true =>
      rw [hv] at cv
      cases ha : argB x with
      | true =>
        rw [ha] at ca
        have hm : ¬ (mode = 0 ∨ mode = 1 ∨ mode = 2) := fun h => hok ⟨hv, ha, by simpa [modeB, or_assoc] using h⟩
        refine fn_run (T := tab) Try.func24 rfl Try.ntmps24 rfl Try.results24 (fun _ => ?_)
        repeat' ((conv => whnf) <;> (first | refine zM ?_ | refine zW ?_ | intro _ | exact zF | refine Fin.pure ?_ | refine Br.tt ?_ | refine Br.ff ?_ | (refine Br.mk (fun h => ?_) (fun h => ?_) <;> (try simp only [sh] at h) <;> try first | (exfalso; omega) | exact absurd trivial h | (simp at h; done)) | refine zA ?_ | refine zN ?_ | refine zO ?_ | refine zP ?_ | refine zB ?_ | refine zQ ?_ | refine Quo.t Qw ?_ | refine zR ?_ | refine Rem.t Qw ?_ | refine zL ent20 cv ?_ | refine zG ent20 (fun h => cv) ?_ | refine zL ent43 ca ?_ | refine zG ent43 (fun h => ca) ?_ | refine lB ?_ | refine lBA ?_ | refine zK ?_ | refine s1 ?_ | refine sA ?_ | refine zC ?_ | exact True.intro | fail))
      | false =>
        rw [ha] at ca
        refine fn_run (T := tab) Try.func24 rfl Try.ntmps24 rfl Try.results24 (fun _ => ?_)
        repeat' ((conv => whnf) <;> (first | refine zM ?_ | refine zW ?_ | intro _ | exact zF | refine Fin.pure ?_ | refine Br.tt ?_ | refine Br.ff ?_ | (refine Br.mk (fun h => ?_) (fun h => ?_) <;> (try simp only [sh] at h) <;> try first | (exfalso; omega) | exact absurd trivial h | (simp at h; done)) | refine zA ?_ | refine zN ?_ | refine zO ?_ | refine zP ?_ | refine zB ?_ | refine zQ ?_ | refine Quo.t Qw ?_ | refine zR ?_ | refine Rem.t Qw ?_ | refine zL ent20 cv ?_ | refine zG ent20 (fun h => cv) ?_ | refine zL ent43 ca ?_ | refine zG ent43 (fun h => ca) ?_ | refine lB ?_ | refine lBA ?_ | refine zK ?_ | refine s1 ?_ | refine sA ?_ | refine zC ?_ | exact True.intro | fail))
    | false =>
      rw [hv] at cv
      refine fn_run (T := tab) Try.func24 rfl Try.ntmps24 rfl Try.results24 (fun _ => ?_)
      repeat' ((conv => whnf) <;> (first | refine zM ?_ | refine zW ?_ | intro _ | exact zF | refine Fin.pure ?_ | refine Br.tt ?_ | refine Br.ff ?_ | (refine Br.mk (fun h => ?_) (fun h => ?_) <;> (try simp only [sh] at h) <;> try first | (exfalso; omega) | exact absurd trivial h | (simp at h; done)) | refine zA ?_ | refine zN ?_ | refine zO ?_ | refine zP ?_ | refine zB ?_ | refine zQ ?_ | refine Quo.t Qw ?_ | refine zR ?_ | refine Rem.t Qw ?_ | refine zL ent20 cv ?_ | refine zG ent20 (fun h => cv) ?_ | refine zL ent43 ca ?_ | refine zG ent43 (fun h => ca) ?_ | refine lB ?_ | refine lBA ?_ | refine zK ?_ | refine s1 ?_ | refine sA ?_ | refine zC ?_ | exact True.intro | fail))
end Go.Proofs.Ytnekeokgognegaa
