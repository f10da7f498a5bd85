/-
  Walks: package span: Meet.
  Conditions: those of each theorem.
-/
import Derived.Test.YtjfnkmlnbaianaaGreatSQ
namespace Go.Proofs.YtjfnkmlnbaianaaGreat
open Go.E2 Go.Wage Go.Sort
theorem sMeet1_ok (x y : Bool) : FnA Tryz.prog 82 [B x, B y] (B (x && y)) := by
 refine fn_run (T := tab) Tryz.func82 rfl Tryz.ntmps82 rfl Tryz.results82 (fun _ => ?_)
 repeat' ((conv => whnf) <;> (first | refine zM ?_ | refine zW ?_ | intro _ | exact zF | refine Fin.pure ?_ | refine Br.tt ?_ | refine Br.ff ?_ | (refine Br.mk (fun h => ?_) (fun h => ?_) <;> (try simp only [sh] at h) <;> try first | (exfalso; omega) | exact absurd trivial h | (simp at h; done)) | refine zA ?_ | refine zN ?_ | refine zO ?_ | refine zP ?_ | refine zB ?_ | refine zK ?_ | refine zC ?_ | fail))
theorem sMeet_ok (a : List Sp) (s : Sp) (ha : a.length ≤ 1000000) : FnE Tryz.prog 61 [.sl 2 (a.map spav), .sl 2 [spav s]] fun r E => E = [] ∧ ∃ m : List Sp, r = .sl 2 (m.map spav) ∧ decide (0 < m.length) = meetB a s := by
 have hc := (sweep_ok a [s] (by simp; omega) 82 (fun x y => x && y) ent82 sMeet1_ok).mono (Ψ := fun r E => E = [] ∧ ∃ m : List Sp, r = .sl 2 (m.map spav) ∧ decide (0 < m.length) = meetB a s) (by
  rintro r E ⟨rfl, es, rfl, lb, h1, h2, h3, h4⟩
  obtain ⟨m1, m2⟩ := sw_spec (fun x y => x && y) rfl es 0 0 false 0 lb h1 (by omega) (by omega) (fun _ => rfl) (fun h => by cases h)
  have hv := m2 (match hd? es with | some a => a - 1 | none => 0) (fun h => by cases h) (fun a ha => by simp only [ha]; omega)
  refine ⟨rfl, _, rfl, ?_⟩
  have hin : ∀ x, inS (sw (fun x y => x && y) 0 0 false 0 es) x ↔ inS (a.filter prp) x ∧ inS ([s].filter prp) x := fun x => by
   rw [m1, ← (h4 x).1, ← (h4 x).2]
   unfold stat
   cases hh : hd? es with
   | none =>
    have : es = [] := by cases es with | nil => rfl | cons e es => simp [hd?] at hh
    subst this
    simp [c1]
   | some q =>
    by_cases hx : x < q
    ·simp only [hx, if_true]
     have : c1 x es = 0 := by
      cases es with
      | nil => rfl
      | cons e es =>
       simp only [hd?, Option.some.injEq] at hh
       exact (c1_low (asc_self h1) (by omega)).1
     rw [this]; simp
    ·simp only [hx, if_false, Int.zero_add, Bool.and_eq_true, decide_eq_true_eq]
  generalize sw (fun x y => x && y) 0 0 false 0 es = m at *
  rw [Bool.eq_iff_iff, decide_eq_true_eq]
  unfold meetB
  rw [List.any_eq_true]
  constructor
  ·intro hm
   cases m with
   | nil => simp at hm
   | cons t m =>
    obtain ⟨⟨u, hu, hu1⟩, ⟨w, hw, hw1⟩⟩ := (hin t.1).1 ⟨t, by simp, Int.le_refl _, hv.2.1⟩
    rw [List.mem_filter] at hu hw
    simp only [List.mem_singleton] at hw
    obtain ⟨rfl, hw⟩ := hw
    exact ⟨u, hu.1, by simp only [Bool.and_eq_true, decide_eq_true_eq]; exact ⟨⟨⟨hu.2, hw⟩, by omega⟩, by omega⟩⟩
  ·rintro ⟨t, ht, hc⟩
   simp only [Bool.and_eq_true, decide_eq_true_eq] at hc
   have := (hin (max t.1 s.1)).2 ⟨⟨t, List.mem_filter.2 ⟨ht, hc.1.1.1⟩, by have := prp_lt hc.1.1.1; omega⟩, ⟨s, List.mem_filter.2 ⟨by simp, hc.1.1.2⟩, by have := prp_lt hc.1.1.2; omega⟩⟩
   obtain ⟨u, hu, _⟩ := this
   exact List.length_pos_of_mem hu)
 refine fn_run (T := tab) Tryz.func61 rfl Tryz.ntmps61 rfl Tryz.results61 (fun _ => ?_)
 repeat' ((conv => whnf) <;> (first | refine zM ?_ | refine zW ?_ | intro _ | exact zF | refine Br.tt ?_ | refine Br.ff ?_ | (refine Br.mk (fun h => ?_) (fun h => ?_) <;> (try simp only [sh] at h) <;> try first | (exfalso; omega) | exact absurd trivial h | (simp at h; done)) | refine zA ?_ | refine zN ?_ | refine zO ?_ | refine zP ?_ | refine zB ?_ | (refine LK.call ent81 (hc) rfl rfl Ql (fun _ _ hcall => ?_) <;> obtain ⟨rfl, m, rfl, hm⟩ := hcall) | refine lB ?_ | refine lBA ?_ | refine zK ?_ | refine s1 ?_ | refine sA ?_ | refine zC ?_ | fail))
 conv => whnf
 exact .out [] (List.nil_sublist _) ⟨rfl, m, rfl, hm⟩
end Go.Proofs.YtjfnkmlnbaianaaGreat
