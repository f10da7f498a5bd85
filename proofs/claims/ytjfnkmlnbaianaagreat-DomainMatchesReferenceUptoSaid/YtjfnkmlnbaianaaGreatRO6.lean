/-
  Walks: package roster: Worker.
  Conditions: those of each theorem.
-/
import Derived.Test.YtjfnkmlnbaianaaGreatRO5
namespace Go.Proofs.YtjfnkmlnbaianaaGreat
open Go.E2 Go.Wage
theorem meth_of {P : Program} {nm : String} {x u : Value} {f : FuncId} (h : ∀ args w, (callMethod x nm args).run P w = .ok (.enter f (#[u] ++ args)) w) : Meth P nm x f u := ⟨fun args w => by
 have e : (#[x] ++ args)[0]? = some x := by
  rw [Array.getElem?_append_left (by simp)]; rfl
 simp [invoke]
 rw [e]
 exact h args w⟩
theorem mSkill : Meth Tryz.prog "wageoffice/roster.find" (.iface 121 (.agg #[])) 191 (.agg #[]) := meth_of fun args w => by kernel_rfl
theorem mAway : Meth Tryz.prog "wageoffice/roster.find" (.iface 122 (.agg #[])) 195 (.agg #[]) := meth_of fun args w => by kernel_rfl
theorem mRest : Meth Tryz.prog "wageoffice/roster.find" (.iface 123 (.agg #[])) 197 (.agg #[]) := meth_of fun args w => by kernel_rfl
theorem mWeek : Meth Tryz.prog "wageoffice/roster.find" (.iface 124 (.agg #[])) 202 (.agg #[]) := meth_of fun args w => by kernel_rfl
theorem mNight : Meth Tryz.prog "wageoffice/roster.find" (.iface 125 (.agg #[])) 205 (.agg #[]) := meth_of fun args w => by kernel_rfl
theorem mMinor : Meth Tryz.prog "wageoffice/roster.find" (.iface 126 (.agg #[])) 207 (.agg #[]) := meth_of fun args w => by kernel_rfl
def parts (p : Pl) (w : Nat) (mine : List Nat) : List (List Vi) := [sing 1 w (fun d => skB (p.workers.getD w default) (p.duties.getD d default)) mine, sing 2 w (fun d => awB (p.workers.getD w default) (p.duties.getD d default)) mine, restL p w mine, weekL p w (trip p mine),
 if (p.workers.getD w default).minor then sing 5 w (fun d => niB p (p.duties.getD d default)) mine else [], if (p.workers.getD w default).minor then minL p w (trip p mine) else []]
theorem parts_all (p : Pl) (w : Nat) (mine : List Nat) : (parts p w mine).flatten = violW p w mine := by
 simp [parts, violW]
theorem fl_succ {k : Nat} {l : List (List Vi)} {x : List Vi} (h : l[k]? = some x) (v : Vi) : v ∈ (l.take (k + 1)).flatten ↔ v ∈ (l.take k).flatten ∨ v ∈ x := by
 obtain ⟨h1, h2⟩ := List.getElem?_eq_some_iff.1 h
 rw [List.take_succ_eq_append_getElem h1, h2, List.flatten_append, List.mem_append]
 simp
theorem sing_kind {kind w : Int} {f : Nat → Bool} {mine : List Nat} {v : Vi} (h : v ∈ sing kind w f mine) : v.kind = kind ∧ v.wk = w := by
 unfold sing at h
 obtain ⟨d, _, rfl⟩ := List.mem_map.1 h
 exact ⟨rfl, rfl⟩
theorem restL_wk {p : Pl} {w : Int} : ∀ {mine : List Nat} {v : Vi}, v ∈ restL p w mine → v.wk = w
 | [], v, h => by cases h
 | d :: l, v, h => by
  rw [restL] at h
  rcases List.mem_append.1 h with h | h
  ·obtain ⟨x, _, rfl⟩ := List.mem_map.1 h; rfl
  ·exact restL_wk h
theorem weekL_kind {p : Pl} {w : Int} {T : Tri} {v : Vi} (h : v ∈ weekL p w T) : v.kind = 4 ∧ v.wk = w := by
 unfold weekL at h
 obtain ⟨d, _, rfl⟩ := List.mem_map.1 h
 exact ⟨rfl, rfl⟩
theorem minL_kind {p : Pl} {w : Int} {T : Tri} {v : Vi} (h : v ∈ minL p w T) : v.kind = 6 ∧ v.wk = w := by
 unfold minL at h
 obtain ⟨d, _, rfl⟩ := List.mem_map.1 h
 exact ⟨rfl, rfl⟩
theorem ite_mem {b : Bool} {l : List Vi} {v : Vi} (h : v ∈ if b = true then l else []) : v ∈ l := by
 split at h
 ·exact h
 ·cases h
theorem violW_wk {p : Pl} {w : Nat} {mine : List Nat} {v : Vi} (h : v ∈ violW p w mine) : v.wk = w := by
 unfold violW at h
 simp only [List.mem_append] at h
 rcases h with h | h | h | h | h | h
 ·exact (sing_kind h).2
 ·exact (sing_kind h).2
 ·exact restL_wk h
 ·exact (weekL_kind h).2
 ·exact (sing_kind (ite_mem h)).2
 ·exact (minL_kind (ite_mem h)).2
theorem step_nodup {acc l : List Vi} {j : Int} (h1 : acc.Nodup ∧ ∀ x ∈ acc, x.kind ≤ j) (h2 : l.Nodup) (h3 : ∀ x ∈ l, x.kind = j + 1) : (acc ++ l).Nodup ∧ ∀ x ∈ acc ++ l, x.kind ≤ j + 1 := by
 refine ⟨List.nodup_append.2 ⟨h1.1, h2, fun a ha b hb e => ?_⟩, fun x hx => ?_⟩
 ·have := h1.2 a ha
  have := h3 b hb
  subst e
  omega
 ·rcases List.mem_append.1 hx with hx | hx
  ·have := h1.2 x hx; omega
  ·have := h3 x hx; omega
set_option maxRecDepth 4000 in
set_option maxHeartbeats 4000000 in
theorem oWorker_pre (p : Pl) (ro : List Int) (w : Nat) (hv : validP p = true) (hs : Small p) (hrl : ro.length ≤ p.duties.length) (hw : w < p.workers.length) : FnE Tryz.prog 38 [.fp (ccs p) 0, .sl 1 (ro.map I), I w] fun r E => E = [] ∧ ∃ l : List Vi, r = .sl 4 (l.map viav) ∧ (∀ v, v ∈ l ↔ v ∈ violW p w (mineR ro w)) ∧ l.length ≤ 6000000 ∧ l.Nodup := by
 have hsd := hs.du
 have hlr : (ro.map I).length = ro.length := by simp
 have hm : MineOk p w (mineR ro w) := ⟨hv, hw, fun d hd => by have := mineR_lt hd; omega, by have := mineR_len ro w; omega, hs, mineR_nodup ro w⟩
 have c0 := oSkill_ok p w _ hm
 have c1 := oAway_ok p w _ hm
 have c2 := oRest_ok p w _ hm
 have c3 := oWeek_ok p w _ hm
 have c4 := oNight_ok p w _ hm
 have c5 := oMinor_ok p w _ hm
 refine fn_run (T := tab) Tryz.func38 rfl Tryz.ntmps38 rfl Tryz.results38 (fun _ => ?_)
 repeat' ((conv => whnf) <;> (first | refine zM ?_ | refine zW ?_ | intro _ | exact zF | refine Fin.pure ?_ | refine Br.tt ?_ | refine Br.ff ?_ | (refine Br.mk (fun h => ?_) (fun h => ?_) <;> (try simp only [sh] at h) <;> try first | (exfalso; omega) | exact absurd trivial h | (simp at h; done)) | refine zA ?_ | refine zN ?_ | refine zO ?_ | refine zP ?_ | refine zB ?_ | refine lB ?_ | refine lBA ?_ | refine zK ?_ | refine s1 ?_ | refine sA ?_ | refine zC ?_ | fail))
 rename_i b7
 conv => whnf
 refine CK.nilrow 3 1 ?_
 (conv => whnf); refine CK.loopK [8, 9, 18, 19, 20, 21, 22, 23, 24, 25, 26, 27, 28, 29, 30, 31, 32] (σ := Nat × Value) (fun s => s.1 ≤ ro.length) (fun ⟨k, _⟩ => [(18, I k)]) (fun ⟨k, v⟩ => [.row v 3 1 0 false ((mineK ro w k).map In), .blk b7 135 false [.fp (ccs p) 0, I w, .v v]]) _ (fun s => ro.length - s.1) (0, .slice none 0 0) (Nat.zero_le _) Qy (List.Sublist.refl _) ?_
 conv => whnf
 rintro ⟨k, v⟩ i1
 simp only at i1
 by_cases hk : k < ro.length
 ·have hkl := mineK_len ro w k
  have hks := mineK_succ ro w k
  repeat' ((conv => whnf) <;> (first | refine zM ?_ | refine zW ?_ | intro _ | exact zF | refine Fin.pure ?_ | refine Br.tt ?_ | refine Br.ff ?_ | (refine Br.mk (fun h => ?_) (fun h => ?_) <;> (try simp only [sh] at h) <;> try first | (exfalso; omega) | exact absurd trivial h | (simp at h; done)) | refine zA ?_ | refine zN ?_ | refine zO ?_ | refine zP ?_ | refine zB ?_ | refine lB ?_ | refine lBA ?_ | refine zK ?_ | refine s1 ?_ | refine sA ?_ | refine pS ?_ | refine LK.gr (Gr.bslV rfl rfl rfl rfl) ?_ | refine Ask.of (Gr.bslV rfl rfl rfl rfl) ?_ | refine zC ?_ | refine zD ?_ | fail))
  ·rename_i A B C
   rw [if_pos h] at hks
   (conv => whnf); (refine Nxt.of ((k + 1, Value.slice A B C)) [8, 9, 18, 19, 20, 21, 22, 23, 24, 25, 26, 27, 28, 29, 30, 31, 32] Qr Qr Qr ?_ ?_ Qy ?_ <;> (try dsimp only) <;> (try omega))
   rw [hks, List.map_append]
   exact Qs
  ·rw [if_neg h, List.append_nil] at hks
   (conv => whnf); (refine Nxt.of ((k + 1, v)) [8, 9, 18, 19, 20, 21, 22, 23, 24, 25, 26, 27, 28, 29, 30, 31, 32] Qr Qr Qr ?_ ?_ Qy ?_ <;> (try dsimp only) <;> (try omega))
   rw [hks]
   exact Qs
 ·have ek : mineK ro w k = mineR ro w := by
   obtain rfl : k = ro.length := by omega
   rfl
  repeat' ((conv => whnf) <;> (first | refine zM ?_ | refine zW ?_ | intro _ | exact zF | refine Br.tt ?_ | refine Br.ff ?_ | (refine Br.mk (fun h => ?_) (fun h => ?_) <;> (try simp only [sh] at h) <;> try first | (exfalso; omega) | exact absurd trivial h | (simp at h; done)) | refine zA ?_ | refine zN ?_ | refine zO ?_ | refine zP ?_ | refine zB ?_ | refine lB ?_ | refine lBA ?_ | refine zK ?_ | refine s1 ?_ | refine sA ?_ | refine zC ?_ | fail))
  conv => whnf
  dsimp only
  rw [ek]
  generalize mineR ro w = mine at *
  refine CK.frzR 0 rfl ?_
  refine CK.seeB 1 2 rfl rfl (Sb.row 0 rfl) ?_
  refine CK.nilrow 68 4 ?_
  (conv => whnf); refine CK.loopK [10, 12, 38, 39, 40, 41, 42, 43, 44, 45, 46, 47] (σ := Nat × Value × List Vi) (fun s => s.1 ≤ 6 ∧ s.2.2.length ≤ 1000000 * s.1 ∧ (s.2.2.Nodup ∧ ∀ x ∈ s.2.2, x.kind ≤ s.1) ∧ ∀ x, x ∈ s.2.2 ↔ x ∈ ((parts p w mine).take s.1).flatten) (fun ⟨k, v, _⟩ => [(38, I k), (10, .v v)]) (fun ⟨k, v, acc⟩ => [.row v 68 4 0 false (acc.map viav)]) _ (fun s => 6 - s.1) (0, .slice none 0 0, []) ⟨Nat.zero_le _, by simp, by simp, by simp⟩ Qy (List.Sublist.refl _) ?_
  conv => whnf
  rintro ⟨j, v1, acc⟩ ⟨j1, j2, j4, j3⟩
  simp only at j1 j2 j3 j4
  have hj : j = 0 ∨ j = 1 ∨ j = 2 ∨ j = 3 ∨ j = 4 ∨ j = 5 ∨ j = 6 := by omega
  rcases hj with rfl | rfl | rfl | rfl | rfl | rfl | rfl
  ·repeat' ((conv => whnf) <;> (first | (refine LK.callI mSkill rfl rfl Ql (fun _ => .agg .nil) c0 ?_ <;> rintro _ _ ⟨rfl, l, rfl, hl, hll, hln⟩) | refine zM ?_ | refine zW ?_ | intro _ | exact zF | refine Fin.pure ?_ | refine Br.tt ?_ | refine Br.ff ?_ | (refine Br.mk (fun h => ?_) (fun h => ?_) <;> (try simp only [sh] at h) <;> try first | (exfalso; omega) | exact absurd trivial h | (simp at h; done)) | refine zA ?_ | refine zN ?_ | refine zO ?_ | refine zP ?_ | refine zB ?_ | refine lB ?_ | refine lBA ?_ | refine zK ?_ | refine s1 ?_ | refine sA ?_ | refine pS ?_ | refine zC ?_ | fail))
   rename_i A B C
   (conv => whnf); (refine Nxt.of ((1, Value.slice A B C, acc ++ l)) [10, 12, 38, 39, 40, 41, 42, 43, 44, 45, 46, 47] Qr Qr Qr ?_ ?_ Qy ?_ <;> (try dsimp only) <;> (try omega))
   ·refine ⟨by omega, by rw [List.length_append]; omega, step_nodup j4 hln fun x hx => (sing_kind ((hl x).1 hx)).1, fun x => ?_⟩
    rw [List.mem_append, j3, hl, fl_succ (k := 0) rfl]
   ·rw [List.map_append]
    exact Qs
  ·repeat' ((conv => whnf) <;> (first | (refine LK.callI mAway rfl rfl Ql (fun _ => .agg .nil) c1 ?_ <;> rintro _ _ ⟨rfl, l, rfl, hl, hll, hln⟩) | refine zM ?_ | refine zW ?_ | intro _ | exact zF | refine Fin.pure ?_ | refine Br.tt ?_ | refine Br.ff ?_ | (refine Br.mk (fun h => ?_) (fun h => ?_) <;> (try simp only [sh] at h) <;> try first | (exfalso; omega) | exact absurd trivial h | (simp at h; done)) | refine zA ?_ | refine zN ?_ | refine zO ?_ | refine zP ?_ | refine zB ?_ | refine lB ?_ | refine lBA ?_ | refine zK ?_ | refine s1 ?_ | refine sA ?_ | refine pS ?_ | refine zC ?_ | fail))
   rename_i A B C
   (conv => whnf); (refine Nxt.of ((2, Value.slice A B C, acc ++ l)) [10, 12, 38, 39, 40, 41, 42, 43, 44, 45, 46, 47] Qr Qr Qr ?_ ?_ Qy ?_ <;> (try dsimp only) <;> (try omega))
   ·refine ⟨by omega, by rw [List.length_append]; omega, step_nodup j4 hln fun x hx => (sing_kind ((hl x).1 hx)).1, fun x => ?_⟩
    rw [List.mem_append, j3, hl, fl_succ (k := 1) rfl]
   ·rw [List.map_append]
    exact Qs
  ·repeat' ((conv => whnf) <;> (first | (refine LK.callI mRest rfl rfl Ql (fun _ => .agg .nil) c2 ?_ <;> rintro _ _ ⟨rfl, l, rfl, hl, hll, hln⟩) | refine zM ?_ | refine zW ?_ | intro _ | exact zF | refine Fin.pure ?_ | refine Br.tt ?_ | refine Br.ff ?_ | (refine Br.mk (fun h => ?_) (fun h => ?_) <;> (try simp only [sh] at h) <;> try first | (exfalso; omega) | exact absurd trivial h | (simp at h; done)) | refine zA ?_ | refine zN ?_ | refine zO ?_ | refine zP ?_ | refine zB ?_ | refine lB ?_ | refine lBA ?_ | refine zK ?_ | refine s1 ?_ | refine sA ?_ | refine pS ?_ | refine zC ?_ | fail))
   rename_i A B C
   (conv => whnf); (refine Nxt.of ((3, Value.slice A B C, acc ++ l)) [10, 12, 38, 39, 40, 41, 42, 43, 44, 45, 46, 47] Qr Qr Qr ?_ ?_ Qy ?_ <;> (try dsimp only) <;> (try omega))
   ·refine ⟨by omega, by rw [List.length_append]; omega, step_nodup j4 hln fun x hx => ((restL_nodup hm.n).2 x ((hl x).1 hx)).1, fun x => ?_⟩
    rw [List.mem_append, j3, hl, fl_succ (k := 2) rfl]
   ·rw [List.map_append]
    exact Qs
  ·repeat' ((conv => whnf) <;> (first | (refine LK.callI mWeek rfl rfl Ql (fun _ => .agg .nil) c3 ?_ <;> rintro _ _ ⟨rfl, l, rfl, hl, hll, hln⟩) | refine zM ?_ | refine zW ?_ | intro _ | exact zF | refine Fin.pure ?_ | refine Br.tt ?_ | refine Br.ff ?_ | (refine Br.mk (fun h => ?_) (fun h => ?_) <;> (try simp only [sh] at h) <;> try first | (exfalso; omega) | exact absurd trivial h | (simp at h; done)) | refine zA ?_ | refine zN ?_ | refine zO ?_ | refine zP ?_ | refine zB ?_ | refine lB ?_ | refine lBA ?_ | refine zK ?_ | refine s1 ?_ | refine sA ?_ | refine pS ?_ | refine zC ?_ | fail))
   rename_i A B C
   (conv => whnf); (refine Nxt.of ((4, Value.slice A B C, acc ++ l)) [10, 12, 38, 39, 40, 41, 42, 43, 44, 45, 46, 47] Qr Qr Qr ?_ ?_ Qy ?_ <;> (try dsimp only) <;> (try omega))
   ·refine ⟨by omega, by rw [List.length_append]; omega, step_nodup j4 hln fun x hx => (weekL_kind ((hl x).1 hx)).1, fun x => ?_⟩
    rw [List.mem_append, j3, hl, fl_succ (k := 3) rfl]
   ·rw [List.map_append]
    exact Qs
  ·repeat' ((conv => whnf) <;> (first | (refine LK.callI mNight rfl rfl Ql (fun _ => .agg .nil) c4 ?_ <;> rintro _ _ ⟨rfl, l, rfl, hl, hll, hln⟩) | refine zM ?_ | refine zW ?_ | intro _ | exact zF | refine Fin.pure ?_ | refine Br.tt ?_ | refine Br.ff ?_ | (refine Br.mk (fun h => ?_) (fun h => ?_) <;> (try simp only [sh] at h) <;> try first | (exfalso; omega) | exact absurd trivial h | (simp at h; done)) | refine zA ?_ | refine zN ?_ | refine zO ?_ | refine zP ?_ | refine zB ?_ | refine lB ?_ | refine lBA ?_ | refine zK ?_ | refine s1 ?_ | refine sA ?_ | refine pS ?_ | refine zC ?_ | fail))
   rename_i A B C
   (conv => whnf); (refine Nxt.of ((5, Value.slice A B C, acc ++ l)) [10, 12, 38, 39, 40, 41, 42, 43, 44, 45, 46, 47] Qr Qr Qr ?_ ?_ Qy ?_ <;> (try dsimp only) <;> (try omega))
   ·refine ⟨by omega, by rw [List.length_append]; omega, step_nodup j4 hln fun x hx => (sing_kind (ite_mem ((hl x).1 hx))).1, fun x => ?_⟩
    rw [List.mem_append, j3, hl, fl_succ (k := 4) rfl]
   ·rw [List.map_append]
    exact Qs
  ·repeat' ((conv => whnf) <;> (first | (refine LK.callI mMinor rfl rfl Ql (fun _ => .agg .nil) c5 ?_ <;> rintro _ _ ⟨rfl, l, rfl, hl, hll, hln⟩) | refine zM ?_ | refine zW ?_ | intro _ | exact zF | refine Fin.pure ?_ | refine Br.tt ?_ | refine Br.ff ?_ | (refine Br.mk (fun h => ?_) (fun h => ?_) <;> (try simp only [sh] at h) <;> try first | (exfalso; omega) | exact absurd trivial h | (simp at h; done)) | refine zA ?_ | refine zN ?_ | refine zO ?_ | refine zP ?_ | refine zB ?_ | refine lB ?_ | refine lBA ?_ | refine zK ?_ | refine s1 ?_ | refine sA ?_ | refine pS ?_ | refine zC ?_ | fail))
   rename_i A B C
   (conv => whnf); (refine Nxt.of ((6, Value.slice A B C, acc ++ l)) [10, 12, 38, 39, 40, 41, 42, 43, 44, 45, 46, 47] Qr Qr Qr ?_ ?_ Qy ?_ <;> (try dsimp only) <;> (try omega))
   ·refine ⟨by omega, by rw [List.length_append]; omega, step_nodup j4 hln fun x hx => (minL_kind (ite_mem ((hl x).1 hx))).1, fun x => ?_⟩
    rw [List.mem_append, j3, hl, fl_succ (k := 5) rfl]
   ·rw [List.map_append]
    exact Qs
  ·repeat' ((conv => whnf) <;> (first | refine zM ?_ | refine zW ?_ | intro _ | exact zF | refine Br.tt ?_ | refine Br.ff ?_ | (refine Br.mk (fun h => ?_) (fun h => ?_) <;> (try simp only [sh] at h) <;> try first | (exfalso; omega) | exact absurd trivial h | (simp at h; done)) | refine zA ?_ | refine zN ?_ | refine zO ?_ | refine zP ?_ | refine zB ?_ | refine lB ?_ | refine lBA ?_ | refine zK ?_ | refine s1 ?_ | refine sA ?_ | refine zC ?_ | fail))
   conv => whnf
   refine Fin.frzR 0 rfl ?_
   refine Fin.see (Sb.row 0 rfl) ?_
   refine .out [] (List.nil_sublist _) ⟨rfl, _, rfl, fun x => ?_, ?_, j4.1⟩
   ·rw [j3, ← parts_all]
    rfl
   ·omega
theorem oWorker_ok (p : Pl) (ro : List Int) (w : Nat) (hv : validP p = true) (hs : Small p) (hr : isRo p ro = true) (hw : w < p.workers.length) : FnE Tryz.prog 38 [.fp (ccs p) 0, .sl 1 (ro.map I), I w] fun r E => E = [] ∧ ∃ l : List Vi, r = .sl 4 (l.map viav) ∧ (∀ v, v ∈ l ↔ v ∈ violW p w (mineR ro w)) ∧ l.length ≤ 6000000 ∧ l.Nodup :=
 oWorker_pre p ro w hv hs (Nat.le_of_eq (isRo_iff.1 hr).1) hw
end Go.Proofs.YtjfnkmlnbaianaaGreat
