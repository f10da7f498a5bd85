/-
  Plain facts about the duties of a worker: minutes, sums, members.
  Conditions: those of each theorem.
-/
import Derived.Test.YtjfnkmlnbaianaaGreatRO0
import Derived.Test.YtjfnkmlnbaianaaGreatZV
namespace Go.Proofs.YtjfnkmlnbaianaaGreat
open Go.E2 Go.Wage
def viav (v : Vi) : AV := .agg [I v.kind, I v.wk, I v.fst, I v.snd]
abbrev In (d : Nat) : AV := I (d : Int)
theorem prtZ_len (X : List (Sp × Int)) : ∀ (n : Nat) (lo : Int), (prtZ X lo n).length ≤ n
 | 0, _ => by simp [prtZ]
 | n + 1, lo => by
  have := prtZ_len X n (lo + 1)
  rw [prtZ, List.length_append]
  split <;> simp <;> omega
theorem mins_bd {p : Pl} (hv : validP p = true) {d : Nat} (h3 : dutyOk p (p.duties.getD d default) = true) : (minsD p (p.duties.getD d default)).length ≤ 4 ∧ ∀ q ∈ minsD p (p.duties.getD d default), 0 < q.2 ∧ q.2 ≤ 44640 * 65 ∧ 0 ≤ q.1 ∧ q.1 ≤ 36524 := by
 generalize p.duties.getD d default = e at *
 unfold dutyOk at h3
 rw [Bool.and_eq_true_iff] at h3
 have h5 := duB_bd h3.1
 obtain ⟨q1, q2, q3⟩ := z_pre (validP_iff.1 hv).1 e.frm e.to_
 refine ⟨?_, fun q hq => ?_⟩
 ·unfold minsD splitZ prt
  refine Nat.le_trans (prtZ_len _ _ _) ?_
  omega
 ·have h6 := List.all_eq_true.1 h3.2 q hq
  unfold okDay at h6
  simp only [decide_eq_true_eq] at h6
  have h7 := (prt_mem (X := strZ p.zone.base p.zone.chs e.frm e.to_) (a := e.frm) (b := e.to_) (fun s hs => by have := q3 s hs; omega) (by omega) (p := q)).1 hq
  have h8 := dyZ_bd q.1 (strZ p.zone.base p.zone.chs e.frm e.to_) fun s hs => by have := q3 s hs; omega
  omega
theorem trip_len {p : Pl} : ∀ {mine : List Nat}, (∀ d ∈ mine, (minsD p (p.duties.getD d default)).length ≤ 4) → (trip p mine).length ≤ 4 * mine.length
 | [], _ => by simp [trip]
 | d :: l, h => by
  have h1 := h d (by simp)
  have h2 := trip_len (p := p) (mine := l) fun e he => h e (by simp [he])
  have e : trip p (d :: l) = (minsD p (p.duties.getD d default)).map (fun q => (d, q.1, q.2)) ++ trip p l := by simp [trip]
  rw [e, List.length_append, List.length_map, List.length_cons]
  omega
theorem trip_mem {p : Pl} {mine : List Nat} {t : Nat × Int × Int} (h : t ∈ trip p mine) : t.1 ∈ mine ∧ (t.2.1, t.2.2) ∈ minsD p (p.duties.getD t.1 default) := by
 unfold trip at h
 obtain ⟨d, hd, h⟩ := List.mem_flatMap.1 h
 obtain ⟨q, hq, rfl⟩ := List.mem_map.1 h
 exact ⟨hd, hq⟩
structure TriOk (T : Tri) : Prop where
 pos : posT T
 len : T.length ≤ 4000
 day : ∀ x ∈ T.map (·.2.1), 0 ≤ x ∧ x ≤ 36524
theorem tri_of {p : Pl} {mine : List Nat} (hv : validP p = true) (hd : ∀ d ∈ mine, dutyOk p (p.duties.getD d default) = true) (hm : mine.length ≤ 1000) : TriOk (trip p mine) := by
 refine ⟨fun t ht => ?_, ?_, fun x hx => ?_⟩
 ·have := (mins_bd hv (hd _ (trip_mem ht).1)).2 _ (trip_mem ht).2
  exact ⟨this.1, this.2.1⟩
 ·have := trip_len (p := p) (mine := mine) fun d hd2 => (mins_bd hv (hd d hd2)).1
  omega
 ·obtain ⟨t, ht, rfl⟩ := List.mem_map.1 hx
  exact ((mins_bd hv (hd _ (trip_mem ht).1)).2 _ (trip_mem ht).2).2.2
theorem week_succ (T : Tri) (day : Int) (i : Nat) : ((List.range (i + 1)).map fun i : Nat => sumT T (day + i)).sum = ((List.range i).map fun i : Nat => sumT T (day + i)).sum + sumT T (day + i) := by
 rw [List.range_succ, List.map_append, List.sum_append]
 simp
theorem week_bd {T : Tri} (h : TriOk T) (day : Int) : ∀ i : Nat, 0 ≤ ((List.range i).map fun i : Nat => sumT T (day + i)).sum ∧ ((List.range i).map fun i : Nat => sumT T (day + i)).sum ≤ 11606400000 * i
 | 0 => by simp
 | i + 1 => by
  have h1 := week_bd h day i
  have h2 := sumT_bd (day + i) h.pos
  have h3 := h.len
  rw [week_succ]
  omega
theorem trip_snoc {p : Pl} {mine : List Nat} {k : Nat} (hk : k < mine.length) : trip p (mine.take (k + 1)) = trip p (mine.take k) ++ (minsD p (p.duties.getD (mine.getD k default) default)).map fun q => (mine.getD k default, q.1, q.2) := by
 unfold trip
 rw [List.take_succ_eq_append_getElem hk, List.flatMap_append]
 simp [List.getD, hk]
theorem Cnt.add {M : List (Int × Int)} {T : Tri} (h : Cnt M (sumT T)) (hp : posT T) (d : Nat) (x n : Int) (hn : 0 < n) : Cnt (ups x ((lk x M).getD 0 + n) M) (sumT (T ++ [(d, x, n)])) := by
 have h0 := fun y => (sumT_bd y hp).1
 have hg := h.get h0 x
 refine h.put (by have := h0 x; omega) fun y => ?_
 rw [sumT_app]
 have e : sumT [(d, x, n)] y = if x = y then n else 0 := by simp [sumT]
 rw [e]
 by_cases hy : y = x
 ·subst hy; rw [if_pos rfl, if_pos rfl, hg]
 ·rw [if_neg hy, if_neg fun e => hy e.symm, Int.add_zero]
theorem mineR_lt {ro : List Int} {w : Int} {d : Nat} (h : d ∈ mineR ro w) : d < ro.length := by
 unfold mineR at h
 rw [List.mem_filter, List.mem_range] at h
 exact h.1
theorem mineR_len (ro : List Int) (w : Int) : (mineR ro w).length ≤ ro.length := by
 unfold mineR
 refine Nat.le_trans (List.length_filter_le _ _) ?_
 simp
theorem mineR_nodup (ro : List Int) (w : Int) : (mineR ro w).Nodup := List.nodup_range.filter _
def mineK (ro : List Int) (w : Int) (k : Nat) : List Nat := (List.range k).filter fun i => decide (ro.getD i default = w)
theorem mineK_succ (ro : List Int) (w : Int) (k : Nat) : mineK ro w (k + 1) = mineK ro w k ++ if ro.getD k default = w then [k] else [] := by
 unfold mineK
 rw [List.range_succ, List.filter_append, List.filter_cons]
 by_cases h : ro.getD k default = w
 ·rw [if_pos h, if_pos (decide_eq_true h)]; rfl
 ·rw [if_neg h, if_neg (by simpa using h)]; rfl
theorem mineK_len (ro : List Int) (w : Int) (k : Nat) : (mineK ro w k).length ≤ k := by
 unfold mineK
 refine Nat.le_trans (List.length_filter_le _ _) ?_
 simp
end Go.Proofs.YtjfnkmlnbaianaaGreat
