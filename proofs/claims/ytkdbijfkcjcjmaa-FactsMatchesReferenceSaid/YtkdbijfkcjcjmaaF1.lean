/-
  Walks: facts.isName, wellFormed, Valid, Lookup, Value.
  Conditions: those of each theorem.
-/
import Derived.Test.YtkdbijfkcjcjmaaTab
import Derived.Test.YtkdbijfkcjcjmaaF12A
namespace Go.Proofs.Ytkdbijfkcjcjmaa
open Go.E2 Go.Wage
def fcav (f : Fa) : AV := .agg [.v (.string f.person), .v (.string f.name), I f.frm, I f.to_, I f.known, I f.value, B f.gone]
def stav (fs : List Fa) : AV := .agg [.sl 7 (fs.map fcav)]
theorem str_nil (s : ByteArray) : s = ⟨#[]⟩ ↔ s.size = 0 := by
  obtain ⟨d⟩ := s
  simp [ByteArray.size]
theorem chB_iff (c : UInt8) : chB c = true ↔ (97 ≤ c.toNat ∧ c.toNat ≤ 122) ∨ (48 ≤ c.toNat ∧ c.toNat ≤ 57) ∨ c.toNat = 95 := by
  unfold chB lowB
  simp only [Bool.or_eq_true, Bool.and_eq_true, decide_eq_true_eq, or_assoc]
theorem str_len (s : ByteArray) : s.data.toList.length = s.size := by rw [Array.length_toList]; rfl
theorem all_take {α : Type} [Inhabited α] {p : α → Bool} {l : List α} {k : Nat} {d : α} (h : (l.take k).all p = true) (hk : k < l.length) (hp : p (l.getD k d) = true) : (l.take (k + 1)).all p = true := by
  rw [List.take_succ_eq_append_getElem hk]
  simp only [List.all_append, h, List.all_cons, List.all_nil, Bool.and_true, Bool.true_and]
  simpa [List.getD, hk] using hp
theorem all_not {α : Type} {p : α → Bool} {l : List α} {k : Nat} {d : α} (hk : k < l.length) (hp : p (l.getD k d) = false) : l.all p = false := by
  rw [List.all_eq_false]
  exact ⟨l[k], List.getElem_mem hk, by simpa [List.getD, hk] using hp⟩
theorem isName_ok (s : ByteArray) (hs : s.size ≤ 9223372036854775807) : FnA Try.prog 41 [.v (.string s)] (B (nameB s)) := by
  have he := str_nil s
  have hl := str_len s
  refine fn_run (T := tab) Try.func41 rfl Try.ntmps41 rfl Try.results41 (fun _ => ?_)
  repeat' ((conv => whnf) <;> (first | refine Ask.idxT (T := tab) rfl rfl rfl (fun h => by simp only [sh, he] at h; omega) ?_ | refine Must.mk (fun h => h) ?_ | refine Must.mk (fun _ => rfl) ?_ | refine Must.mk Qw ?_ | intro _ | exact Fin.pure rfl | refine Fin.pure ?_ | refine Br.tt ?_ | refine Br.ff ?_ | (refine Br.mk (fun h => ?_) (fun h => ?_) <;> (try simp only [sh] at h) <;> (try first | (exfalso; omega) | exact absurd trivial h | (exfalso; simp at h; done))) | refine Ix.at ‹_› Qw ?_ | refine Ix.mapN Qw ?_ | refine Ix.mapN1 Qw ?_ | refine Ix.map Qw ?_ | refine Ix.at Qi Qw ?_ | refine Quo.nn Qw ?_ | refine Quo.t Qw ?_ | refine Rem.nn Qw ?_ | refine Rem.t Qw ?_ | refine Ask.idxT (T := tab) rfl rfl rfl Qw ?_ | refine LK.askW rfl ?_ | refine CK.any false Qk ?_ | fail))
  · refine congrArg B ?_
    simp only [he] at h
    simp only [Int.toNat_zero] at h
    symm
    rw [nameB, lowB]
    simp only [Bool.and_eq_false_iff, decide_eq_false_iff_not]
    omega
  have h0 := h
  (conv => whnf); refine CK.loop [2, 3, 4, 24, 25, 26, 27, 28, 29, 30, 31, 32, 33, 34, 35, 36, 37, 38, 39, 40, 41, 42, 43, 44, 45, 46, 47, 48] (σ := Nat) (fun k => k ≤ s.size ∧ (s.data.toList.take k).all chB = true) (fun k => [(24, I k)]) (fun _ => []) (fun k => s.size - k) 0 ⟨Nat.zero_le _, rfl⟩ Qy (List.nil_sublist _) ?_
  conv => whnf
  rintro k ⟨i1, i2⟩
  simp only [he, Int.toNat_zero] at h0
  repeat' ((conv => whnf) <;> (first | (refine Nxt.of (k + 1) [2, 3, 4, 24, 25, 26, 27, 28, 29, 30, 31, 32, 33, 34, 35, 36, 37, 38, 39, 40, 41, 42, 43, 44, 45, 46, 47, 48] Qr Qr Qr ?_ ?_ Qy Qs <;> (try dsimp only) <;> (try omega)) | refine Must.mk (fun h => h) ?_ | refine Must.mk (fun _ => rfl) ?_ | refine Must.mk Qw ?_ | intro _ | exact Fin.pure rfl | refine Fin.pure ?_ | refine Br.tt ?_ | refine Br.ff ?_ | (refine Br.mk (fun h => ?_) (fun h => ?_) <;> (try simp only [sh] at h) <;> (try first | (exfalso; omega) | exact absurd trivial h | (exfalso; simp at h; done))) | refine Ix.at ‹_› Qw ?_ | refine Ix.mapN Qw ?_ | refine Ix.mapN1 Qw ?_ | refine Ix.map Qw ?_ | refine Ix.at Qi Qw ?_ | refine Quo.nn Qw ?_ | refine Quo.t Qw ?_ | refine Rem.nn Qw ?_ | refine Rem.t Qw ?_ | refine Ask.idxT (T := tab) rfl rfl rfl Qw ?_ | refine LK.askW rfl ?_ | refine CK.any false Qk ?_ | fail))
  · refine congrArg B ?_
    have hc := chB_iff (s.data.toList.getD k 0)
    rw [nameB, all_not (k := k) (d := 0) (by omega) (by rw [← Bool.not_eq_true, hc]; omega), Bool.and_false]
  · refine ⟨by omega, all_take (d := 0) i2 (by omega) ?_⟩
    rw [chB_iff]
    omega
  · refine congrArg B ?_
    have e : s.data.toList.take k = s.data.toList := List.take_of_length_le (by omega)
    rw [e] at i2
    rw [nameB, lowB, i2]
    simp only [Bool.and_true]
    symm
    simp only [Bool.and_eq_true, decide_eq_true_eq]
    omega
theorem well_ok (f : Fa) (hp : f.person.size ≤ 9223372036854775807) (hn : f.name.size ≤ 9223372036854775807) : FnA Try.prog 30 [fcav f] (B (wellB f)) := by
  have c1 := isName_ok f.person hp
  have c2 := isName_ok f.name hn
  refine fn_run (T := tab) Try.func30 rfl Try.ntmps30 rfl Try.results30 (fun _ => ?_)
  repeat' ((conv => whnf) <;> (first | refine Must.mk (fun h => h) ?_ | refine Must.mk (fun _ => rfl) ?_ | refine Must.mk Qw ?_ | intro _ | exact Fin.pure rfl | refine Fin.pure ?_ | refine Br.tt ?_ | refine Br.ff ?_ | (refine Br.mk (fun h => ?_) (fun h => ?_) <;> (try simp only [sh] at h) <;> (try first | (exfalso; omega) | exact absurd trivial h | (exfalso; simp at h; done))) | refine Ix.at ‹_› Qw ?_ | refine Ix.mapN Qw ?_ | refine Ix.mapN1 Qw ?_ | refine Ix.map Qw ?_ | refine Ix.at Qi Qw ?_ | refine Quo.nn Qw ?_ | refine Quo.t Qw ?_ | refine Rem.nn Qw ?_ | refine Rem.t Qw ?_ | refine LK.callA ent41 (c1) rfl rfl (SbL.refl _) ?_ | refine Ask.callA ent41 (fun h => c1) rfl rfl (SbL.refl _) ?_ | refine LK.callA ent41 (c1) rfl rfl Ql ?_ | refine Ask.callA ent41 (fun h => c1) rfl rfl Ql ?_ | refine LK.callA ent41 (c2) rfl rfl (SbL.refl _) ?_ | refine Ask.callA ent41 (fun h => c2) rfl rfl (SbL.refl _) ?_ | refine LK.callA ent41 (c2) rfl rfl Ql ?_ | refine Ask.callA ent41 (fun h => c2) rfl rfl Ql ?_ | refine Ask.ldB (T := tab) 0 rfl rfl rfl rfl ?_ | refine Ask.ldB (T := tab) 1 rfl rfl rfl rfl ?_ | refine Ask.ldB (T := tab) 2 rfl rfl rfl rfl ?_ | refine Ask.ldBA (T := tab) 0 rfl rfl rfl rfl ?_ | refine Ask.ldBA (T := tab) 1 rfl rfl rfl rfl ?_ | refine Ask.ldBA (T := tab) 2 rfl rfl rfl rfl ?_ | refine AskR.cellA (T := tab) 0 rfl rfl rfl rfl ?_ | refine AskR.cellA (T := tab) 1 rfl rfl rfl rfl ?_ | refine AskR.cellA (T := tab) 2 rfl rfl rfl rfl ?_ | refine AskR.cell1 (T := tab) 0 rfl rfl rfl rfl ?_ | refine AskR.cell1 (T := tab) 1 rfl rfl rfl rfl ?_ | refine AskR.cell1 (T := tab) 2 rfl rfl rfl rfl ?_ | refine LK.askW rfl ?_ | refine LK.st1 0 rfl rfl rfl rfl rfl rfl rfl ?_ | refine LK.st1 1 rfl rfl rfl rfl rfl rfl rfl ?_ | refine LK.st1 2 rfl rfl rfl rfl rfl rfl rfl ?_ | refine LK.stA 0 rfl rfl rfl rfl rfl rfl rfl rfl ?_ | refine LK.stA 1 rfl rfl rfl rfl rfl rfl rfl rfl ?_ | refine LK.stA 2 rfl rfl rfl rfl rfl rfl rfl rfl ?_ | refine CK.any false Qk ?_ | fail))
  all_goals (refine congrArg B ?_; grind [wellB])
theorem valid_ok (fs : List Fa) (hsz : ∀ f ∈ fs, f.person.size ≤ 9223372036854775807 ∧ f.name.size ≤ 9223372036854775807) (hlen : fs.length ≤ 9223372036854775807) : FnA Try.prog 16 [stav fs] (B (validF fs)) := by
  have hl : (fs.map fcav).length = fs.length := by simp
  refine fn_run (T := tab) Try.func16 rfl Try.ntmps16 rfl Try.results16 (fun _ => ?_)
  repeat' ((conv => whnf) <;> (first | refine Must.mk (fun h => h) ?_ | refine Must.mk (fun _ => rfl) ?_ | refine Must.mk Qw ?_ | intro _ | exact Fin.pure rfl | refine Fin.pure ?_ | refine Br.tt ?_ | refine Br.ff ?_ | (refine Br.mk (fun h => ?_) (fun h => ?_) <;> (try simp only [sh] at h) <;> (try first | (exfalso; omega) | exact absurd trivial h | (exfalso; simp at h; done))) | refine Ix.at ‹_› Qw ?_ | refine Ix.mapN Qw ?_ | refine Ix.mapN1 Qw ?_ | refine Ix.map Qw ?_ | refine Ix.at Qi Qw ?_ | refine Quo.nn Qw ?_ | refine Quo.t Qw ?_ | refine Rem.nn Qw ?_ | refine Rem.t Qw ?_ | refine Ask.ldB (T := tab) 0 rfl rfl rfl rfl ?_ | refine Ask.ldB (T := tab) 1 rfl rfl rfl rfl ?_ | refine Ask.ldB (T := tab) 2 rfl rfl rfl rfl ?_ | refine Ask.ldBA (T := tab) 0 rfl rfl rfl rfl ?_ | refine Ask.ldBA (T := tab) 1 rfl rfl rfl rfl ?_ | refine Ask.ldBA (T := tab) 2 rfl rfl rfl rfl ?_ | refine AskR.cellA (T := tab) 0 rfl rfl rfl rfl ?_ | refine AskR.cellA (T := tab) 1 rfl rfl rfl rfl ?_ | refine AskR.cellA (T := tab) 2 rfl rfl rfl rfl ?_ | refine AskR.cell1 (T := tab) 0 rfl rfl rfl rfl ?_ | refine AskR.cell1 (T := tab) 1 rfl rfl rfl rfl ?_ | refine AskR.cell1 (T := tab) 2 rfl rfl rfl rfl ?_ | refine LK.askW rfl ?_ | refine LK.st1 0 rfl rfl rfl rfl rfl rfl rfl ?_ | refine LK.st1 1 rfl rfl rfl rfl rfl rfl rfl ?_ | refine LK.st1 2 rfl rfl rfl rfl rfl rfl rfl ?_ | refine LK.stA 0 rfl rfl rfl rfl rfl rfl rfl rfl ?_ | refine LK.stA 1 rfl rfl rfl rfl rfl rfl rfl rfl ?_ | refine LK.stA 2 rfl rfl rfl rfl rfl rfl rfl rfl ?_ | refine CK.any false Qk ?_ | fail))
  · refine congrArg B ?_
    rw [validF, decide_eq_false (by omega), Bool.false_and]
  have h0 := h
  (conv => whnf); refine CK.loop [2, 3, 4, 12, 13, 14, 15, 16, 17, 18, 19, 20, 21, 22, 23, 24, 25, 26, 27, 28, 29, 30, 31, 32, 33, 34, 35, 36] (σ := Nat) (fun k => k ≤ fs.length ∧ (List.range k).all (okF fs) = true) (fun k => [(12, I k)]) (fun _ => _) (fun k => fs.length - k) 0 ⟨Nat.zero_le _, rfl⟩ Qy (List.Sublist.refl _) ?_
  conv => whnf
  rintro k ⟨i1, i2⟩
  by_cases hk : k < fs.length
  · have hm : fs.getD k default ∈ fs := by simp [List.getD, hk]
    have c1 := well_ok (fs.getD k default) (hsz _ hm).1 (hsz _ hm).2
    repeat' ((conv => whnf) <;> (first | (refine Nxt.of (k + 1) [2, 3, 4, 12, 13, 14, 15, 16, 17, 18, 19, 20, 21, 22, 23, 24, 25, 26, 27, 28, 29, 30, 31, 32, 33, 34, 35, 36] Qr Qr Qr ?_ ?_ Qy Qs <;> (try dsimp only) <;> (try omega)) | refine Must.mk (fun h => h) ?_ | refine Must.mk (fun _ => rfl) ?_ | refine Must.mk Qw ?_ | intro _ | exact Fin.pure rfl | refine Fin.pure ?_ | refine Br.tt ?_ | refine Br.ff ?_ | (refine Br.mk (fun h => ?_) (fun h => ?_) <;> (try simp only [sh] at h) <;> (try first | (exfalso; omega) | exact absurd trivial h | (exfalso; simp at h; done))) | refine Ix.at ‹_› Qw ?_ | refine Ix.mapN Qw ?_ | refine Ix.mapN1 Qw ?_ | refine Ix.map Qw ?_ | refine Ix.at Qi Qw ?_ | refine Quo.nn Qw ?_ | refine Quo.t Qw ?_ | refine Rem.nn Qw ?_ | refine Rem.t Qw ?_ | refine LK.callA ent30 (c1) rfl rfl (SbL.refl _) ?_ | refine Ask.callA ent30 (fun h => c1) rfl rfl (SbL.refl _) ?_ | refine LK.callA ent30 (c1) rfl rfl Ql ?_ | refine Ask.callA ent30 (fun h => c1) rfl rfl Ql ?_ | refine Ask.ldB (T := tab) 0 rfl rfl rfl rfl ?_ | refine Ask.ldB (T := tab) 1 rfl rfl rfl rfl ?_ | refine Ask.ldB (T := tab) 2 rfl rfl rfl rfl ?_ | refine Ask.ldB (T := tab) 3 rfl rfl rfl rfl ?_ | refine Ask.ldBA (T := tab) 0 rfl rfl rfl rfl ?_ | refine Ask.ldBA (T := tab) 1 rfl rfl rfl rfl ?_ | refine Ask.ldBA (T := tab) 2 rfl rfl rfl rfl ?_ | refine Ask.ldBA (T := tab) 3 rfl rfl rfl rfl ?_ | refine AskR.cellA (T := tab) 0 rfl rfl rfl rfl ?_ | refine AskR.cellA (T := tab) 1 rfl rfl rfl rfl ?_ | refine AskR.cellA (T := tab) 2 rfl rfl rfl rfl ?_ | refine AskR.cellA (T := tab) 3 rfl rfl rfl rfl ?_ | refine AskR.cell1 (T := tab) 0 rfl rfl rfl rfl ?_ | refine AskR.cell1 (T := tab) 1 rfl rfl rfl rfl ?_ | refine AskR.cell1 (T := tab) 2 rfl rfl rfl rfl ?_ | refine AskR.cell1 (T := tab) 3 rfl rfl rfl rfl ?_ | refine LK.askW rfl ?_ | refine LK.st1 0 rfl rfl rfl rfl rfl rfl rfl ?_ | refine LK.st1 1 rfl rfl rfl rfl rfl rfl rfl ?_ | refine LK.st1 2 rfl rfl rfl rfl rfl rfl rfl ?_ | refine LK.st1 3 rfl rfl rfl rfl rfl rfl rfl ?_ | refine LK.stA 0 rfl rfl rfl rfl rfl rfl rfl rfl ?_ | refine LK.stA 1 rfl rfl rfl rfl rfl rfl rfl rfl ?_ | refine LK.stA 2 rfl rfl rfl rfl rfl rfl rfl rfl ?_ | refine LK.stA 3 rfl rfl rfl rfl rfl rfl rfl rfl ?_ | refine CK.any false Qk ?_ | fail))
    · refine congrArg B ?_
      symm
      rw [validF, all_not (k := k) (d := 0) (by simpa using hk) ?_, Bool.and_false]
      rw [List.getD, List.getElem?_range hk]
      simp only [Option.getD_some, okF]
      grind
    · refine ⟨by omega, ?_⟩
      rw [List.range_succ, List.all_append, i2]
      simp only [List.all_cons, List.all_nil, Bool.and_true, Bool.true_and, okF]
      grind
  · repeat' ((conv => whnf) <;> (first | refine Must.mk (fun h => h) ?_ | refine Must.mk (fun _ => rfl) ?_ | refine Must.mk Qw ?_ | intro _ | exact Fin.pure rfl | refine Fin.pure ?_ | refine Br.tt ?_ | refine Br.ff ?_ | (refine Br.mk (fun h => ?_) (fun h => ?_) <;> (try simp only [sh] at h) <;> (try first | (exfalso; omega) | exact absurd trivial h | (exfalso; simp at h; done))) | refine Ix.at ‹_› Qw ?_ | refine Ix.mapN Qw ?_ | refine Ix.mapN1 Qw ?_ | refine Ix.map Qw ?_ | refine Ix.at Qi Qw ?_ | refine Quo.nn Qw ?_ | refine Quo.t Qw ?_ | refine Rem.nn Qw ?_ | refine Rem.t Qw ?_ | refine Ask.ldB (T := tab) 0 rfl rfl rfl rfl ?_ | refine Ask.ldB (T := tab) 1 rfl rfl rfl rfl ?_ | refine Ask.ldB (T := tab) 2 rfl rfl rfl rfl ?_ | refine Ask.ldBA (T := tab) 0 rfl rfl rfl rfl ?_ | refine Ask.ldBA (T := tab) 1 rfl rfl rfl rfl ?_ | refine Ask.ldBA (T := tab) 2 rfl rfl rfl rfl ?_ | refine AskR.cellA (T := tab) 0 rfl rfl rfl rfl ?_ | refine AskR.cellA (T := tab) 1 rfl rfl rfl rfl ?_ | refine AskR.cellA (T := tab) 2 rfl rfl rfl rfl ?_ | refine AskR.cell1 (T := tab) 0 rfl rfl rfl rfl ?_ | refine AskR.cell1 (T := tab) 1 rfl rfl rfl rfl ?_ | refine AskR.cell1 (T := tab) 2 rfl rfl rfl rfl ?_ | refine LK.askW rfl ?_ | refine LK.st1 0 rfl rfl rfl rfl rfl rfl rfl ?_ | refine LK.st1 1 rfl rfl rfl rfl rfl rfl rfl ?_ | refine LK.st1 2 rfl rfl rfl rfl rfl rfl rfl ?_ | refine LK.stA 0 rfl rfl rfl rfl rfl rfl rfl rfl ?_ | refine LK.stA 1 rfl rfl rfl rfl rfl rfl rfl rfl ?_ | refine LK.stA 2 rfl rfl rfl rfl rfl rfl rfl rfl ?_ | refine CK.any false Qk ?_ | fail))
    refine congrArg B ?_
    have e : k = fs.length := by omega
    rw [e] at i2
    rw [validF, i2, decide_eq_true (by omega), Bool.and_self]
theorem lookup_ok (fs : List Fa) (p n : ByteArray) (d t : Int) (hlen : fs.length ≤ 9223372036854775807) : FnA Try.prog 33 [stav fs, .v (.string p), .v (.string n), I d, I t] (.tup [I (lookR fs p n d t).1, I (lookR fs p n d t).2.1, B (lookR fs p n d t).2.2]) := by
  have hl : (fs.map fcav).length = fs.length := by simp
  refine fn_run (T := tab) Try.func33 rfl Try.ntmps33 rfl Try.results33 (fun _ => ?_)
  repeat' ((conv => whnf) <;> (first | refine Must.mk (fun h => h) ?_ | refine Must.mk (fun _ => rfl) ?_ | refine Must.mk Qw ?_ | intro _ | exact Fin.pure rfl | refine Fin.pure ?_ | refine Br.tt ?_ | refine Br.ff ?_ | (refine Br.mk (fun h => ?_) (fun h => ?_) <;> (try simp only [sh] at h) <;> (try first | (exfalso; omega) | exact absurd trivial h | (exfalso; simp at h; done))) | refine Ix.at ‹_› Qw ?_ | refine Ix.mapN Qw ?_ | refine Ix.mapN1 Qw ?_ | refine Ix.map Qw ?_ | refine Ix.at Qi Qw ?_ | refine Quo.nn Qw ?_ | refine Quo.t Qw ?_ | refine Rem.nn Qw ?_ | refine Rem.t Qw ?_ | refine Ask.ldB (T := tab) 0 rfl rfl rfl rfl ?_ | refine Ask.ldB (T := tab) 1 rfl rfl rfl rfl ?_ | refine Ask.ldB (T := tab) 2 rfl rfl rfl rfl ?_ | refine Ask.ldBA (T := tab) 0 rfl rfl rfl rfl ?_ | refine Ask.ldBA (T := tab) 1 rfl rfl rfl rfl ?_ | refine Ask.ldBA (T := tab) 2 rfl rfl rfl rfl ?_ | refine AskR.cellA (T := tab) 0 rfl rfl rfl rfl ?_ | refine AskR.cellA (T := tab) 1 rfl rfl rfl rfl ?_ | refine AskR.cellA (T := tab) 2 rfl rfl rfl rfl ?_ | refine AskR.cell1 (T := tab) 0 rfl rfl rfl rfl ?_ | refine AskR.cell1 (T := tab) 1 rfl rfl rfl rfl ?_ | refine AskR.cell1 (T := tab) 2 rfl rfl rfl rfl ?_ | refine LK.askW rfl ?_ | refine LK.st1 0 rfl rfl rfl rfl rfl rfl rfl ?_ | refine LK.st1 1 rfl rfl rfl rfl rfl rfl rfl ?_ | refine LK.st1 2 rfl rfl rfl rfl rfl rfl rfl ?_ | refine LK.stA 0 rfl rfl rfl rfl rfl rfl rfl rfl ?_ | refine LK.stA 1 rfl rfl rfl rfl rfl rfl rfl rfl ?_ | refine LK.stA 2 rfl rfl rfl rfl rfl rfl rfl rfl ?_ | refine CK.any false Qk ?_ | fail))
  (conv => whnf); refine CK.loop [10, 11, 12, 13, 14, 19, 20, 21, 22, 23, 24, 25, 26, 27, 28, 29, 30, 31, 32, 33, 34, 35, 36, 37, 38, 39, 40, 41, 42, 43, 44, 45, 46, 47, 48, 49, 50, 51, 52, 53, 54, 55, 56, 57, 58, 59, 60, 61, 62, 63, 64, 65, 66, 67, 68, 69, 70, 71, 72, 73] (σ := Int) (fun i => -1 ≤ i ∧ i < fs.length ∧ ∀ j : Nat, i < j → j < fs.length → hitB p n d t (fs.getD j default) = false) (fun i => [(13, I i)]) (fun _ => _) (fun i => (i + 1).toNat) (((fs.map fcav).length : Int) - 1) ⟨by omega, by omega, fun j h1 h2 => by omega⟩ Qy (List.Sublist.refl _) ?_
  conv => whnf
  rintro i ⟨i0, i1, i2⟩
  repeat' ((conv => whnf) <;> (first | (refine Nxt.of (i - 1) [10, 11, 12, 13, 14, 19, 20, 21, 22, 23, 24, 25, 26, 27, 28, 29, 30, 31, 32, 33, 34, 35, 36, 37, 38, 39, 40, 41, 42, 43, 44, 45, 46, 47, 48, 49, 50, 51, 52, 53, 54, 55, 56, 57, 58, 59, 60, 61, 62, 63, 64, 65, 66, 67, 68, 69, 70, 71, 72, 73] Qr Qr Qr ?_ ?_ Qy Qs <;> (try dsimp only) <;> (try omega)) | refine Must.mk (fun h => h) ?_ | refine Must.mk (fun _ => rfl) ?_ | refine Must.mk Qw ?_ | intro _ | exact Fin.pure rfl | refine Fin.pure ?_ | refine Br.tt ?_ | refine Br.ff ?_ | (refine Br.mk (fun h => ?_) (fun h => ?_) <;> (try simp only [sh] at h) <;> (try first | (exfalso; omega) | exact absurd trivial h | (exfalso; simp at h; done))) | refine Ix.at ‹_› Qw ?_ | refine Ix.mapN Qw ?_ | refine Ix.mapN1 Qw ?_ | refine Ix.map Qw ?_ | refine Ix.at Qi Qw ?_ | refine Quo.nn Qw ?_ | refine Quo.t Qw ?_ | refine Rem.nn Qw ?_ | refine Rem.t Qw ?_ | refine Ask.ldB (T := tab) 0 rfl rfl rfl rfl ?_ | refine Ask.ldB (T := tab) 1 rfl rfl rfl rfl ?_ | refine Ask.ldB (T := tab) 2 rfl rfl rfl rfl ?_ | refine Ask.ldBA (T := tab) 0 rfl rfl rfl rfl ?_ | refine Ask.ldBA (T := tab) 1 rfl rfl rfl rfl ?_ | refine Ask.ldBA (T := tab) 2 rfl rfl rfl rfl ?_ | refine AskR.cellA (T := tab) 0 rfl rfl rfl rfl ?_ | refine AskR.cellA (T := tab) 1 rfl rfl rfl rfl ?_ | refine AskR.cellA (T := tab) 2 rfl rfl rfl rfl ?_ | refine AskR.cell1 (T := tab) 0 rfl rfl rfl rfl ?_ | refine AskR.cell1 (T := tab) 1 rfl rfl rfl rfl ?_ | refine AskR.cell1 (T := tab) 2 rfl rfl rfl rfl ?_ | refine LK.askW rfl ?_ | refine LK.st1 0 rfl rfl rfl rfl rfl rfl rfl ?_ | refine LK.st1 1 rfl rfl rfl rfl rfl rfl rfl ?_ | refine LK.st1 2 rfl rfl rfl rfl rfl rfl rfl ?_ | refine LK.stA 0 rfl rfl rfl rfl rfl rfl rfl rfl ?_ | refine LK.stA 1 rfl rfl rfl rfl rfl rfl rfl rfl ?_ | refine LK.stA 2 rfl rfl rfl rfl rfl rfl rfl rfl ?_ | refine CK.any false Qk ?_ | fail))
  · refine ⟨by omega, by omega, fun j h1 h2 => ?_⟩
    by_cases e : (j : Int) = i
    · have : j = i.toNat := by omega
      subst this
      grind [hitB]
    · exact i2 j (by omega) h2
  · have e := lastH_some (p := hitB p n d t) (fs := fs) (i := 0) (j := i.toNat) (by omega) (by grind [hitB]) (fun k h1 h2 => i2 k (by omega) h2)
    rw [lookR, e, resR, if_pos (by assumption)]
  · have e := lastH_some (p := hitB p n d t) (fs := fs) (i := 0) (j := i.toNat) (by omega) (by grind [hitB]) (fun k h1 h2 => i2 k (by omega) h2)
    have e2 : ((0 + i.toNat : Nat) : Int) = i := by omega
    rw [lookR, e, resR, if_neg (by simp_all), e2]
  · have e := lastH_none (p := hitB p n d t) (fs := fs) (i := 0) (fun k h1 => i2 k (by omega) h1)
    rw [lookR, e, resR]
theorem value_ok (fs : List Fa) (p n : ByteArray) (d t : Int) (hsz : ∀ f ∈ fs, f.person.size ≤ 9223372036854775807 ∧ f.name.size ≤ 9223372036854775807) (hlen : fs.length ≤ 9223372036854775807) : FnA Try.prog 14 [stav fs, .v (.string p), .v (.string n), I d, I t] (.tup [I (valR fs p n d t).1, I (valR fs p n d t).2.1, B (valR fs p n d t).2.2]) := by
  have c1 := valid_ok fs hsz hlen
  have c2 := lookup_ok fs p n d t hlen
  refine fn_run (T := tab) Try.func14 rfl Try.ntmps14 rfl Try.results14 (fun _ => ?_)
  repeat' ((conv => whnf) <;> (first | refine Must.mk (fun h => h) ?_ | refine Must.mk (fun _ => rfl) ?_ | refine Must.mk Qw ?_ | intro _ | exact Fin.pure rfl | refine Fin.pure ?_ | refine Br.tt ?_ | refine Br.ff ?_ | (refine Br.mk (fun h => ?_) (fun h => ?_) <;> (try simp only [sh] at h) <;> (try first | (exfalso; omega) | exact absurd trivial h | (exfalso; simp at h; done))) | refine Ix.at ‹_› Qw ?_ | refine Ix.mapN Qw ?_ | refine Ix.mapN1 Qw ?_ | refine Ix.map Qw ?_ | refine Ix.at Qi Qw ?_ | refine Quo.nn Qw ?_ | refine Quo.t Qw ?_ | refine Rem.nn Qw ?_ | refine Rem.t Qw ?_ | refine LK.callA ent16 (c1) rfl rfl (SbL.refl _) ?_ | refine Ask.callA ent16 (fun h => c1) rfl rfl (SbL.refl _) ?_ | refine LK.callA ent16 (c1) rfl rfl Ql ?_ | refine Ask.callA ent16 (fun h => c1) rfl rfl Ql ?_ | refine LK.callA ent33 (c2) rfl rfl (SbL.refl _) ?_ | refine Ask.callA ent33 (fun h => c2) rfl rfl (SbL.refl _) ?_ | refine LK.callA ent33 (c2) rfl rfl Ql ?_ | refine Ask.callA ent33 (fun h => c2) rfl rfl Ql ?_ | refine Ask.ldB (T := tab) 0 rfl rfl rfl rfl ?_ | refine Ask.ldB (T := tab) 1 rfl rfl rfl rfl ?_ | refine Ask.ldB (T := tab) 2 rfl rfl rfl rfl ?_ | refine Ask.ldBA (T := tab) 0 rfl rfl rfl rfl ?_ | refine Ask.ldBA (T := tab) 1 rfl rfl rfl rfl ?_ | refine Ask.ldBA (T := tab) 2 rfl rfl rfl rfl ?_ | refine AskR.cellA (T := tab) 0 rfl rfl rfl rfl ?_ | refine AskR.cellA (T := tab) 1 rfl rfl rfl rfl ?_ | refine AskR.cellA (T := tab) 2 rfl rfl rfl rfl ?_ | refine AskR.cell1 (T := tab) 0 rfl rfl rfl rfl ?_ | refine AskR.cell1 (T := tab) 1 rfl rfl rfl rfl ?_ | refine AskR.cell1 (T := tab) 2 rfl rfl rfl rfl ?_ | refine LK.askW rfl ?_ | refine LK.st1 0 rfl rfl rfl rfl rfl rfl rfl ?_ | refine LK.st1 1 rfl rfl rfl rfl rfl rfl rfl ?_ | refine LK.st1 2 rfl rfl rfl rfl rfl rfl rfl ?_ | refine LK.stA 0 rfl rfl rfl rfl rfl rfl rfl rfl ?_ | refine LK.stA 1 rfl rfl rfl rfl rfl rfl rfl rfl ?_ | refine LK.stA 2 rfl rfl rfl rfl rfl rfl rfl rfl ?_ | refine CK.any false Qk ?_ | fail))
  · rw [valR, h]; rfl
  · rw [valR, h]; rfl
end Go.Proofs.Ytkdbijfkcjcjmaa
