/-
  Walks: law 19: DomainSoundness.
  Conditions: those of each theorem.
-/
import Derived.Test.YtjfnkmlnbaianaaGreatDQ
namespace Go.E2
section
variable {P : Program} {c : Ctx} {n : Cfg} {F : Fr} {L : List Ent} {t t' ty : TypeId} {x y : Operand} {a b : Int}
theorem wrap_natU {k : Nat} (h : (k : Int) ≤ 18446744073709551615) : IntKind.u64.wrap (k : Int) = (k : Int) := by
  simp [IntKind.wrap, IntKind.bits, IntKind.signed]
  omega
theorem bv_ofU {a : Int} (h : 0 ≤ a ∧ a ≤ 18446744073709551615) : (BitVec.ofInt 64 a).toNat = a.toNat := by
  rw [BitVec.toNat_ofInt]
  omega
theorem Gr.andU (hx : oget n F x = some (.v (.int .u64 a))) (hy : oget n F y = some (.v (.int .u64 b))) (ha : 0 ≤ a ∧ a ≤ 18446744073709551615) (hb : 0 ≤ b ∧ b ≤ 18446744073709551615) : Gr P c n (.binOp .and t x y t') ty F L (.v (.int .u64 ((a.toNat &&& b.toNat : Nat) : Int))) :=
  .pure fun H w ρ _ hr' d pos aft g => ⟨.int .u64 ((a.toNat &&& b.toNat : Nat) : Int), by
    have h1 : (a.toNat &&& b.toNat) ≤ a.toNat := Nat.and_le_left
    have e : ((BitVec.ofInt IntKind.u64.bits a) &&& (BitVec.ofInt IntKind.u64.bits b)).toNat = a.toNat &&& b.toNat := by
      rw [BitVec.toNat_and]
      show (BitVec.ofInt 64 a).toNat &&& (BitVec.ofInt 64 b).toNat = _
      rw [bv_ofU ha, bv_ofU hb]
    have e2 : IntKind.u64.wrap (((BitVec.ofInt IntKind.u64.bits a) &&& (BitVec.ofInt IntKind.u64.bits b)).toNat : Int) = ((a.toNat &&& b.toNat : Nat) : Int) := by
      rw [e]; exact wrap_natU (by omega)
    simp [execOp, hr'.v (by simp [Op.operands]) hx, hr'.v (by simp [Op.operands]) hy, eqGuard, binOp, Op.intBits]
    simpa using e2, .v _⟩
theorem Gr.shrU {s : Int} (hx : oget n F x = some (.v (.int .u64 a))) (hy : oget n F y = some (.v (.int .u64 s))) (hs : 0 ≤ s ∧ s ≤ 63) : Gr P c n (.binOp .shr t x y t') ty F L (.v (.int .u64 (a / 2 ^ s.toNat))) :=
  .pure fun H w ρ _ hr d pos aft g => ⟨_, by simp [execOp, hr.v (by simp [Op.operands]) hx, hr.v (by simp [Op.operands]) hy, eqGuard_shr, binOp_shr], .v _⟩
theorem and_low (k : Nat) : ∀ m, m < 2 ^ k → m &&& (2 ^ k - 1) = m := fun m h => by rw [Nat.and_two_pow_sub_one_eq_mod, Nat.mod_eq_of_lt h]
theorem Gr.and7 (hx : oget n F x = some (I a)) (hy : oget n F y = some (I 7)) (h : 0 ≤ a ∧ a ≤ 7) : Gr P c n (.binOp .and t x y t') ty F L (I a) :=
  (Gr.andI hx hy (by omega) (by omega)).ofEq (by
    have := and_low 3 a.toNat (by omega)
    congr 2
    show ((a.toNat &&& 7 : Nat) : Int) = a
    rw [show (7 : Nat) = 2 ^ 3 - 1 by rfl, this]
    omega)
theorem Gr.and63 (hx : oget n F x = some (.v (.int .u64 a))) (hy : oget n F y = some (.v (.int .u64 63))) (h : 0 ≤ a ∧ a ≤ 63) : Gr P c n (.binOp .and t x y t') ty F L (.v (.int .u64 a)) :=
  (Gr.andU hx hy (by omega) (by omega)).ofEq (by
    have := and_low 6 a.toNat (by omega)
    congr 2
    show ((a.toNat &&& 63 : Nat) : Int) = a
    rw [show (63 : Nat) = 2 ^ 6 - 1 by rfl, this]
    omega)
theorem Gr.and1 (hx : oget n F x = some (.v (.int .u64 a))) (hy : oget n F y = some (.v (.int .u64 1))) (h : 0 ≤ a ∧ a ≤ 18446744073709551615) : Gr P c n (.binOp .and t x y t') ty F L (.v (.int .u64 (a % 2))) :=
  (Gr.andU hx hy h (by omega)).ofEq (by
    congr 2
    show ((a.toNat &&& 1 : Nat) : Int) = a % 2
    rw [Nat.and_one_is_mod]
    omega)
end
end Go.E2
namespace Go.Proofs.YtjfnkmlnbaianaaGreat
open Go.E2 Go.Wage
def truB (bits : Int) (l : Lt) : Bool := decide (bits / 2 ^ (8 * l.du + l.wk).toNat % 2 = 1) == l.is
theorem truB_neg (bits : Int) (l : Lt) : truB bits (negL l) = !truB bits l := by
  unfold truB negL
  dsimp only
  cases decide (bits / 2 ^ (8 * l.du + l.wk).toNat % 2 = 1) <;> cases l.is <;> rfl
def lowL (l : Lt) : Prop := (0 ≤ l.du ∧ l.du ≤ 7) ∧ 0 ≤ l.wk ∧ l.wk ≤ 7
theorem ntruth_ok (l : Lt) (bits : Int) (hb : 0 ≤ bits ∧ bits ≤ 18446744073709551615) (hl : lowL l) : FnA Tryz.prog 19 [ltav l, .v (.int .u64 bits)] (B (truB bits l)) := by
  obtain ⟨h1, h2⟩ := hl
  have hq : 0 ≤ bits / 2 ^ (8 * l.du + l.wk).toNat ∧ bits / 2 ^ (8 * l.du + l.wk).toNat ≤ 18446744073709551615 := by
    have h3 : (0 : Int) ≤ 2 ^ (8 * l.du + l.wk).toNat := Int.pow_nonneg (by decide)
    exact ⟨Int.ediv_nonneg hb.1 h3, Int.le_trans (Int.ediv_le_self _ hb.1) hb.2⟩
  have hwr : IntKind.u64.wrap (8 * l.du + l.wk) = 8 * l.du + l.wk := by
    simp [IntKind.wrap, IntKind.bits, IntKind.signed]
    omega
  refine fn_run (T := tab) Tryz.func19 rfl Tryz.ntmps19 rfl Tryz.results19 (fun _ => ?_)
  repeat' ((conv => whnf) <;> (first | refine Ask.of (Gr.and1 (a := bits / 2 ^ (8 * l.du + l.wk).toNat) rfl rfl hq) ?_ | refine Ask.of (Gr.shrU (s := 8 * l.du + l.wk) rfl rfl (by omega)) ?_ | refine Ask.of (Gr.ofEq (r' := .v (.int .u64 (8 * l.du + l.wk))) (Gr.and63 (a := IntKind.u64.wrap (8 * l.du + l.wk)) rfl rfl (by rw [hwr]; omega)) (by rw [hwr])) ?_ | refine Ask.of (Gr.and7 (a := l.wk) rfl rfl h2) ?_ | refine Ask.of (Gr.and7 (a := l.du) rfl rfl h1) ?_ | refine zM ?_ | refine zW ?_ | intro _ | exact zF | refine Br.tt ?_ | refine Br.ff ?_ | (refine Br.mk (fun h => ?_) (fun h => ?_) <;> (try simp only [sh] at h) <;> try first | (exfalso; omega) | exact absurd trivial h | (simp at h; done)) | refine zA ?_ | refine zN ?_ | refine zO ?_ | refine zP ?_ | refine zB ?_ | refine lB ?_ | refine lBA ?_ | refine zK ?_ | refine s1 ?_ | refine sA ?_ | refine zC ?_ | fail))
  all_goals done
theorem one_clO : ∀ cs : List (List Lt), ((clO cs).flatMap AV.cells).all AV.one = true
  | [] => rfl
  | c :: cs => by rw [clO, List.map_cons, List.flatMap_cons, List.all_append]; exact one_clO cs
theorem unit_low {cs : List (List Lt)} {given : List Lt} (h1 : ∀ c ∈ cs, ∀ l ∈ c, lowL l) (h2 : ∀ l ∈ given, lowL l) : ∀ l ∈ (unitU cs given).1, lowL l := by
  refine unit_ind (P := fun out => ∀ l ∈ out, lowL l) h2 fun out c h hm _ hu l hl => ?_
  rcases List.mem_append.1 hl with hl | hl
  · exact h l hl
  · rw [List.mem_singleton] at hl
    rw [hl]
    exact h1 c hm _ (lit_open hu).1
theorem all_low {l : List Lt} {k : Nat} (hk : k < l.length) (h : ∀ x ∈ l.take k, lowL x) (h1 : lowL (l.getD k default)) : ∀ x ∈ l.take (k + 1), lowL x := by
  intro x hx
  rw [take_snocL hk, List.mem_append, List.mem_singleton] at hx
  rcases hx with hx | rfl
  · exact h x hx
  · exact h1
theorem all_snoc {α : Type} [Inhabited α] {P : α → Prop} {l : List α} {k : Nat} (hk : k < l.length) (h : ∀ x ∈ l.take k, P x) (h1 : P (l.getD k default)) : ∀ x ∈ l.take (k + 1), P x := by
  intro x hx
  rw [List.take_succ_eq_append_getElem hk, ← getD_at' hk, List.mem_append, List.mem_singleton] at hx
  rcases hx with hx | rfl
  · exact h x hx
  · exact h1
set_option maxRecDepth 4000 in
set_option maxHeartbeats 8000000 in
theorem nSound_all (cs : List (List Lt)) (given : List Lt) (bits : Int) (hb : 0 ≤ bits ∧ bits ≤ 18446744073709551615) (hf : fewN cs given ≤ 2000000) : FnA Tryz.prog 4 [.sl 1 (clO cs), .sl 3 (given.map ltav), .v (.int .u64 bits)] (B true) := by
  have c0 := nHead_ok
  have c2 := nfew_ok cs given hf
  by_cases hw : fewN cs given ≤ 300
  · rw [decide_eq_true hw] at c2
    obtain ⟨f1, f2, f3⟩ := few_parts hw
    have hcl : (clO cs).length = cs.length := by simp
    have hgl : (given.map ltav).length = given.length := by simp
    have hcg : clO cs ++ [.sl 3 (given.map ltav)] = clO (cs ++ [given]) := by simp [clO]
    have hcgl : (clO (cs ++ [given])).length = cs.length + 1 := by simp
    have hcg2 : (clO cs ++ [AV.sl 3 (given.map ltav)]).length = cs.length + 1 := by simp
    have hcgn : (cs ++ [given]).length = cs.length + 1 := by simp
    have hb3 : ∀ c ∈ cs ++ [given], c.length ≤ 300 := fun c hc => by
      rcases List.mem_append.1 hc with hc | hc
      · exact f3 c hc
      · rw [List.mem_singleton] at hc
        rw [hc]
        exact f2
    refine fn_run (T := tab) Tryz.func4 rfl Tryz.ntmps4 rfl Tryz.results4 (fun _ => ?_)
    repeat' ((conv => whnf) <;> (first | refine nR (T := tab) ?_ | (refine LK.eff (Eff.appS (T := tab) 0 rfl rfl rfl rfl rfl Qb (one_clO cs) Qo) ?_ <;> rintro _ _ ⟨A, q, cp, rfl, rfl⟩) | (refine LK.eff (Eff.bsl (T := tab) (ps := []) rfl rfl rfl rfl) ?_ <;> rintro _ _ ⟨v0, rfl, rfl⟩) | refine zM ?_ | refine zW ?_ | intro _ | exact zF | refine Br.tt ?_ | refine Br.ff ?_ | (refine Br.mk (fun h => ?_) (fun h => ?_) <;> (try simp only [sh] at h) <;> try first | (exfalso; omega) | exact absurd trivial h | (simp at h; done)) | refine zA ?_ | refine zN ?_ | refine zO ?_ | refine zP ?_ | refine zB ?_ | refine zL ent10 c0 ?_ | refine zG ent10 (fun h => c0) ?_ | refine zL ent12 c2 ?_ | refine zG ent12 (fun h => c2) ?_ | refine lB ?_ | refine lBA ?_ | refine zK ?_ | refine s1 ?_ | refine sA ?_ | refine pS ?_ | refine LK.gr (Gr.bslV rfl rfl rfl rfl) ?_ | refine Ask.of (Gr.bslV rfl rfl rfl rfl) ?_ | refine zC ?_ | refine zD ?_ | exact True.intro | fail))
    conv => whnf
    refine CK.frzR 0 rfl ?_
    refine CK.see 34 rfl (Sb.row 0 rfl) ?_
    rw [List.nil_append, hcg]
    (conv => whnf); refine CK.loopK [6, 9, 11, 36, 37, 38, 39, 40, 41, 42, 43, 44, 45, 46, 47, 48, 49, 50, 51, 52, 53, 54, 55, 56, 57, 58, 59, 60, 61, 62, 63, 64, 65, 66] (σ := Nat) (fun k => k ≤ cs.length + 1 ∧ ∀ c ∈ (cs ++ [given]).take k, ∀ l ∈ c, lowL l) (fun k => [(36, I k)]) (fun _ => []) [] (fun k => cs.length + 1 - k) 0 ⟨Nat.zero_le _, by simp⟩ Qy (by exact List.nil_sublist _) ?_
    conv => whnf
    rintro k ⟨i1, i2⟩
    by_cases hk : k < (cs ++ [given]).length
    · have hcm := hb3 _ (getD_mem hk)
      repeat' ((conv => whnf) <;> (first | refine zM ?_ | refine zW ?_ | intro _ | exact zF | refine Br.tt ?_ | refine Br.ff ?_ | (refine Br.mk (fun h => ?_) (fun h => ?_) <;> (try simp only [sh] at h) <;> try first | (exfalso; omega) | exact absurd trivial h | (simp at h; done)) | refine zA ?_ | refine zN ?_ | refine zO ?_ | refine zP ?_ | refine zB ?_ | refine lB ?_ | refine lBA ?_ | refine zK ?_ | refine s1 ?_ | refine sA ?_ | refine zC ?_ | fail))
      (conv => whnf); refine CK.loopK [6, 11, 42, 43, 44, 45, 46, 47, 48, 49, 50, 51, 52, 53, 54, 55, 56, 57, 58, 59, 60, 61, 62, 63, 64, 65] (σ := Nat) (fun j => j ≤ ((cs ++ [given]).getD k default).length ∧ ∀ l ∈ ((cs ++ [given]).getD k default).take j, lowL l) (fun j => [(42, I j)]) (fun _ => []) [] (fun j => ((cs ++ [given]).getD k default).length - j) 0 ⟨Nat.zero_le _, by simp⟩ Qy (by exact List.nil_sublist _) ?_
      conv => whnf
      rintro j ⟨j1, j2⟩
      have hjl : (((cs ++ [given]).getD k default).map ltav).length = ((cs ++ [given]).getD k default).length := by simp
      by_cases hj : j < ((cs ++ [given]).getD k default).length
      · repeat' ((conv => whnf) <;> (first | refine zM ?_ | refine zW ?_ | intro _ | exact zF | refine Br.tt ?_ | refine Br.ff ?_ | (refine Br.mk (fun h => ?_) (fun h => ?_) <;> (try simp only [sh] at h) <;> try first | (exfalso; omega) | exact absurd trivial h | (simp at h; done)) | refine zA ?_ | refine zN ?_ | refine zO ?_ | refine zP ?_ | refine zB ?_ | refine lB ?_ | refine lBA ?_ | refine zK ?_ | refine s1 ?_ | refine sA ?_ | refine zC ?_ | exact True.intro | fail))
        (conv => whnf); (refine Nxt.of (j + 1) [6, 11, 42, 43, 44, 45, 46, 47, 48, 49, 50, 51, 52, 53, 54, 55, 56, 57, 58, 59, 60, 61, 62, 63, 64, 65] Qr Qr Qr ?_ ?_ Qy Qs <;> (try dsimp only) <;> (try omega))
        exact ⟨hj, all_low hj j2 ⟨⟨by omega, by omega⟩, by omega, by omega⟩⟩
      · obtain rfl : j = ((cs ++ [given]).getD k default).length := by omega
        rw [List.take_length] at j2
        repeat' ((conv => whnf) <;> (first | refine zM ?_ | refine zW ?_ | intro _ | exact zF | refine Br.tt ?_ | refine Br.ff ?_ | (refine Br.mk (fun h => ?_) (fun h => ?_) <;> (try simp only [sh] at h) <;> try first | (exfalso; omega) | exact absurd trivial h | (simp at h; done)) | refine zA ?_ | refine zN ?_ | refine zO ?_ | refine zP ?_ | refine zB ?_ | refine lB ?_ | refine lBA ?_ | refine zK ?_ | refine s1 ?_ | refine sA ?_ | refine zC ?_ | fail))
        (conv => whnf); (refine Nxt.of (k + 1) [6, 9, 11, 36, 37, 38, 39, 40, 41, 42, 43, 44, 45, 46, 47, 48, 49, 50, 51, 52, 53, 54, 55, 56, 57, 58, 59, 60, 61, 62, 63, 64, 65, 66] Qr Qr Qr ?_ ?_ Qy Qs <;> (try dsimp only) <;> (try omega))
        exact ⟨by omega, all_snoc hk i2 j2⟩
    · obtain rfl : k = (cs ++ [given]).length := by omega
      rw [List.take_length] at i2
      have l1 : ∀ c ∈ cs, ∀ l ∈ c, lowL l := fun c hc => i2 c (List.mem_append_left _ hc)
      have l2 : ∀ l ∈ given, lowL l := i2 given (by simp)
      have l3 := unit_low l1 l2
      repeat' ((conv => whnf) <;> (first | refine zM ?_ | refine zW ?_ | intro _ | exact zF | refine Br.tt ?_ | refine Br.ff ?_ | (refine Br.mk (fun h => ?_) (fun h => ?_) <;> (try simp only [sh] at h) <;> try first | (exfalso; omega) | exact absurd trivial h | (simp at h; done)) | refine zA ?_ | refine zN ?_ | refine zO ?_ | refine zP ?_ | refine zB ?_ | refine lB ?_ | refine lBA ?_ | refine zK ?_ | refine s1 ?_ | refine sA ?_ | refine zC ?_ | fail))
      (conv => whnf); refine CK.loopK [6, 13, 14, 16, 69, 70, 71, 72, 73, 74, 75, 76, 77, 78, 79, 80, 81, 82, 83, 84, 85, 86, 87, 88, 89] (σ := Nat) (fun k => k ≤ cs.length ∧ ∀ c ∈ cs.take k, ∃ l ∈ c, truB bits l = true) (fun k => [(69, I k)]) (fun _ => []) [] (fun k => cs.length - k) 0 ⟨Nat.zero_le _, by simp⟩ Qy (by exact List.nil_sublist _) ?_
      conv => whnf
      rintro k ⟨m1, m2⟩
      by_cases hk : k < cs.length
      · have hcm := f3 _ (getD_mem hk)
        have hlc := l1 _ (getD_mem hk)
        repeat' ((conv => whnf) <;> (first | refine zM ?_ | refine zW ?_ | intro _ | exact zF | refine Br.tt ?_ | refine Br.ff ?_ | (refine Br.mk (fun h => ?_) (fun h => ?_) <;> (try simp only [sh] at h) <;> try first | (exfalso; omega) | exact absurd trivial h | (simp at h; done)) | refine zA ?_ | refine zN ?_ | refine zO ?_ | refine zP ?_ | refine zB ?_ | refine lB ?_ | refine lBA ?_ | refine zK ?_ | refine s1 ?_ | refine sA ?_ | refine zC ?_ | fail))
        (conv => whnf); refine CK.loopK [14, 16, 75, 76, 77, 78, 79, 80, 81, 82, 83, 84, 85] (σ := Nat × Bool) (fun s => s.1 ≤ (cs.getD k default).length ∧ s.2 = ((cs.getD k default).take s.1).any (truB bits)) (fun ⟨j, f⟩ => [(75, I j), (14, B f)]) (fun _ => []) [] (fun s => (cs.getD k default).length - s.1) (0, false) ⟨Nat.zero_le _, rfl⟩ Qy (by exact List.nil_sublist _) ?_
        conv => whnf
        rintro ⟨j, f⟩ ⟨j1, j2⟩
        simp only at j1 j2
        have hjl : ((cs.getD k default).map ltav).length = (cs.getD k default).length := by simp
        by_cases hj : j < (cs.getD k default).length
        · have c3 := ntruth_ok ((cs.getD k default).getD j default) bits hb (hlc _ (getD_mem hj))
          repeat' ((conv => whnf) <;> (first | refine zM ?_ | refine zW ?_ | intro _ | exact zF | refine Br.tt ?_ | refine Br.ff ?_ | (refine Br.mk (fun h => ?_) (fun h => ?_) <;> (try simp only [sh] at h) <;> try first | (exfalso; omega) | exact absurd trivial h | (simp at h; done)) | refine zA ?_ | refine zN ?_ | refine zO ?_ | refine zP ?_ | refine zB ?_ | refine zL ent19 c3 ?_ | refine zG ent19 (fun h => c3) ?_ | refine lB ?_ | refine lBA ?_ | refine zK ?_ | refine s1 ?_ | refine sA ?_ | refine zC ?_ | exact True.intro | fail))
          (conv => whnf); (refine Nxt.of ((j + 1, f || truB bits ((cs.getD k default).getD j default))) [14, 16, 75, 76, 77, 78, 79, 80, 81, 82, 83, 84, 85] Qr Qr Qr ?_ ?_ Qy Qs <;> (try dsimp only) <;> (try omega))
          refine ⟨hj, ?_⟩
          rw [List.take_succ_eq_append_getElem hj, List.any_append, ← j2, getD_at' hj]
          simp
        · obtain rfl : j = (cs.getD k default).length := by omega
          rw [List.take_length] at j2
          repeat' ((conv => whnf) <;> (first | refine zM ?_ | refine zW ?_ | intro _ | exact zF | refine Br.tt ?_ | refine Br.ff ?_ | (refine Br.mk (fun h => ?_) (fun h => ?_) <;> (try simp only [sh] at h) <;> try first | (exfalso; omega) | exact absurd trivial h | (simp at h; done)) | refine zA ?_ | refine zN ?_ | refine zO ?_ | refine zP ?_ | refine zB ?_ | refine lB ?_ | refine lBA ?_ | refine zK ?_ | refine s1 ?_ | refine sA ?_ | refine zC ?_ | fail))
          (conv => whnf); (refine Nxt.of (k + 1) [6, 13, 14, 16, 69, 70, 71, 72, 73, 74, 75, 76, 77, 78, 79, 80, 81, 82, 83, 84, 85, 86, 87, 88, 89] Qr Qr Qr ?_ ?_ Qy Qs <;> (try dsimp only) <;> (try omega))
          refine ⟨hk, all_snoc hk m2 ?_⟩
          rw [h] at j2
          exact List.any_eq_true.1 j2.symm
      · obtain rfl : k = cs.length := by omega
        rw [List.take_length] at m2
        repeat' ((conv => whnf) <;> (first | refine zM ?_ | refine zW ?_ | intro _ | exact zF | refine Br.tt ?_ | refine Br.ff ?_ | (refine Br.mk (fun h => ?_) (fun h => ?_) <;> (try simp only [sh] at h) <;> try first | (exfalso; omega) | exact absurd trivial h | (simp at h; done)) | refine zA ?_ | refine zN ?_ | refine zO ?_ | refine zP ?_ | refine zB ?_ | refine lB ?_ | refine lBA ?_ | refine zK ?_ | refine s1 ?_ | refine sA ?_ | refine zC ?_ | fail))
        (conv => whnf); refine CK.loopK [6, 18, 92, 93, 94, 95, 96, 97, 98, 99, 100, 101] (σ := Nat) (fun k => k ≤ given.length ∧ ∀ l ∈ given.take k, truB bits l = true) (fun k => [(92, I k)]) (fun _ => []) [] (fun k => given.length - k) 0 ⟨Nat.zero_le _, by simp⟩ Qy (by exact List.nil_sublist _) ?_
        conv => whnf
        rintro k ⟨n1, n2⟩
        by_cases hk : k < given.length
        · have c3 := ntruth_ok (given.getD k default) bits hb (l2 _ (getD_mem hk))
          repeat' ((conv => whnf) <;> (first | refine zM ?_ | refine zW ?_ | intro _ | exact zF | refine Br.tt ?_ | refine Br.ff ?_ | (refine Br.mk (fun h => ?_) (fun h => ?_) <;> (try simp only [sh] at h) <;> try first | (exfalso; omega) | exact absurd trivial h | (simp at h; done)) | refine zA ?_ | refine zN ?_ | refine zO ?_ | refine zP ?_ | refine zB ?_ | refine zL ent19 c3 ?_ | refine zG ent19 (fun h => c3) ?_ | refine lB ?_ | refine lBA ?_ | refine zK ?_ | refine s1 ?_ | refine sA ?_ | refine zC ?_ | exact True.intro | fail))
          (conv => whnf); (refine Nxt.of (k + 1) [6, 18, 92, 93, 94, 95, 96, 97, 98, 99, 100, 101] Qr Qr Qr ?_ ?_ Qy Qs <;> (try dsimp only) <;> (try omega))
          exact ⟨hk, all_snoc hk n2 h⟩
        · obtain rfl : k = given.length := by omega
          rw [List.take_length] at n2
          have k1 := dmUnit_ok cs given (by omega) (fun c hc => by have := f3 c hc; omega) (by omega)
          have hul := unit_len cs given
          obtain ⟨t1, t2⟩ := unit_true (T := truB bits) (truB_neg bits) m2 n2
          have hol : ((unitU cs given).1.map ltav).length = (unitU cs given).1.length := by simp
          repeat' ((conv => whnf) <;> (first | refine zM ?_ | refine zW ?_ | intro _ | exact zF | refine Br.tt ?_ | refine Br.ff ?_ | (refine Br.mk (fun h => ?_) (fun h => ?_) <;> (try simp only [sh] at h) <;> try first | (exfalso; omega) | exact absurd trivial h | (simp at h; done)) | refine zA ?_ | refine zN ?_ | refine zO ?_ | refine zP ?_ | refine zB ?_ | refine zL ent13 k1 ?_ | refine zG ent13 (fun h => k1) ?_ | refine lB ?_ | refine lBA ?_ | refine zK ?_ | refine s1 ?_ | refine sA ?_ | refine zC ?_ | fail))
          (conv => whnf); refine CK.loopK [6, 22, 110, 111, 112, 113, 114, 115, 116, 117, 118] (σ := Nat) (fun k => k ≤ (unitU cs given).1.length) (fun k => [(110, I k)]) (fun _ => []) [] (fun k => (unitU cs given).1.length - k) 0 (Nat.zero_le _) Qy (by exact List.nil_sublist _) ?_
          conv => whnf
          rintro k n1
          by_cases hk : k < (unitU cs given).1.length
          · have c3 := ntruth_ok ((unitU cs given).1.getD k default) bits hb (l3 _ (getD_mem hk))
            rw [t1 _ (getD_mem hk)] at c3
            repeat' ((conv => whnf) <;> (first | refine zM ?_ | refine zW ?_ | intro _ | exact zF | refine Br.tt ?_ | refine Br.ff ?_ | (refine Br.mk (fun h => ?_) (fun h => ?_) <;> (try simp only [sh] at h) <;> try first | (exfalso; omega) | exact absurd trivial h | (simp at h; done)) | refine zA ?_ | refine zN ?_ | refine zO ?_ | refine zP ?_ | refine zB ?_ | refine zL ent19 c3 ?_ | refine zG ent19 (fun h => c3) ?_ | refine lB ?_ | refine lBA ?_ | refine zK ?_ | refine s1 ?_ | refine sA ?_ | refine zC ?_ | exact True.intro | fail))
            (conv => whnf); (refine Nxt.of (k + 1) [6, 22, 110, 111, 112, 113, 114, 115, 116, 117, 118] Qr Qr Qr ?_ ?_ Qy Qs <;> (try dsimp only) <;> (try omega))
          · obtain rfl : k = (unitU cs given).1.length := by omega
            rw [t2]
            repeat' ((conv => whnf) <;> (first | refine zM ?_ | refine zW ?_ | intro _ | exact zF | refine Br.tt ?_ | refine Br.ff ?_ | (refine Br.mk (fun h => ?_) (fun h => ?_) <;> (try simp only [sh] at h) <;> try first | (exfalso; omega) | exact absurd trivial h | (simp at h; done)) | refine zA ?_ | refine zN ?_ | refine zO ?_ | refine zP ?_ | refine zB ?_ | refine lB ?_ | refine lBA ?_ | refine zK ?_ | refine s1 ?_ | refine sA ?_ | refine zC ?_ | fail))
  · rw [decide_eq_false hw] at c2
    refine fn_run (T := tab) Tryz.func4 rfl Tryz.ntmps4 rfl Tryz.results4 (fun _ => ?_)
    repeat' ((conv => whnf) <;> (first | refine zM ?_ | refine zW ?_ | intro _ | exact zF | refine Fin.pure ?_ | refine Br.tt ?_ | refine Br.ff ?_ | (refine Br.mk (fun h => ?_) (fun h => ?_) <;> (try simp only [sh] at h) <;> try first | (exfalso; omega) | exact absurd trivial h | (simp at h; done)) | refine zA ?_ | refine zN ?_ | refine zO ?_ | refine zP ?_ | refine zB ?_ | refine zL ent10 c0 ?_ | refine zG ent10 (fun h => c0) ?_ | refine zL ent12 c2 ?_ | refine zG ent12 (fun h => c2) ?_ | refine lB ?_ | refine lBA ?_ | refine zK ?_ | refine s1 ?_ | refine sA ?_ | refine zC ?_ | exact True.intro | fail))
end Go.Proofs.YtjfnkmlnbaianaaGreat
