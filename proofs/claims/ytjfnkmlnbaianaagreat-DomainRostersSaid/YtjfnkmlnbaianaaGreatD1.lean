/-
  Texts D1, D2.
  Conditions: those of each theorem.
-/
import Derived.Test.YtjfnkmlnbaianaaGreatTab
import Derived.Test.YtjfnkmlnbaianaaGreatE5I
import Derived.Test.YtjfnkmlnbaianaaGreatDA
namespace Go.Proofs.YtjfnkmlnbaianaaGreat
open Go.E2 Go.Wage
abbrev pU (g : Nat) : Value := .pointer (some ⟨g, 7, none⟩)
abbrev iU (g : Nat) : Value := .iface 119 (pU g)
abbrev Pe (g : Nat) (a0 a1 a2 a3 a4 a5 a6 : AV) (v : Value) : Ent := .blk g 87 false [a0, a1, a2, a3, a4, a5, a6, .v v]
abbrev Ui (v : Value) (us : List Int) : Ent := .row v 3 1 0 false (us.map I)
theorem mLen (g : Nat) : MethP Tryz.prog "Len" (iU g) 56 ⟨g, 7, none⟩ := methP_of (t := 83) (one_of (T := tab) rfl rfl) fun args w => by kernel_rfl
theorem mLess (g : Nat) : MethP Tryz.prog "Less" (iU g) 186 ⟨g, 7, none⟩ := methP_of (t := 83) (one_of (T := tab) rfl rfl) fun args w => by kernel_rfl
theorem mSwap (g : Nat) : MethP Tryz.prog "Swap" (iU g) 188 ⟨g, 7, none⟩ := methP_of (t := 83) (one_of (T := tab) rfl rfl) fun args w => by kernel_rfl
theorem meth_ofD {P : Program} {nm : String} {x u : Value} {f : FuncId} (h : ∀ args w, (callMethod x nm args).run P w = .ok (.enter f (#[u] ++ args)) w) : Meth P nm x f u := ⟨fun args w => by
 have e : (#[x] ++ args)[0]? = some x := by
  rw [Array.getElem?_append_left (by simp)]; rfl
 simp [invoke]
 rw [e]
 exact h args w⟩
theorem mPush (g : Nat) : Meth Tryz.prog "Push" (iU g) 190 (pU g) := meth_ofD fun args w => by kernel_rfl
theorem mPop (g : Nat) : Meth Tryz.prog "Pop" (iU g) 189 (pU g) := meth_ofD fun args w => by kernel_rfl
theorem hpLen_ok {c : Ctx} {R : List Ent} (e : Ent) (A : Option Addr) (q cp : Nat) (us : List Int) : FnL Tryz.prog c 56 [.v (.slice A q cp)] (e :: Ui (.slice A q cp) us :: R) fun r L' => r = I us.length ∧ L' = e :: Ui (.slice A q cp) us :: R := by
 have hlu : (us.map I).length = us.length := by simp
 refine fnL_run (T := tab) Tryz.func56 rfl Tryz.ntmps56 rfl Tryz.results56 (fun _ hw0 => ?_)
 repeat' ((conv => whnf) <;> (first | refine nR (T := tab) (i := 1) ?_ | refine zM ?_ | refine zW ?_ | intro _ | exact zF | refine Br.tt ?_ | refine Br.ff ?_ | (refine Br.mk (fun h => ?_) (fun h => ?_) <;> (try simp only [sh] at h) <;> try first | (exfalso; omega) | exact absurd trivial h | (simp at h; done)) | refine zA ?_ | refine zN ?_ | refine zO ?_ | refine zP ?_ | refine zB ?_ | refine lB ?_ | refine lBA ?_ | refine zK ?_ | refine s1 ?_ | refine sA ?_ | refine zC ?_ | fail))
 conv => whnf
 exact .out _ (by exact Qs) ⟨by rw [hlu], rfl⟩
theorem hpLess_ok {c : Ctx} {R : List Ent} (e : Ent) (A : Option Addr) (q cp : Nat) (us : List Int) (i j : Int) (hi : 0 ≤ i ∧ i < us.length) (hj : 0 ≤ j ∧ j < us.length) : FnL Tryz.prog c 186 [.v (.slice A q cp), I i, I j] (e :: Ui (.slice A q cp) us :: R) fun r L' => r = B (decide (us.getD i.toNat default < us.getD j.toNat default)) ∧ L' = e :: Ui (.slice A q cp) us :: R := by
 have hlu : (us.map I).length = us.length := by simp
 refine fnL_run (T := tab) Tryz.func186 rfl Tryz.ntmps186 rfl Tryz.results186 (fun _ hw0 => ?_)
 repeat' ((conv => whnf) <;> (first | refine iR (T := tab) (i := 1) ?_ | refine zM ?_ | refine zW ?_ | intro _ | exact zF | refine Br.tt ?_ | refine Br.ff ?_ | (refine Br.mk (fun h => ?_) (fun h => ?_) <;> (try simp only [sh] at h) <;> try first | (exfalso; omega) | exact absurd trivial h | (simp at h; done)) | refine zA ?_ | refine zN ?_ | refine zO ?_ | refine zP ?_ | refine zB ?_ | refine lB ?_ | refine lBA ?_ | refine lM ?_ | refine lM0 ?_ | refine lMA ?_ | refine sM ?_ | refine zK ?_ | refine s1 ?_ | refine sA ?_ | refine zC ?_ | fail))
 conv => whnf
 exact .out _ (by exact Qs) ⟨rfl, rfl⟩
theorem hpSwap_ok {c : Ctx} {R : List Ent} (e : Ent) (A : Option Addr) (q cp : Nat) (us : List Int) (i j : Int) (hi : 0 ≤ i ∧ i < us.length) (hj : 0 ≤ j ∧ j < us.length) : FnL Tryz.prog c 188 [.v (.slice A q cp), I i, I j] (e :: Ui (.slice A q cp) us :: R) fun r L' => r = .tup [] ∧ L' = e :: Ui (.slice A q cp) (swp us i.toNat j.toNat) :: R := by
 have hlu : (us.map I).length = us.length := by simp
 have hlu2 : ((us.set i.toNat (us.getD j.toNat default)).map I).length = us.length := by simp
 refine fnL_run (T := tab) Tryz.func188 rfl Tryz.ntmps188 rfl Tryz.results188 (fun _ hw0 => ?_)
 conv => whnf
 refine CK.anyS (T := tab) [0, 1, 2, 3, 4, 5, 6, 7, 8, 9, 10, 11] [12, 13, 14, 15] [2, 3, 8, 9, 10] 1 (Ui (.slice A q cp) (us.set i.toNat (us.getD j.toNat default))) 14 13 (by exact Qk) (by exact Qk) ?_
 repeat' ((conv => whnf) <;> (first | refine iR (T := tab) (i := 1) ?_ | refine zM ?_ | refine zW ?_ | intro _ | exact zF | refine Br.tt ?_ | refine Br.ff ?_ | (refine Br.mk (fun h => ?_) (fun h => ?_) <;> (try simp only [sh] at h) <;> try first | (exfalso; omega) | exact absurd trivial h | (simp at h; done)) | refine zA ?_ | refine zN ?_ | refine zO ?_ | refine zP ?_ | refine zB ?_ | refine lB ?_ | refine lBA ?_ | refine lM ?_ | refine lM0 ?_ | refine lMA ?_ | refine sM ?_ | refine zK ?_ | refine s1 ?_ | refine sA ?_ | refine zC ?_ | fail))
 refine ⟨by repeat (first | exact fun _ => rfl | refine look_same rfl ?_), ?_⟩
 refine Kw.ask rfl (by exact Or.inl ⟨by simp, rfl⟩) (iR (T := tab) (i := 1) ?_)
 conv => whnf
 refine Kw.eff rfl (Eff.stI (T := tab) 1 rfl rfl rfl rfl rfl (Nat.zero_le _) (by omega)) (by exact Or.inl ⟨by simp, rfl⟩) ?_
 rintro _ _ ⟨rfl, rfl⟩
 refine Kw.ask rfl (by exact Or.inr ⟨by simp, rfl⟩) (iR (T := tab) (i := 1) ?_)
 conv => whnf
 refine Kw.eff rfl (Eff.stI (T := tab) 1 rfl rfl rfl rfl rfl (Nat.zero_le _) (by rw [List.length_set]; omega)) (by exact Or.inr ⟨by simp, rfl⟩) ?_
 rintro _ _ ⟨rfl, rfl⟩
 refine Kw.nil ?_
 repeat' ((conv => whnf) <;> (first | refine zM ?_ | refine zW ?_ | intro _ | exact zF | refine Br.tt ?_ | refine Br.ff ?_ | (refine Br.mk (fun h => ?_) (fun h => ?_) <;> (try simp only [sh] at h) <;> try first | (exfalso; omega) | exact absurd trivial h | (simp at h; done)) | refine zA ?_ | refine zN ?_ | refine zO ?_ | refine zP ?_ | refine zB ?_ | refine lB ?_ | refine lBA ?_ | refine zK ?_ | refine s1 ?_ | refine sA ?_ | refine zC ?_ | fail))
 conv => whnf
 exact .out _ (by exact Qs) ⟨rfl, rfl⟩
theorem hpPushI_ok {c : Ctx} {R : List Ent} (g : Nat) (a0 a1 a2 a3 a4 a5 a6 : AV) (A : Option Addr) (q cp : Nat) (us : List Int) (x : Int) (hl : us.length ≤ 1000000) : FnL Tryz.prog c 190 [.v (pU g), .v (.iface 3 (.int .i64 x))] (Pe g a0 a1 a2 a3 a4 a5 a6 (.slice A q cp) :: Ui (.slice A q cp) us :: R) fun r L' => r = .tup [] ∧ ∃ A' q' cp', L' = Pe g a0 a1 a2 a3 a4 a5 a6 (.slice A' q' cp') :: Ui (.slice A' q' cp') (us ++ [x]) :: R := by
 have hlu : (us.map I).length = us.length := by simp
 refine fnL_run (T := tab) Tryz.func190 rfl Tryz.ntmps190 rfl Tryz.results190 (fun _ hw0 => ?_)
 repeat' ((conv => whnf) <;> (first | refine LK.gr (Gr.assertV ⟨_, Tryz.underlying3, by simp⟩ rfl) ?_ | refine zM ?_ | refine zW ?_ | intro _ | exact zF | refine Br.tt ?_ | refine Br.ff ?_ | (refine Br.mk (fun h => ?_) (fun h => ?_) <;> (try simp only [sh] at h) <;> try first | (exfalso; omega) | exact absurd trivial h | (simp at h; done)) | refine zA ?_ | refine zN ?_ | refine zO ?_ | refine zP ?_ | refine zB ?_ | refine lB ?_ | refine lBA ?_ | refine zK ?_ | refine s1 ?_ | refine sA ?_ | refine pS ?_ | refine LK.gr (Gr.bslV rfl rfl rfl rfl) ?_ | refine Ask.of (Gr.bslV rfl rfl rfl rfl) ?_ | refine zC ?_ | refine zD ?_ | fail))
 conv => whnf
 have e2 : us.map I ++ [AV.v (.int .i64 x)] = (us ++ [x]).map I := by rw [List.map_append]; rfl
 rw [e2]
 exact .out _ (by exact Qs) ⟨rfl, _, _, _, rfl⟩
theorem hpPopI_ok {c : Ctx} {R : List Ent} (g : Nat) (a0 a1 a2 a3 a4 a5 a6 : AV) (A : Option Addr) (q cp : Nat) (us : List Int) (h0 : 0 < us.length) (hl : us.length ≤ 1000000) : FnL Tryz.prog c 189 [.v (pU g)] (Pe g a0 a1 a2 a3 a4 a5 a6 (.slice A q cp) :: Ui (.slice A q cp) us :: R) fun r L' => r = .v (.iface 3 (.int .i64 (us.getD (us.length - 1) default))) ∧ ∃ q', L' = Pe g a0 a1 a2 a3 a4 a5 a6 (.slice A q' cp) :: Ui (.slice A q' cp) (us.take (us.length - 1)) :: R := by
 have hlu : (us.map I).length = us.length := by simp
 refine fnL_run (T := tab) Tryz.func189 rfl Tryz.ntmps189 rfl Tryz.results189 (fun _ hw0 => ?_)
 have hj : 0 ≤ (((us.map I).length : Int) - 1) ∧ (((us.map I).length : Int) - 1) ≤ (us.map I).length ∧ 0 < (us.map I).length := by omega
 repeat' ((conv => whnf) <;> (first | (refine LK.shorten 1 ((((us.map I).length : Int) - 1).toNat) rfl (by omega) (Nat.zero_le _) ?_ <;> refine LK.gr (Gr.mkIfaceV ⟨_, Tryz.underlying3, by simp⟩ rfl) ?_) | refine Ask.slcV (T := tab) 1 ?_ rfl rfl rfl rfl (fun _ => hj) | refine iR (T := tab) (i := 1) ?_ | refine nR (T := tab) (i := 1) ?_ | refine zM ?_ | refine zW ?_ | intro _ | exact zF | refine Br.tt ?_ | refine Br.ff ?_ | (refine Br.mk (fun h => ?_) (fun h => ?_) <;> (try simp only [sh] at h) <;> try first | (exfalso; omega) | exact absurd trivial h | (simp at h; done)) | refine zA ?_ | refine zN ?_ | refine zO ?_ | refine zP ?_ | refine zB ?_ | refine lB ?_ | refine lBA ?_ | refine lM ?_ | refine lM0 ?_ | refine lMA ?_ | refine sM ?_ | refine zK ?_ | refine s1 ?_ | refine sA ?_ | refine zC ?_ | fail))
 conv => whnf
 have e1 : (((us.map I).length : Int) - 1).toNat = us.length - 1 := by omega
 have e2 : (us.map I).take (us.length - 1) = (us.take (us.length - 1)).map I := List.map_take.symm
 rw [e1, e2]
 exact .out _ (by exact Qs) ⟨rfl, _, rfl⟩
end Go.Proofs.YtjfnkmlnbaianaaGreat
namespace Go.Proofs.YtjfnkmlnbaianaaGreat
open Go.E2 Go.Wage
set_option maxRecDepth 4000 in
set_option maxHeartbeats 4000000 in
theorem hpUp_ok {c : Ctx} {R : List Ent} (g : Nat) (a0 a1 a2 a3 a4 a5 a6 : AV) (A : Option Addr) (q cp : Nat) (us : List Int) (j : Nat) (h : HUp us j) (hj : j < us.length) (hl : us.length ≤ 1000000) : FnL Tryz.prog c 101 [.v (iU g), I j] (Pe g a0 a1 a2 a3 a4 a5 a6 (.slice A q cp) :: Ui (.slice A q cp) us :: R) fun r L' => r = .tup [] ∧ ∃ us', us'.Perm us ∧ isHp us' us'.length ∧ L' = Pe g a0 a1 a2 a3 a4 a5 a6 (.slice A q cp) :: Ui (.slice A q cp) us' :: R := by
 refine fnL_run (T := tab) Tryz.func101 rfl Tryz.ntmps101 rfl Tryz.results101 (fun _ hw0 => ?_)
 (conv => whnf); refine CK.loopK [1, 4, 5, 6, 7, 8, 9, 10, 11, 12, 13, 14, 15, 16, 17, 18, 19, 20, 21, 22] (σ := Nat × List Int) (fun s => s.1 < s.2.length ∧ s.2.length = us.length ∧ s.2.Perm us ∧ HUp s.2 s.1) (fun ⟨k, _⟩ => [(1, I k)]) (fun ⟨_, l⟩ => [Pe g a0 a1 a2 a3 a4 a5 a6 (.slice A q cp), Ui (.slice A q cp) l]) R (fun s => s.1) (j, us) ⟨hj, rfl, List.Perm.refl _, h⟩ Qy (List.Sublist.refl _) ?_
 conv => whnf
 rintro ⟨k, l⟩ ⟨i1, i2, i3, i4⟩
 simp only at i1 i2 i3 i4
 have hend : isHp l l.length → (fun (r : AV) (L' : List Ent) => r = .tup [] ∧ ∃ us', us'.Perm us ∧ isHp us' us'.length ∧ L' = Pe g a0 a1 a2 a3 a4 a5 a6 (.slice A q cp) :: Ui (.slice A q cp) us' :: R) (.tup []) (Pe g a0 a1 a2 a3 a4 a5 a6 (.slice A q cp) :: Ui (.slice A q cp) l :: R) := fun hh => ⟨rfl, l, i3, hh, rfl⟩
 cases k with
 | zero =>
  have e0 : (((0 : Nat) : Int) - 1).tdiv 2 = 0 := by decide
  have c1 := fun c R => hpLess_ok (c := c) (R := R) (Pe g a0 a1 a2 a3 a4 a5 a6 (.slice A q cp)) A q cp l (((0 : Nat) : Int)) ((((0 : Nat) : Int) - 1).tdiv 2) (by omega) (by rw [e0]; omega)
  repeat' ((conv => whnf) <;> (first | refine LK.callPW (mLess g) (i := 0) rfl rfl rfl ?_ (fun _ => c1 _ _) rfl rfl Ql ?_ | refine Quo.t (fun _ => by decide) ?_ | refine zM ?_ | refine zW ?_ | intro _ | exact zF | refine Br.tt ?_ | refine Br.ff ?_ | (refine Br.mk (fun h => ?_) (fun h => ?_) <;> (try simp only [sh] at h) <;> try first | (exfalso; omega) | exact absurd trivial h | (simp at h; done)) | refine zA ?_ | refine zN ?_ | refine zO ?_ | refine zP ?_ | refine zB ?_ | refine zQ ?_ | refine Quo.t Qw ?_ | refine lB ?_ | refine lBA ?_ | refine zK ?_ | refine s1 ?_ | refine sA ?_ | refine zC ?_ | exact True.intro | fail))
  conv => whnf
  exact .out _ (by exact Qs) (hend (i4.done (.inl rfl)))
 | succ k =>
  have hp : par (k + 1) < l.length := by unfold par; omega
  have e0 : (((k + 1 : Nat) : Int) - 1) / 2 = ((par (k + 1) : Nat) : Int) := by unfold par; omega
  have c1 := fun c R => hpLess_ok (c := c) (R := R) (Pe g a0 a1 a2 a3 a4 a5 a6 (.slice A q cp)) A q cp l ((k + 1 : Nat) : Int) ((((k + 1 : Nat) : Int) - 1) / 2) (by omega) (by rw [e0]; omega)
  have c2 := fun c R => hpSwap_ok (c := c) (R := R) (Pe g a0 a1 a2 a3 a4 a5 a6 (.slice A q cp)) A q cp l ((((k + 1 : Nat) : Int) - 1) / 2) ((k + 1 : Nat) : Int) (by rw [e0]; omega) (by omega)
  have e1 : ((((k + 1 : Nat) : Int) - 1) / 2).toNat = par (k + 1) := by rw [e0]; exact Int.toNat_natCast _
  have e2 : (((k + 1 : Nat) : Int)).toNat = k + 1 := Int.toNat_natCast _
  rw [e1, e2] at c1 c2
  repeat' ((conv => whnf) <;> (first | (refine LK.eff (Eff.callP (mSwap g) rfl rfl Ql (i := 0) rfl rfl (c2 _ _)) ?_ <;> rintro _ _ ⟨rfl, rfl⟩) | refine LK.callPW (mLess g) (i := 0) rfl rfl rfl ?_ (fun _ => c1 _ _) rfl rfl Ql ?_ | refine zM ?_ | refine zW ?_ | intro _ | exact zF | refine Br.tt ?_ | refine Br.ff ?_ | (refine Br.mk (fun h => ?_) (fun h => ?_) <;> (try simp only [sh] at h) <;> try first | (exfalso; omega) | exact absurd trivial h | (simp at h; done)) | refine zA ?_ | refine zN ?_ | refine zO ?_ | refine zP ?_ | refine zB ?_ | refine zQ ?_ | refine Quo.t Qw ?_ | refine lB ?_ | refine lBA ?_ | refine zK ?_ | refine s1 ?_ | refine sA ?_ | refine zC ?_ | exact True.intro | fail))
  ·conv => whnf
   have : l.getD (par (k + 1)) default ≤ l.getD (k + 1) default := by omega
   exact .out _ (by exact Qs) (hend (i4.done (.inr this)))
  ·rw [e0]
   (conv => whnf); (refine Nxt.of ((par (k + 1), swp l (par (k + 1)) (k + 1))) [1, 4, 5, 6, 7, 8, 9, 10, 11, 12, 13, 14, 15, 16, 17, 18, 19, 20, 21, 22] Qr Qr Qr ?_ ?_ Qy ?_ <;> (try dsimp only) <;> (try omega))
   ·rename_i h
    exact ⟨by rw [swp_len]; exact hp, by rw [swp_len]; exact i2, (swp_perm hp i1).trans i3, i4.step (by omega) i1 h.2⟩
   ·exact Qs
set_option maxRecDepth 4000 in
set_option maxHeartbeats 8000000 in
theorem hpDown_ok {c : Ctx} {R : List Ent} (g : Nat) (a0 a1 a2 a3 a4 a5 a6 : AV) (A : Option Addr) (q cp : Nat) (us : List Int) (n : Nat) (h : HDn us n 0) (hn : n < us.length) (hl : us.length ≤ 1000000) : FnL Tryz.prog c 74 [.v (iU g), I 0, I n] (Pe g a0 a1 a2 a3 a4 a5 a6 (.slice A q cp) :: Ui (.slice A q cp) us :: R) fun r L' => (∃ b, r = B b) ∧ ∃ us', us'.Perm us ∧ us'.getD n default = us.getD n default ∧ isHp us' n ∧ L' = Pe g a0 a1 a2 a3 a4 a5 a6 (.slice A q cp) :: Ui (.slice A q cp) us' :: R := by
 refine fnL_run (T := tab) Tryz.func74 rfl Tryz.ntmps74 rfl Tryz.results74 (fun _ hw0 => ?_)
 repeat' ((conv => whnf) <;> (first | refine zM ?_ | refine zW ?_ | intro _ | exact zF | refine Br.tt ?_ | refine Br.ff ?_ | (refine Br.mk (fun h => ?_) (fun h => ?_) <;> (try simp only [sh] at h) <;> try first | (exfalso; omega) | exact absurd trivial h | (simp at h; done)) | refine zA ?_ | refine zN ?_ | refine zO ?_ | refine zP ?_ | refine zB ?_ | refine zQ ?_ | refine Quo.t Qw ?_ | refine lB ?_ | refine lBA ?_ | refine zK ?_ | refine s1 ?_ | refine sA ?_ | refine zC ?_ | fail))
 (conv => whnf); refine CK.loopK [7, 8, 9, 10, 12, 13, 14, 15, 16, 17, 18, 19, 20, 21, 22, 23, 24, 25, 26, 27, 28, 29, 30, 31, 32, 33, 34, 35, 36, 37, 38, 39, 40, 41, 42, 43, 44] (σ := Nat × List Int) (fun s => s.1 < us.length ∧ s.2.length = us.length ∧ s.2.Perm us ∧ s.2.getD n default = us.getD n default ∧ HDn s.2 n s.1) (fun ⟨k, _⟩ => [(7, I k)]) (fun ⟨_, l⟩ => [Pe g a0 a1 a2 a3 a4 a5 a6 (.slice A q cp), Ui (.slice A q cp) l]) R (fun s => us.length - s.1) (0, us) ⟨by simp only; omega, rfl, List.Perm.refl _, rfl, h⟩ Qy (List.Sublist.refl _) ?_
 conv => whnf
 rintro ⟨k, l⟩ ⟨i0, i1, i2, i3, i4⟩
 simp only at i0 i1 i2 i3 i4
 have hend : ∀ b : Bool, isHp l n → (fun (r : AV) (L' : List Ent) => (∃ b, r = B b) ∧ ∃ us', us'.Perm us ∧ us'.getD n default = us.getD n default ∧ isHp us' n ∧ L' = Pe g a0 a1 a2 a3 a4 a5 a6 (.slice A q cp) :: Ui (.slice A q cp) us' :: R) (B b) (Pe g a0 a1 a2 a3 a4 a5 a6 (.slice A q cp) :: Ui (.slice A q cp) l :: R) := fun b hh => ⟨⟨b, rfl⟩, l, i2, i3, hh, rfl⟩
 have e1 : (2 * (k : Int) + 1).toNat = 2 * k + 1 := by omega
 have e2 : (2 * (k : Int) + 1 + 1).toNat = 2 * k + 2 := by omega
 have e4 : 2 * (k : Int) + 1 + 1 = ((2 * k + 2 : Nat) : Int) := by omega
 have e5 : 2 * (k : Int) + 1 = ((2 * k + 1 : Nat) : Int) := by omega
 have hch : ∀ {x : Nat}, 0 < x → par x = k → x = 2 * k + 1 ∨ x = 2 * k + 2 := fun {x} a b => by unfold par at b; omega
 by_cases h1 : 2 * k + 1 < n
 ·have c1 := fun hb c R => hpLess_ok (c := c) (R := R) (Pe g a0 a1 a2 a3 a4 a5 a6 (.slice A q cp)) A q cp l (2 * (k : Int) + 1 + 1) (2 * (k : Int) + 1) hb (by omega)
  have c2 := fun c R => hpLess_ok (c := c) (R := R) (Pe g a0 a1 a2 a3 a4 a5 a6 (.slice A q cp)) A q cp l (2 * (k : Int) + 1) (k : Int) (by omega) (by omega)
  have c3 := fun hb c R => hpLess_ok (c := c) (R := R) (Pe g a0 a1 a2 a3 a4 a5 a6 (.slice A q cp)) A q cp l (2 * (k : Int) + 1 + 1) (k : Int) hb (by omega)
  have c4 := fun c R => hpSwap_ok (c := c) (R := R) (Pe g a0 a1 a2 a3 a4 a5 a6 (.slice A q cp)) A q cp l (k : Int) (2 * (k : Int) + 1) (by omega) (by omega)
  have c5 := fun hb c R => hpSwap_ok (c := c) (R := R) (Pe g a0 a1 a2 a3 a4 a5 a6 (.slice A q cp)) A q cp l (k : Int) (2 * (k : Int) + 1 + 1) (by omega) hb
  rw [e1, e2] at c1
  rw [e1, Int.toNat_natCast] at c2 c4
  rw [e2, Int.toNat_natCast] at c3 c5
  repeat' ((conv => whnf) <;> (first | (refine LK.eff (Eff.callP (mSwap g) rfl rfl Ql (i := 0) rfl rfl (c5 (by omega) _ _)) ?_ <;> rintro _ _ ⟨rfl, rfl⟩) | (refine LK.eff (Eff.callP (mSwap g) rfl rfl Ql (i := 0) rfl rfl (c4 _ _)) ?_ <;> rintro _ _ ⟨rfl, rfl⟩) | (refine LK.eff (Eff.callP (mLess g) rfl rfl Ql (i := 0) rfl rfl (c3 (by omega) _ _)) ?_ <;> rintro _ _ ⟨rfl, rfl⟩) | (refine LK.eff (Eff.callP (mLess g) rfl rfl Ql (i := 0) rfl rfl (c2 _ _)) ?_ <;> rintro _ _ ⟨rfl, rfl⟩) | refine LK.callPW (mLess g) (i := 0) rfl rfl rfl ?_ (fun hw => c1 (by simp only [decide_eq_true_eq] at hw; omega) _ _) rfl rfl Ql ?_ | refine zM ?_ | refine zW ?_ | intro _ | exact zF | refine Br.tt ?_ | refine Br.ff ?_ | (refine Br.mk (fun h => ?_) (fun h => ?_) <;> (try simp only [sh] at h) <;> try first | (exfalso; omega) | exact absurd trivial h | (simp at h; done)) | refine zA ?_ | refine zN ?_ | refine zO ?_ | refine zP ?_ | refine zB ?_ | refine zQ ?_ | refine Quo.t Qw ?_ | refine lB ?_ | refine lBA ?_ | refine zK ?_ | refine s1 ?_ | refine sA ?_ | refine zC ?_ | exact True.intro | fail))
  ·conv => whnf
   rename_i h2
   refine .out _ (by exact Qs) (hend _ (i4.done fun x x0 x1 x2 => ?_))
   rcases hch x0 x2 with rfl | rfl <;> omega
  ·rename_i h2
   rw [e4]
   (conv => whnf); (refine Nxt.of ((2 * k + 2, swp l k (2 * k + 2))) [7, 8, 9, 10, 12, 13, 14, 15, 16, 17, 18, 19, 20, 21, 22, 23, 24, 25, 26, 27, 28, 29, 30, 31, 32, 33, 34, 35, 36, 37, 38, 39, 40, 41, 42, 43, 44] Qr Qr Qr ?_ ?_ Qy ?_ <;> (try dsimp only) <;> (try omega))
   ·refine ⟨by (try simp only); omega, by rw [swp_len]; exact i1, (swp_perm (by omega) (by omega)).trans i2, ?_, i4.step (by omega) (by omega) (by omega) (by unfold par; omega) (fun x x0 x1 x2 => ?_) (by assumption)⟩
    ·rw [swp_get (by omega) (by omega), if_neg (by omega), if_neg (by omega)]
     exact i3
    ·rcases hch x0 x2 with rfl | rfl <;> omega
   ·exact Qs
  ·conv => whnf
   rename_i h2
   refine .out _ (by exact Qs) (hend _ (i4.done fun x x0 x1 x2 => ?_))
   rcases hch x0 x2 with rfl | rfl <;> omega
  ·rename_i h2
   rw [e5]
   (conv => whnf); (refine Nxt.of ((2 * k + 1, swp l k (2 * k + 1))) [7, 8, 9, 10, 12, 13, 14, 15, 16, 17, 18, 19, 20, 21, 22, 23, 24, 25, 26, 27, 28, 29, 30, 31, 32, 33, 34, 35, 36, 37, 38, 39, 40, 41, 42, 43, 44] Qr Qr Qr ?_ ?_ Qy ?_ <;> (try dsimp only) <;> (try omega))
   ·refine ⟨by (try simp only); omega, by rw [swp_len]; exact i1, (swp_perm (by omega) (by omega)).trans i2, ?_, i4.step (by omega) (by omega) (by omega) (by unfold par; omega) (fun x x0 x1 x2 => ?_) (by assumption)⟩
    ·rw [swp_get (by omega) (by omega), if_neg (by omega), if_neg (by omega)]
     exact i3
    ·rcases hch x0 x2 with rfl | rfl <;> omega
   ·exact Qs
 ·repeat' ((conv => whnf) <;> (first | refine zM ?_ | refine zW ?_ | intro _ | exact zF | refine Br.tt ?_ | refine Br.ff ?_ | (refine Br.mk (fun h => ?_) (fun h => ?_) <;> (try simp only [sh] at h) <;> try first | (exfalso; omega) | exact absurd trivial h | (simp at h; done)) | refine zA ?_ | refine zN ?_ | refine zO ?_ | refine zP ?_ | refine zB ?_ | refine zQ ?_ | refine Quo.t Qw ?_ | refine lB ?_ | refine lBA ?_ | refine zK ?_ | refine s1 ?_ | refine sA ?_ | refine zC ?_ | exact True.intro | fail))
  ·conv => whnf
   refine .out _ (by exact Qs) (hend _ (i4.done fun x x0 x1 x2 => ?_))
   rcases hch x0 x2 with rfl | rfl <;> omega
theorem hpUp_ok2 {c : Ctx} {R : List Ent} (g : Nat) (a0 a1 a2 a3 a4 a5 a6 : AV) (A : Option Addr) (q cp : Nat) (us : List Int) (j : Nat) (v : Int) (e : v = j) (h : HUp us j) (hj : j < us.length) (hl : us.length ≤ 1000000) : FnL Tryz.prog c 101 [.v (iU g), I v] (Pe g a0 a1 a2 a3 a4 a5 a6 (.slice A q cp) :: Ui (.slice A q cp) us :: R) fun r L' => r = .tup [] ∧ ∃ us', us'.Perm us ∧ isHp us' us'.length ∧ L' = Pe g a0 a1 a2 a3 a4 a5 a6 (.slice A q cp) :: Ui (.slice A q cp) us' :: R := by
 rw [e]
 exact hpUp_ok g a0 a1 a2 a3 a4 a5 a6 A q cp us j h hj hl
theorem hpDown_ok2 {c : Ctx} {R : List Ent} (g : Nat) (a0 a1 a2 a3 a4 a5 a6 : AV) (A : Option Addr) (q cp : Nat) (us : List Int) (n : Nat) (v : Int) (e : v = n) (h : HDn us n 0) (hn : n < us.length) (hl : us.length ≤ 1000000) : FnL Tryz.prog c 74 [.v (iU g), I 0, I v] (Pe g a0 a1 a2 a3 a4 a5 a6 (.slice A q cp) :: Ui (.slice A q cp) us :: R) fun r L' => (∃ b, r = B b) ∧ ∃ us', us'.Perm us ∧ us'.getD n default = us.getD n default ∧ isHp us' n ∧ L' = Pe g a0 a1 a2 a3 a4 a5 a6 (.slice A q cp) :: Ui (.slice A q cp) us' :: R := by
 rw [e]
 exact hpDown_ok g a0 a1 a2 a3 a4 a5 a6 A q cp us n h hn hl
theorem hpPush_ok {c : Ctx} {R : List Ent} (g : Nat) (a0 a1 a2 a3 a4 a5 a6 : AV) (A : Option Addr) (q cp : Nat) (us : List Int) (x : Int) (h : isHp us us.length) (hl : us.length < 1000000) : FnL Tryz.prog c 73 [.v (iU g), .v (.iface 3 (.int .i64 x))] (Pe g a0 a1 a2 a3 a4 a5 a6 (.slice A q cp) :: Ui (.slice A q cp) us :: R) fun r L' => r = .tup [] ∧ ∃ A' q' cp' us', us'.Perm (us ++ [x]) ∧ isHp us' us'.length ∧ L' = Pe g a0 a1 a2 a3 a4 a5 a6 (.slice A' q' cp') :: Ui (.slice A' q' cp') us' :: R := by
 have c1 := fun c R => hpPushI_ok (c := c) (R := R) g a0 a1 a2 a3 a4 a5 a6 A q cp us x (by omega)
 have c2 := fun c R (A : Option Addr) q cp => hpLen_ok (c := c) (R := R) (Pe g a0 a1 a2 a3 a4 a5 a6 (.slice A q cp)) A q cp (us ++ [x])
 have c3 := fun c R A q cp => hpUp_ok2 (c := c) (R := R) g a0 a1 a2 a3 a4 a5 a6 A q cp (us ++ [x]) us.length (((us ++ [x]).length : Int) - 1) (by simp) (.push h) (by simp) (by simp; omega)
 have hl3 : (us ++ [x]).length = us.length + 1 := by simp
 refine fnL_run (T := tab) Tryz.func73 rfl Tryz.ntmps73 rfl Tryz.results73 (fun _ hw0 => ?_)
 repeat' ((conv => whnf) <;> (first | (refine LK.eff (Eff.callP (mLen g) rfl rfl Ql (i := 0) rfl rfl (c2 _ _ _ _ _)) ?_ <;> rintro _ _ ⟨rfl, rfl⟩) | (refine LK.eff (Eff.callI (mPush g) rfl rfl Ql (c1 _ _)) ?_ <;> rintro _ _ ⟨rfl, A2, q2, cp2, rfl⟩) | refine zM ?_ | refine zW ?_ | intro _ | exact zF | refine Br.tt ?_ | refine Br.ff ?_ | (refine Br.mk (fun h => ?_) (fun h => ?_) <;> (try simp only [sh] at h) <;> try first | (exfalso; omega) | exact absurd trivial h | (simp at h; done)) | refine zA ?_ | refine zN ?_ | refine zO ?_ | refine zP ?_ | refine zB ?_ | refine zQ ?_ | refine Quo.t Qw ?_ | (refine LK.callL ent101 (c3 _ _ _ _ _) rfl rfl Ql (fun _ _ hcall => ?_) <;> obtain ⟨rfl, us', hp1, hp2, rfl⟩ := hcall) | refine lB ?_ | refine lBA ?_ | refine zK ?_ | refine s1 ?_ | refine sA ?_ | refine zC ?_ | fail))
 conv => whnf
 exact .out _ (by exact Qs) ⟨rfl, _, _, _, _, hp1, hp2, rfl⟩
theorem hpPop_ok {c : Ctx} {R : List Ent} (g : Nat) (a0 a1 a2 a3 a4 a5 a6 : AV) (A : Option Addr) (q cp : Nat) (us : List Int) (h : isHp us us.length) (h0 : 0 < us.length) (hl : us.length < 1000000) : FnL Tryz.prog c 57 [.v (iU g)] (Pe g a0 a1 a2 a3 a4 a5 a6 (.slice A q cp) :: Ui (.slice A q cp) us :: R) fun r L' => (∃ v, r = .v v) ∧ ∃ q' us', (us.getD 0 default :: us').Perm us ∧ isHp us' us'.length ∧ L' = Pe g a0 a1 a2 a3 a4 a5 a6 (.slice A q' cp) :: Ui (.slice A q' cp) us' :: R := by
 have c1 := fun c R => hpLen_ok (c := c) (R := R) (Pe g a0 a1 a2 a3 a4 a5 a6 (.slice A q cp)) A q cp us
 have c2 := fun c R => hpSwap_ok (c := c) (R := R) (Pe g a0 a1 a2 a3 a4 a5 a6 (.slice A q cp)) A q cp us 0 ((us.length : Int) - 1) (by omega) (by omega)
 have e2 : ((us.length : Int) - 1).toNat = us.length - 1 := by omega
 rw [e2] at c2
 have c3 := fun c R => hpDown_ok2 (c := c) (R := R) g a0 a1 a2 a3 a4 a5 a6 A q cp (swp us 0 (us.length - 1)) (us.length - 1) ((us.length : Int) - 1) (by omega) (.pop h h0) (by rw [swp_len]; omega) (by rw [swp_len]; omega)
 have c4 := fun c R us' h0 hl => hpPopI_ok (c := c) (R := R) g a0 a1 a2 a3 a4 a5 a6 A q cp us' h0 hl
 have hsp := swp_perm (us := us) (i := 0) (j := us.length - 1) (by omega) (by omega)
 have hsg := swp_get (us := us) (i := 0) (j := us.length - 1) (by omega) (by omega) (us.length - 1)
 rw [if_pos rfl] at hsg
 refine fnL_run (T := tab) Tryz.func57 rfl Tryz.ntmps57 rfl Tryz.results57 (fun _ hw0 => ?_)
 repeat' ((conv => whnf) <;> (first | (refine LK.eff (Eff.callI (mPop g) rfl rfl Ql (c4 _ _ us' (by rw [(hp1.trans hsp).length_eq]; exact h0) (by rw [(hp1.trans hsp).length_eq]; omega))) ?_ <;> rintro _ _ ⟨rfl, q2, rfl⟩) | (refine LK.eff (Eff.callP (mSwap g) rfl rfl Ql (i := 0) rfl rfl (c2 _ _)) ?_ <;> rintro _ _ ⟨rfl, rfl⟩) | (refine LK.eff (Eff.callP (mLen g) rfl rfl Ql (i := 0) rfl rfl (c1 _ _)) ?_ <;> rintro _ _ ⟨rfl, rfl⟩) | refine zM ?_ | refine zW ?_ | intro _ | exact zF | refine Br.tt ?_ | refine Br.ff ?_ | (refine Br.mk (fun h => ?_) (fun h => ?_) <;> (try simp only [sh] at h) <;> try first | (exfalso; omega) | exact absurd trivial h | (simp at h; done)) | refine zA ?_ | refine zN ?_ | refine zO ?_ | refine zP ?_ | refine zB ?_ | refine zQ ?_ | refine Quo.t Qw ?_ | (refine LK.callL ent74 (c3 _ _) rfl rfl Ql (fun _ _ hcall => ?_) <;> obtain ⟨⟨b, rfl⟩, us', hp1, hp2, hp3, rfl⟩ := hcall) | refine lB ?_ | refine lBA ?_ | refine zK ?_ | refine s1 ?_ | refine sA ?_ | refine zC ?_ | fail))
 conv => whnf
 have hl2 := (hp1.trans hsp).length_eq
 have hp0 : 0 < us'.length := by omega
 have ht := take_last hp0
 rw [hl2, hp2, hsg] at ht
 refine .out _ (by exact Qs) ⟨⟨_, rfl⟩, _, _, ht.symm.trans (hp1.trans hsp), ?_, by rw [hl2]⟩
 exact hp_take hp3 (by omega)
end Go.Proofs.YtjfnkmlnbaianaaGreat
