/-
  Texts D3, D4, D5, DE, D6.
  Conditions: those of each theorem.
-/
import Derived.Test.YtjfnkmlnbaianaaGreatD1
import Derived.Test.YtjfnkmlnbaianaaGreatRO5
import Derived.Test.YtjfnkmlnbaianaaGreatDA
import Derived.Test.YtjfnkmlnbaianaaGreatE5I
namespace Go.Proofs.YtjfnkmlnbaianaaGreat
open Go.E2 Go.Wage
abbrev pt (g : Nat) : AV := .v (.pointer (some ⟨g, 0, none⟩))
def ltav (l : Lt) : AV := .agg [I l.du, I l.wk, B l.is]
theorem eqLt (x y : Lt) : (decide (x.du = y.du) && (decide (x.wk = y.wk) && ((x.is == y.is) && true))) = decide (x = y) := by
 rw [Bool.eq_iff_iff]
 simp only [Bool.and_eq_true, decide_eq_true_eq, beq_iff_eq, and_true]
 constructor
 ·intro h; cases x; cases y; simp_all
 ·rintro rfl; simp
theorem eL_inj {x y : Lt} (h : (Value.agg #[.int .i64 x.du, .int .i64 x.wk, .bool x.is]) = .agg #[.int .i64 y.du, .int .i64 y.wk, .bool y.is]) : x = y := by
 injection h with h
 have h2 := congrArg Array.toList h
 simp only [List.cons.injEq, Value.int.injEq, Value.bool.injEq, true_and, and_true] at h2
 obtain ⟨a, b, d⟩ := x
 obtain ⟨a', b', d'⟩ := y
 simp only at h2
 obtain ⟨rfl, rfl, rfl⟩ := h2
 rfl
def IsLt (a : Value) : Prop := ∃ l : Lt, a = .agg #[.int .i64 l.du, .int .i64 l.wk, .bool l.is]
abbrev eL (l : Lt) : Value := .agg #[.int .i64 l.du, .int .i64 l.wk, .bool l.is]
theorem keyL : KeyT Tryz.prog 47 IsLt := by
 have hI : Tryz.prog.underlying 3 = some (.int .i64) := Tryz.underlying3
 have hB : Tryz.prog.underlying 4 = some .bool := Tryz.underlying4
 have oI : OneT Tryz.prog 3 := one_of (T := tab) rfl rfl
 have oB : OneT Tryz.prog 4 := one_of (T := tab) rfl rfl
 refine key_wide (by rw [Tryz.underlying47]) ?_ ?_ ?_
 ·rintro e _ ⟨l, rfl⟩ w
  refine chk_struct Tryz.underlying47 (fun f hf => ?_) w
  simp only [List.mem_cons, List.not_mem_nil, or_false] at hf
  rcases hf with rfl | rfl | rfl
  ·exact ⟨by decide, _, fun w => ⟨part_one oI rfl w, chk_scalar hI rfl _ _ w⟩⟩
  ·exact ⟨by decide, _, fun w => ⟨part_one oI rfl w, chk_scalar hI rfl _ _ w⟩⟩
  ·exact ⟨by decide, _, fun w => ⟨part_one oB rfl w, chk_scalar hB rfl _ _ w⟩⟩
 ·rintro _ _ ⟨x, rfl⟩ ⟨y, rfl⟩
  refine ⟨decide (x = y), fun w => ?_, ?_⟩
  ·have := (eqs47 x.du y.du x.wk y.wk x.is y.is).out w
   rw [eqLt] at this
   rw [run_eql_struct] at this
   have e : Op.equal 47 (eL x) (eL y) = Op.equalIn 10000 47 (eL x) (eL y) := rfl
   rw [e]
   generalize (Op.equalIn 10000 47 (eL x) (eL y)).run Tryz.prog w = r at *
   cases r with
   | ok b w' => simp_all
   | halt a b => simp_all
  ·rw [decide_eq_true_eq]
   constructor
   ·rintro rfl; rfl
   ·exact eL_inj
 ·rintro _ ⟨x, rfl⟩
  have : ∀ n, Instr.sameBits (n + 1) (eL x) (eL x) = true := fun n => by simp [Instr.sameBits]
  exact this 9999
theorem mapLK : MapK Tryz.prog 80 47 4 eL IsLt := ⟨Tryz.underlying80, keyL, fun x => ⟨x, rfl⟩, fun _ _ h => eL_inj h⟩
def Held (held : List Lt) (M : List (Lt × Bool)) : Prop := ∀ x, lk x M = if x ∈ held then some true else none
theorem Held.nil : Held [] [] := fun _ => rfl
theorem Held.put {held : List Lt} {M : List (Lt × Bool)} (h : Held held M) (x : Lt) : Held (x :: held) (ups x true M) := fun y => by
 rw [lk_ups, h y]
 by_cases e : y = x
 ·rw [if_pos e, if_pos (by simp [e])]
 ·rw [if_neg e]
  by_cases hm : y ∈ held
  ·rw [if_pos hm, if_pos (by simp [hm])]
  ·rw [if_neg hm, if_neg (by simp [e, hm])]
theorem Held.cong {a b : List Lt} {M : List (Lt × Bool)} (h : Held a M) (hab : ∀ x, x ∈ a ↔ x ∈ b) : Held b M := fun y => by
 rw [h y]
 by_cases e : y ∈ a
 ·rw [if_pos e, if_pos ((hab y).1 e)]
 ·rw [if_neg e, if_neg fun h => e ((hab y).2 h)]
theorem Held.get {held : List Lt} {M : List (Lt × Bool)} (h : Held held M) (x : Lt) : (lk x M).getD false = held.contains x := by
 rw [h x]
 by_cases e : x ∈ held
 ·rw [if_pos e]; simp [e]
 ·rw [if_neg e]; simp [e]
theorem mapPL : MapK Tryz.prog 81 47 55 eL IsLt := ⟨Tryz.underlying81, keyL, fun x => ⟨x, rfl⟩, fun _ _ h => eL_inj h⟩
theorem dmNeg_ok (l : Lt) : FnA Tryz.prog 55 [ltav l] (ltav (negL l)) := by
 refine fn_run (T := tab) Tryz.func55 rfl Tryz.ntmps55 rfl Tryz.results55 (fun _ => ?_)
 repeat' ((conv => whnf) <;> (first | refine zM ?_ | refine zW ?_ | intro _ | exact zF | refine Fin.pure ?_ | refine Br.tt ?_ | refine Br.ff ?_ | (refine Br.mk (fun h => ?_) (fun h => ?_) <;> (try simp only [sh] at h) <;> try first | (exfalso; omega) | exact absurd trivial h | (simp at h; done)) | refine zA ?_ | refine zN ?_ | refine zO ?_ | refine zP ?_ | refine zB ?_ | refine lB ?_ | refine lBA ?_ | refine rA ?_ | refine r1 ?_ | refine zK ?_ | refine s1 ?_ | refine sA ?_ | refine zC ?_ | fail))
abbrev Pb (g : Nat) (a0 a1 a2 a3 a4 a5 : AV) (f : Int) (v : Value) : Ent := Pe g a0 a1 a2 a3 a4 a5 (I f) v
abbrev Ro (v : Value) (opn : List Int) : Ent := .row v 3 1 0 false (opn.map I)
abbrev Rs (v : Value) (sat : List Bool) : Ent := .row v 4 1 0 false (sat.map B)
abbrev Li (v : Value) (out : List Lt) : Ent := .row v 47 3 0 false (out.map ltav)
set_option maxRecDepth 4000 in
set_option maxHeartbeats 4000000 in
theorem dmExam_ok {c : Ctx} {R : List Ent} (g : Nat) (a0 a1 a2 a3 a5 : AV) (O : Value) (f : Int) (A : Option Addr) (q cp : Nat) (us opn : List Int) (i : Nat) (hi : i < opn.length) (hq : isHp us us.length) (hl : us.length < 1000000) :
  FnL Tryz.prog c 54 [pt g, I i] (Pb g a0 a1 a2 a3 (.v O) a5 f (.slice A q cp) :: Ui (.slice A q cp) us :: Ro O opn :: R) fun r L' => r = .tup [] ∧ ∃ A' q' cp' us', us'.Perm (uniE us (opn.getD i default) i) ∧ isHp us' us'.length ∧ L' = Pb g a0 a1 a2 a3 (.v O) a5 (falE f (opn.getD i default) i) (.slice A' q' cp') :: Ui (.slice A' q' cp') us' :: Ro O opn :: R := by
 have hlo : (opn.map I).length = opn.length := by simp
 have c1 := fun c => hpPush_ok (c := c) (R := Ro O opn :: R) g a0 a1 a2 a3 (.v O) a5 (I f) A q cp us i hq hl
 refine fnL_run (T := tab) Tryz.func54 rfl Tryz.ntmps54 rfl Tryz.results54 (fun _ hw0 => ?_)
 repeat' ((conv => whnf) <;> (first | refine LK.gr (Gr.mkIfaceV ⟨_, Tryz.underlying3, by simp⟩ rfl) ?_ | refine LK.gr (Gr.mkIfaceV ⟨_, Tryz.underlying119, by simp⟩ rfl) ?_ | refine iR (T := tab) ?_ | refine zM ?_ | refine zW ?_ | intro _ | exact zF | refine Br.tt ?_ | refine Br.ff ?_ | (refine Br.mk (fun h => ?_) (fun h => ?_) <;> (try simp only [sh] at h) <;> try first | (exfalso; omega) | exact absurd trivial h | (simp at h; done)) | refine zA ?_ | refine zN ?_ | refine zO ?_ | refine zP ?_ | refine zB ?_ | (refine LK.callL ent73 (c1 _) rfl rfl Ql (fun _ _ hcall => ?_) <;> obtain ⟨rfl, A2, q2, cp2, us2, hp1, hp2, rfl⟩ := hcall) | refine LK.callLW ent73 rfl ?_ (fun h => c1 _) rfl rfl Ql ?_ | refine lB ?_ | refine lBA ?_ | refine rA ?_ | refine r1 ?_ | refine lM ?_ | refine lM0 ?_ | refine lMA ?_ | refine sM ?_ | refine zK ?_ | refine s1 ?_ | refine sA ?_ | refine zC ?_ | exact True.intro | fail))
 ·conv => whnf
  rename_i h0
  refine .out _ (by exact Qs) ⟨rfl, A, q, cp, us, ?_, hq, ?_⟩
  ·rw [uniE, if_neg (by omega)]
  ·rw [falE, if_pos ⟨h0, h⟩]; rfl
 ·conv => whnf
  rename_i h0
  refine .out _ (by exact Qs) ⟨rfl, A, q, cp, us, ?_, hq, ?_⟩
  ·rw [uniE, if_neg (by omega)]
  ·rw [falE, if_neg (by omega)]
 ·conv => whnf
  refine .out _ (by exact Qs) ⟨rfl, A2, q2, cp2, us2, ?_, hp2, ?_⟩
  ·rw [uniE, if_pos h]; exact hp1
  ·rw [falE, if_neg (by omega)]
 ·conv => whnf
  rename_i h0
  refine .out _ (by exact Qs) ⟨rfl, A, q, cp, us, ?_, hq, ?_⟩
  ·rw [uniE, if_neg (by omega)]
  ·rw [falE, if_neg (by omega)]
end Go.Proofs.YtjfnkmlnbaianaaGreat
namespace Go.Proofs.YtjfnkmlnbaianaaGreat
open Go.E2 Go.Wage
theorem set_Bt (l : List Bool) (a : Nat) : (l.map B).set a ((B (l.getD a default)).setCell 0 (B true)) = (l.set a true).map B := by
 rw [List.map_set]; rfl
theorem set_Id (l : List Int) (a : Nat) (x : Int) : (l.map I).set a ((I (l.getD a default)).setCell 0 (I x)) = (l.set a x).map I := by
 rw [List.map_set]; rfl
abbrev SL (g gs gm : Nat) (a3 : AV) (O T : Value) (opn : List Int) (sat : List Bool) (f : Int) (u : Value) (us : List Int) (l : Value) (out : List Lt) (M : List (Lt × Bool)) (D : List (Lt × List Nat)) (R : List Ent) : List Ent :=
 Pb g (.v l) (.v (.map (some gs))) (.v (.map (some gm))) a3 (.v O) (.v T) f u :: Ui u us :: Ro O opn :: Rs T sat :: Li l out :: .mp gs (encM eL B M) :: .mp gm (encM eL slN D) :: R
theorem dec_bd {cs : List (List Lt)} {out : List Lt} {x : Lt} {k j : Nat} (hb : ∀ c ∈ cs, c.length ≤ 1000) (hj : j < cs.length) : (decS (opnS cs out) ((plc cs (negL x)).take k)).getD j default ≤ 1000 := by
 rw [decS_get ((plc_nodup cs (negL x)).sublist (List.take_sublist _ _)) (by rw [opnS_len]; exact hj), opnS_get hj]
 have h1 : cs.getD j default ∈ cs := by simp [List.getD, hj]
 have h2 := hb _ h1
 have h3 : (opnL out (cs.getD j default)).length ≤ (cs.getD j default).length := by
  rw [opnL_eq]
  exact Nat.le_trans (List.length_filter_le _ _) (ddL_len _)
 split <;> omega
set_option maxRecDepth 4000 in
set_option maxHeartbeats 8000000 in
theorem dmAdd_ok {c : Ctx} {R : List Ent} (g gs gm : Nat) (a3 : AV) (O T : Value) (cs : List (List Lt)) (out : List Lt) (x : Lt) (f : Int) (A : Option Addr) (q cp : Nat) (us : List Int) (Al : Option Addr) (ql cl : Nat) (M : List (Lt × Bool)) (D : List (Lt × List Nat))
  (hM : Held out M) (hD : ∀ y, (lk y D).getD [] = plc cs y) (hP : PS cs out (fun i => x ∈ cs.getD i default) f us) (hc : cs.length ≤ 1000) (hb : ∀ c ∈ cs, c.length ≤ 1000) (ho : out.length ≤ 100000) :
  FnL Tryz.prog c 32 [pt g, ltav x] (SL g gs gm a3 O T (opnS cs out) (satS cs out) f (.slice A q cp) us (.slice Al ql cl) out M D R) fun r L' => r = .tup [] ∧ ∃ f' A' q' cp' us' Al' ql' cl' M', Held (out ++ [x]) M' ∧ PS cs (out ++ [x]) (fun _ => False) f' us' ∧
   L' = SL g gs gm a3 O T (opnS cs (out ++ [x])) (satS cs (out ++ [x])) f' (.slice A' q' cp') us' (.slice Al' ql' cl') (out ++ [x]) M' D R := by
 have hlo : (out.map ltav).length = out.length := by simp
 have hlp : ((plc cs x).map In).length = (plc cs x).length := by simp
 have hlq : ((plc cs (negL x)).map In).length = (plc cs (negL x)).length := by simp
 have hpl := plc_len cs x
 have hql := plc_len cs (negL x)
 have hox : out.map ltav ++ [ltav x] = (out ++ [x]).map ltav := by rw [List.map_append]; rfl
 have hg := hM.get x
 have c1 := dmNeg_ok x
 refine fnL_run (T := tab) Tryz.func32 rfl Tryz.ntmps32 rfl Tryz.results32 (fun _ hw0 => ?_)
 repeat' ((conv => whnf) <;> (first | refine Ask.of (Gr.ofEq (r' := slN (plc cs x)) (Gr.mget (l := D) (ev := slN) (x := x) (dflt := []) mapPL rfl (fun _ => relN) 7 rfl rfl rfl (by exact rfl)).1 (congrArg slN (hD x))) ?_ | (refine Kx.eff rfl (Eff.mset (l := M) (ev := B) mapLK 6 rfl rfl rfl (x := x) (v := true) rfl rfl) (by rintro _ _ ⟨rfl, rfl⟩; exact Qs) ?_ <;> rintro _ _ ⟨rfl, rfl⟩) | refine LK.gr (Gr.mget (l := M) (ev := B) (x := x) (dflt := false) mapLK rfl (fun _ => .v _) 6 rfl rfl rfl (by exact rfl)).1 ?_ | refine CK.anyK (id := 4) [0, 1, 2, 3, 4, 5, 6, 7] [] _ (List.Sublist.refl _) Qk ?_ | refine CK.anyK (id := 3) [0, 1, 2, 3, 4] [5] _ (List.Sublist.cons_cons _ (List.Sublist.cons_cons _ (List.Sublist.cons_cons _ (List.Sublist.cons_cons _ (List.Sublist.cons_cons _ (List.Sublist.cons_cons _ (List.Sublist.cons _ (List.Sublist.refl _)))))))) Qk ?_ | refine CK.anyK (id := 1) [0, 1, 2, 3, 5, 6] [4, 7, 8, 9, 10] _ (List.Sublist.cons_cons _ (List.Sublist.cons _ (List.Sublist.cons_cons _ (List.Sublist.cons_cons _ (List.Sublist.cons_cons _ (List.Sublist.cons _ (List.Sublist.refl _))))))) Qk ?_ | refine zM ?_ | refine zW ?_ | intro _ | exact zF | refine Br.tt ?_ | refine Br.ff ?_ | (refine Br.mk (fun h => ?_) (fun h => ?_) <;> (try simp only [sh] at h) <;> try first | (exfalso; omega) | exact absurd trivial h | (simp at h; done)) | refine zA ?_ | refine zN ?_ | refine zO ?_ | refine zP ?_ | refine zB ?_ | refine lB ?_ | refine lBA ?_ | refine zK ?_ | refine s1 ?_ | refine sA ?_ | refine pS ?_ | refine LK.gr (Gr.bslV rfl rfl rfl rfl) ?_ | refine Ask.of (Gr.bslV rfl rfl rfl rfl) ?_ | refine Kx.nil ?_ | refine Kx.stp rfl rfl Qs ?_ | refine kA ?_ | refine kS ?_ | (refine Kx.frzR 0 rfl ?_ <;> refine kF ?_) | refine kP ?_ | refine k1 ?_ | refine kB ?_ | refine kL ?_ | refine zC ?_ | refine zD ?_ | fail))
 ·conv => whnf
  rename_i b A2 q2 cp2
  have hx : x ∈ out := by
   rw [hg, List.contains_iff_mem] at h
   exact h
  refine .out _ (List.Sublist.cons _ (List.Sublist.refl _)) ⟨rfl, f, A, q, cp, us, A2, q2, cp2, M, hM.cong fun y => ?_, hP.dup hx, ?_⟩
  ·rw [List.mem_append, List.mem_singleton]
   exact ⟨.inl, fun hh => hh.elim id fun e => by rw [e]; exact hx⟩
  ·have e : Li (.slice A2 q2 cp2) (out ++ [x]) = .row (.slice A2 q2 cp2) 47 3 0 false (out.map ltav ++ [ltav x]) := by rw [Li, hox]
   rw [opnS_dup hx, satS_dup hx]; unfold SL; rw [e]; rfl
 ·rename_i b A2 q2 cp2
  have hx : x ∉ out := fun hx => by
   rw [hg, List.contains_eq_mem, decide_eq_false_iff_not] at h
   exact h hx
  (conv => whnf); refine CK.loopK [5, 36, 37, 38, 39, 40, 41, 42, 43, 44, 45, 46] (σ := Nat) (fun k => k ≤ (plc cs x).length) (fun k => [(36, I k)]) (fun k => [.blk b 47 false [I x.du, I x.wk, B x.is], Pb g (.v (.slice A2 q2 cp2)) (.v (.map (some gs))) (.v (.map (some gm))) a3 (.v O) (.v T) f (.slice A q cp), Ui (.slice A q cp) us, Ro O (opnS cs out), Rs T (setS (satS cs out) ((plc cs x).take k)), .row (.slice A2 q2 cp2) 47 3 0 false (out.map ltav ++ [ltav x]), .mp gs (encM eL B (ups x true M)), .mp gm (encM eL slN D)]) R (fun k => (plc cs x).length - k) 0 (Nat.zero_le _) Qy (List.Sublist.refl _) ?_
  conv => whnf
  rintro k hk
  have hls0 : (setS (satS cs out) ((plc cs x).take k)).length = cs.length := by rw [setS_len, satS_len]
  have hls : ((setS (satS cs out) ((plc cs x).take k)).map B).length = cs.length := by rw [List.length_map, setS_len, satS_len]
  by_cases hkl : k < (plc cs x).length
  ·have hm : (plc cs x).getD k default < cs.length := (plc_mem.1 (by rw [getD_at' hkl]; exact List.getElem_mem _)).1
   have hst := set_Bt (setS (satS cs out) ((plc cs x).take k)) (((plc cs x).getD k default : Nat) : Int).toNat
   repeat' ((conv => whnf) <;> (first | refine LK.stRM (a := (((plc cs x).getD k default : Nat) : Int).toNat) (j := 0) 4 rfl rfl rfl rfl rfl (Nat.zero_le _) (by omega) rfl rfl ?_ | refine zM ?_ | refine zW ?_ | intro _ | exact zF | refine Br.tt ?_ | refine Br.ff ?_ | (refine Br.mk (fun h => ?_) (fun h => ?_) <;> (try simp only [sh] at h) <;> try first | (exfalso; omega) | exact absurd trivial h | (simp at h; done)) | refine zA ?_ | refine zN ?_ | refine zO ?_ | refine zP ?_ | refine zB ?_ | refine lB ?_ | refine lBA ?_ | refine nR ?_ | refine iR ?_ | refine lR ?_ | refine lR0 ?_ | refine lRA ?_ | refine zK ?_ | refine s1 ?_ | refine sA ?_ | refine LK.bsl rfl rfl rfl rfl ?_ | (refine LK.frzR 0 rfl ?_ <;> refine pF ?_) | refine pA ?_ | refine sR ?_ | refine zC ?_ | fail))
   (conv => whnf); (refine Nxt.of (k + 1) [5, 36, 37, 38, 39, 40, 41, 42, 43, 44, 45, 46] Qr Qr Qr ?_ ?_ Qy ?_ <;> (try dsimp only) <;> (try omega))
   rw [hst, take_snocD hkl, setS_snoc, Int.toNat_natCast]
   exact Qs
  ·obtain rfl : k = (plc cs x).length := by omega
   rw [List.take_length, setS_all]
   repeat' ((conv => whnf) <;> (first | refine Ask.of (Gr.ofEq (r' := slN (plc cs (negL x))) (Gr.mget (l := D) (ev := slN) (x := negL x) (dflt := []) mapPL rfl (fun _ => relN) 7 rfl rfl rfl (by exact rfl)).1 (congrArg slN (hD (negL x)))) ?_ | refine CK.anyK (id := 9) [0, 1, 2, 3, 4, 5, 6, 7, 8] [] _ (List.Sublist.refl _) Qk ?_ | refine zM ?_ | refine zW ?_ | intro _ | exact zF | refine Br.tt ?_ | refine Br.ff ?_ | (refine Br.mk (fun h => ?_) (fun h => ?_) <;> (try simp only [sh] at h) <;> try first | (exfalso; omega) | exact absurd trivial h | (simp at h; done)) | refine zA ?_ | refine zN ?_ | refine zO ?_ | refine zP ?_ | refine zB ?_ | refine zL ent55 c1 ?_ | refine zG ent55 (fun h => c1) ?_ | refine lB ?_ | refine lBA ?_ | refine zK ?_ | refine s1 ?_ | refine sA ?_ | refine Kx.nil ?_ | refine Kx.stp rfl rfl Qs ?_ | refine kA ?_ | (refine Kx.frzR 0 rfl ?_ <;> refine kF ?_) | refine kP ?_ | refine k1 ?_ | refine kB ?_ | refine kL ?_ | refine zC ?_ | fail))
   (conv => whnf); refine CK.loopK [7, 55, 56, 57, 58, 59, 60, 61, 62, 63, 64, 65, 66, 67, 68, 69, 70, 71] (σ := Nat × Int × Option Addr × Nat × Nat × List Int) (fun s => s.1 ≤ (plc cs (negL x)).length ∧ PK cs out x s.1 s.2.1 s.2.2.2.2.2) (fun ⟨k, _⟩ => [(55, I k)]) (fun ⟨k, f, A, q, cp, us⟩ => [Pb g (.v (.slice A2 q2 cp2)) (.v (.map (some gs))) (.v (.map (some gm))) a3 (.v O) (.v T) f (.slice A q cp), Ui (.slice A q cp) us, Ro O (decS (opnS cs out) ((plc cs (negL x)).take k)), Rs T (satS cs (out ++ [x])), .row (.slice A2 q2 cp2) 47 3 0 false (out.map ltav ++ [ltav x]), .mp gs (encM eL B (ups x true M)), .mp gm (encM eL slN D)]) R (fun s => (plc cs (negL x)).length - s.1) (0, f, A, q, cp, us) ⟨Nat.zero_le _, PK.zero hP⟩ Qy (List.Sublist.cons _ (List.Sublist.refl _)) ?_
   conv => whnf
   rintro ⟨k, f, A, q, cp, us⟩ ⟨i1, i2⟩
   simp only at i1 i2
   have hlo0 : (decS (opnS cs out) ((plc cs (negL x)).take k)).length = cs.length := by rw [decS_len, opnS_len]
   have hlo2 : ((decS (opnS cs out) ((plc cs (negL x)).take k)).map I).length = cs.length := by rw [List.length_map, decS_len, opnS_len]
   have hul := i2.i.len
   rw [decS_len, opnS_len] at hul
   by_cases hkl : k < (plc cs (negL x)).length
   ·have hm := dec_pos hx hkl
    have hd := dec_bd (out := out) (x := x) (k := k) hb hm.1
    have hst := set_Id (decS (opnS cs out) ((plc cs (negL x)).take k)) (((plc cs (negL x)).getD k default : Nat) : Int).toNat
    have et : (((plc cs (negL x)).getD k default : Nat) : Int).toNat = (plc cs (negL x)).getD k default := Int.toNat_natCast _
    have hv1 : 1 ≤ (decS (opnS cs out) ((plc cs (negL x)).take k)).getD (((plc cs (negL x)).getD k default : Nat) : Int).toNat default := by rw [et]; exact hm.2
    have hv2 : (decS (opnS cs out) ((plc cs (negL x)).take k)).getD (((plc cs (negL x)).getD k default : Nat) : Int).toNat default ≤ 1000 := by rw [et]; exact hd
    repeat' ((conv => whnf) <;> (first | refine LK.stRM (a := (((plc cs (negL x)).getD k default : Nat) : Int).toNat) (j := 0) 2 rfl rfl rfl rfl rfl (Nat.zero_le _) (by omega) rfl rfl ?_ | refine iR (T := tab) ?_ | refine zM ?_ | refine zW ?_ | intro _ | exact zF | refine Br.tt ?_ | refine Br.ff ?_ | (refine Br.mk (fun h => ?_) (fun h => ?_) <;> (try simp only [sh] at h) <;> try first | (exfalso; omega) | exact absurd trivial h | (simp at h; done)) | refine zA ?_ | refine zN ?_ | refine zO ?_ | refine zP ?_ | refine zB ?_ | refine lB ?_ | refine lBA ?_ | refine lM ?_ | refine lM0 ?_ | refine lMA ?_ | refine sM ?_ | refine nR ?_ | refine iR ?_ | refine lR ?_ | refine lR0 ?_ | refine lRA ?_ | refine zK ?_ | refine s1 ?_ | refine sA ?_ | refine LK.bsl rfl rfl rfl rfl ?_ | (refine LK.frzR 0 rfl ?_ <;> refine pF ?_) | refine pA ?_ | refine sR ?_ | refine zC ?_ | fail))
    rw [hst, et]
    have hsg := set_getD (l := decS (opnS cs out) ((plc cs (negL x)).take k)) (i := (plc cs (negL x)).getD k default) (k := (plc cs (negL x)).getD k default) (v := (decS (opnS cs out) ((plc cs (negL x)).take k)).getD ((plc cs (negL x)).getD k default) default - 1) (by omega)
    rw [if_pos rfl] at hsg
    have c2 := fun c R a0 a1 a2 => dmExam_ok (c := c) (R := R) g a0 a1 a2 a3 (.v T) O f A q cp us ((decS (opnS cs out) ((plc cs (negL x)).take k)).set ((plc cs (negL x)).getD k default) ((decS (opnS cs out) ((plc cs (negL x)).take k)).getD ((plc cs (negL x)).getD k default) default - 1)) ((plc cs (negL x)).getD k default) (by rw [List.length_set]; omega) i2.i.hp (by omega)
    rw [hsg] at c2
    repeat' ((conv => whnf) <;> (first | refine zM ?_ | refine zW ?_ | intro _ | exact zF | refine Br.tt ?_ | refine Br.ff ?_ | (refine Br.mk (fun h => ?_) (fun h => ?_) <;> (try simp only [sh] at h) <;> try first | (exfalso; omega) | exact absurd trivial h | (simp at h; done)) | refine zA ?_ | refine zN ?_ | refine zO ?_ | refine zP ?_ | refine zB ?_ | (refine LK.callL ent54 (c2 _ _ _ _ _) rfl rfl Ql (fun _ _ hcall => ?_) <;> obtain ⟨rfl, A3, q3, cp3, us3, hp1, hp2, rfl⟩ := hcall) | refine lB ?_ | refine lBA ?_ | refine zK ?_ | refine s1 ?_ | refine sA ?_ | refine zC ?_ | fail))
    (conv => whnf); (refine Nxt.of ((k + 1, falE f ((decS (opnS cs out) ((plc cs (negL x)).take k)).getD ((plc cs (negL x)).getD k default) default - 1) ((plc cs (negL x)).getD k default : Nat), A3, q3, cp3, us3)) [7, 55, 56, 57, 58, 59, 60, 61, 62, 63, 64, 65, 66, 67, 68, 69, 70, 71] Qr Qr Qr ?_ ?_ Qy ?_ <;> (try dsimp only) <;> (try omega))
    ·exact ⟨hkl, i2.step hx hkl rfl hp1 hp2⟩
    ·rw [take_snocD hkl, decS_snoc]
     exact Qs
   ·obtain rfl : k = (plc cs (negL x)).length := by omega
    repeat' ((conv => whnf) <;> (first | refine zM ?_ | refine zW ?_ | intro _ | exact zF | refine Br.tt ?_ | refine Br.ff ?_ | (refine Br.mk (fun h => ?_) (fun h => ?_) <;> (try simp only [sh] at h) <;> try first | (exfalso; omega) | exact absurd trivial h | (simp at h; done)) | refine zA ?_ | refine zN ?_ | refine zO ?_ | refine zP ?_ | refine zB ?_ | refine lB ?_ | refine lBA ?_ | refine zK ?_ | refine s1 ?_ | refine sA ?_ | refine zC ?_ | fail))
    conv => whnf
    have e : Li (.slice A2 q2 cp2) (out ++ [x]) = .row (.slice A2 q2 cp2) 47 3 0 false (out.map ltav ++ [ltav x]) := by rw [Li, hox]
    refine .out _ (List.Sublist.refl _) ⟨rfl, f, A, q, cp, us, A2, q2, cp2, ups x true M, (hM.put x).cong fun y => ?_, i2.done hx, ?_⟩
    ·rw [List.mem_append, List.mem_singleton, List.mem_cons]
     exact or_comm
    ·dsimp only
     rw [List.take_length, decS_all hx]
     unfold SL
     rw [e]
     rfl
end Go.Proofs.YtjfnkmlnbaianaaGreat
namespace Go.Proofs.YtjfnkmlnbaianaaGreat
open Go.E2 Go.Wage
abbrev clA (cs : List (List Lt)) : AV := .sl 1 (cs.map fun c => .sl 3 ((ddL c).map ltav))
set_option maxRecDepth 4000 in
set_option maxHeartbeats 8000000 in
theorem dmNext_ok {c : Ctx} {R : List Ent} (g gs gm : Nat) (O T : Value) (cs : List (List Lt)) (out : List Lt) (f : Int) (A : Option Addr) (q cp : Nat) (us : List Int) (l : Value) (M : List (Lt × Bool)) (D : List (Lt × List Nat))
  (hM : Held out M) (hP : PS cs out (fun _ => False) f us) (hf : f < 0) (hc : cs.length ≤ 1000) (hb : ∀ c ∈ cs, c.length ≤ 1000) :
  FnL Tryz.prog c 33 [pt g] (SL g gs gm (clA cs) O T (opnS cs out) (satS cs out) f (.slice A q cp) us l out M D R) fun r L' => (∃ u q' us', cs.findIdx? (uniC out) = some u ∧ r = .tup [ltav (litC out (cs.getD u default)), B true] ∧ PS cs out (fun i => litC out (cs.getD u default) ∈ cs.getD i default) f us' ∧ L' = SL g gs gm (clA cs) O T (opnS cs out) (satS cs out) f (.slice A q' cp) us' l out M D R) ∨
   (cs.findIdx? (uniC out) = none ∧ ∃ q' us', r = .tup [ltav ⟨0, 0, false⟩, B false] ∧ PS cs out (fun _ => False) f us' ∧ L' = SL g gs gm (clA cs) O T (opnS cs out) (satS cs out) f (.slice A q' cp) us' l out M D R) := by
 have hcl : (cs.map fun c => AV.sl 3 ((ddL c).map ltav)).length = cs.length := by simp
 have hsl : ((satS cs out).map B).length = cs.length := by rw [List.length_map, satS_len]
 have hs0 := satS_len cs out
 refine fnL_run (T := tab) Tryz.func33 rfl Tryz.ntmps33 rfl Tryz.results33 (fun _ hw0 => ?_)
 repeat' ((conv => whnf) <;> (first | refine CK.label ?_ | refine CK.scope ?_ | refine zM ?_ | refine zW ?_ | intro _ | exact zF | refine Br.tt ?_ | refine Br.ff ?_ | (refine Br.mk (fun h => ?_) (fun h => ?_) <;> (try simp only [sh] at h) <;> try first | (exfalso; omega) | exact absurd trivial h | (simp at h; done)) | refine zA ?_ | refine zN ?_ | refine zO ?_ | refine zP ?_ | refine zB ?_ | refine lB ?_ | refine lBA ?_ | refine rA ?_ | refine r1 ?_ | refine zK ?_ | refine s1 ?_ | refine sA ?_ | refine zC ?_ | fail))
 rename_i b0
 conv => whnf
 refine CK.perm (List.Perm.symm <| List.perm_middle (a := .blk b0 47 false [I 0, I 0, B false]) (l₁ := [Pb g (.v l) (.v (.map (some gs))) (.v (.map (some gm))) (clA cs) (.v O) (.v T) f (.slice A q cp), Ui (.slice A q cp) us]) (l₂ := Ro O (opnS cs out) :: Rs T (satS cs out) :: Li l out :: .mp gs (encM eL B M) :: .mp gm (encM eL slN D) :: R)) ?_
 (conv => whnf); refine CK.loopK [3, 4, 6, 7, 8, 9, 10, 11, 12, 13, 14, 15, 16, 17, 18, 19, 20, 21, 22, 23, 24, 25, 26, 27, 28, 29, 30, 31, 32, 33, 34, 35, 36, 37, 38, 39, 40, 41, 42, 43, 44, 45, 46, 47, 48, 49, 50, 51, 52, 53, 54] (σ := Nat × List Int) (fun s => PS cs out (fun _ => False) f s.2) (fun _ => []) (fun ⟨q, us⟩ => [Pb g (.v l) (.v (.map (some gs))) (.v (.map (some gm))) (clA cs) (.v O) (.v T) f (.slice A q cp), Ui (.slice A q cp) us, .blk b0 47 false [I 0, I 0, B false], Ro O (opnS cs out), Rs T (satS cs out), Li l out, .mp gs (encM eL B M), .mp gm (encM eL slN D)]) R (fun s => s.2.length) (q, us) hP Qy (List.Sublist.refl _) ?_
 conv => whnf
 rintro ⟨q, us⟩ hP
 simp only at hP
 have hul := hP.i.len
 rw [opnS_len] at hul
 have c1 := fun c R a0 a1 a2 a3 a4 a5 a6 => hpLen_ok (c := c) (R := R) (Pe g a0 a1 a2 a3 a4 a5 a6 (.slice A q cp)) A q cp us
 by_cases h0 : 0 < us.length
 ·have hr : 0 ≤ us.getD (Int.toNat 0) default ∧ us.getD (Int.toNat 0) default < cs.length := hP.rng h0
  have c2 := fun c R a0 a1 a2 a3 a4 a5 a6 => hpPop_ok (c := c) (R := R) g a0 a1 a2 a3 a4 a5 a6 A q cp us hP.i.hp h0 (by omega)
  have hlu : (us.map I).length = us.length := by simp
  have hsg := satS_get (cs := cs) (out := out) (i := (us.getD (Int.toNat 0) default).toNat) (by omega)
  have hcm : cs.getD (us.getD (Int.toNat 0) default).toNat default ∈ cs := by rw [getD_at' (by omega)]; exact List.getElem_mem _
  have hcb := hb _ hcm
  have hdl := ddL_len (cs.getD (us.getD (Int.toNat 0) default).toNat default)
  have hll : ((ddL (cs.getD (us.getD (Int.toNat 0) default).toNat default)).map ltav).length = (ddL (cs.getD (us.getD (Int.toNat 0) default).toNat default)).length := by simp
  repeat' ((conv => whnf) <;> (first | refine LK.gr (Gr.mkIfaceV ⟨_, Tryz.underlying119, by simp⟩ rfl) ?_ | refine iR (T := tab) ?_ | refine zM ?_ | refine zW ?_ | intro _ | exact zF | refine Br.tt ?_ | refine Br.ff ?_ | (refine Br.mk (fun h => ?_) (fun h => ?_) <;> (try simp only [sh] at h) <;> try first | (exfalso; omega) | exact absurd trivial h | (simp at h; done)) | refine zA ?_ | refine zN ?_ | refine zO ?_ | refine zP ?_ | refine zB ?_ | (refine LK.callL ent56 (c1 _ _ _ _ _ _ _ _ _) rfl rfl Ql (fun _ _ hcall => ?_) <;> obtain ⟨rfl, rfl⟩ := hcall) | refine LK.callLW ent56 rfl ?_ (fun h => c1 _ _ _ _ _ _ _ _ _) rfl rfl Ql ?_ | (refine LK.callL ent57 (c2 _ _ _ _ _ _ _ _ _) rfl rfl Ql (fun _ _ hcall => ?_) <;> obtain ⟨⟨v, rfl⟩, q2, us2, hp1, hp2, rfl⟩ := hcall) | refine LK.callLW ent57 rfl ?_ (fun h => c2 _ _ _ _ _ _ _ _ _) rfl rfl Ql ?_ | refine lB ?_ | refine lBA ?_ | refine rA ?_ | refine r1 ?_ | refine lM ?_ | refine lM0 ?_ | refine lMA ?_ | refine sM ?_ | refine nR ?_ | refine iR ?_ | refine lR ?_ | refine lR0 ?_ | refine lRA ?_ | refine zK ?_ | refine s1 ?_ | refine sA ?_ | refine LK.bsl rfl rfl rfl rfl ?_ | (refine LK.frzR 0 rfl ?_ <;> refine pF ?_) | refine pA ?_ | refine sR ?_ | refine zC ?_ | exact True.intro | fail))
  ·have hP2 := (hP.pop hp1 hp2).mono (D := fun _ => False) fun i hi he => .inl (by
    rcases he with he | he
    ·exact he.elim
    ·have : i = (us.getD (Int.toNat 0) default).toNat := by
      have : us.getD (Int.toNat 0) default = us.getD 0 default := rfl
      omega
     rw [this]; exact hsg.symm.trans h)
   (conv => whnf); (refine Nxt.of ((q2, us2)) [3, 4, 6, 7, 8, 9, 10, 11, 12, 13, 14, 15, 16, 17, 18, 19, 20, 21, 22, 23, 24, 25, 26, 27, 28, 29, 30, 31, 32, 33, 34, 35, 36, 37, 38, 39, 40, 41, 42, 43, 44, 45, 46, 47, 48, 49, 50, 51, 52, 53, 54] Qr Qr Qr ?_ ?_ Qy Qs <;> (try dsimp only) <;> (try omega))
   have := hp1.length_eq
   rw [List.length_cons] at this
   omega
  ·have hsat := hsg.symm.trans h
   obtain ⟨hfi, ho⟩ := hP.unit hf h0 hsat
   (conv => whnf); refine CK.loopK [3, 6, 41, 42, 43, 44, 45, 46, 47, 48, 49, 50, 51, 52, 53, 54] (σ := Nat) (fun k => k ≤ (ddL (cs.getD (us.getD (Int.toNat 0) default).toNat default)).length ∧ ∀ j, j < k → negL ((ddL (cs.getD (us.getD (Int.toNat 0) default).toNat default)).getD j default) ∈ out) (fun k => [(41, I k)]) (fun _ => [Pb g (.v l) (.v (.map (some gs))) (.v (.map (some gm))) (clA cs) (.v O) (.v T) f (.slice A q2 cp), Ui (.slice A q2 cp) us2, .blk b0 47 false [I 0, I 0, B false], Ro O (opnS cs out), Rs T (satS cs out), Li l out, .mp gs (encM eL B M), .mp gm (encM eL slN D)]) R (fun k => (ddL (cs.getD (us.getD (Int.toNat 0) default).toNat default)).length - k) 0 ⟨Nat.zero_le _, fun _ h => by omega⟩ Qy (List.Sublist.refl _) ?_
   conv => whnf
   rintro k ⟨k1, k2⟩
   by_cases hk : k < (ddL (cs.getD (us.getD (Int.toNat 0) default).toNat default)).length
   ·have hg := hM.get (negL ((ddL (cs.getD (us.getD (Int.toNat 0) default).toNat default)).getD k default))
    have c3 := dmNeg_ok ((ddL (cs.getD (us.getD (Int.toNat 0) default).toNat default)).getD k default)
    repeat' ((conv => whnf) <;> (first | refine Ask.of (Gr.mget (l := M) (ev := B) (x := negL ((ddL (cs.getD (us.getD (Int.toNat 0) default).toNat default)).getD k default)) (dflt := false) mapLK rfl (fun _ => .v _) 7 rfl rfl rfl (by exact rfl)).1 ?_ | refine CK.anyK (id := 8) [0, 1, 2, 3, 4, 5, 6, 7] [] _ (List.Sublist.refl _) Qk ?_ | refine zM ?_ | refine zW ?_ | intro _ | exact zF | refine Br.tt ?_ | refine Br.ff ?_ | (refine Br.mk (fun h => ?_) (fun h => ?_) <;> (try simp only [sh] at h) <;> try first | (exfalso; omega) | exact absurd trivial h | (simp at h; done)) | refine zA ?_ | refine zN ?_ | refine zO ?_ | refine zP ?_ | refine zB ?_ | refine zL ent55 c3 ?_ | refine zG ent55 (fun h => c3) ?_ | refine lB ?_ | refine lBA ?_ | refine rA ?_ | refine r1 ?_ | refine nR ?_ | refine iR ?_ | refine lR ?_ | refine lR0 ?_ | refine lRA ?_ | refine zK ?_ | refine s1 ?_ | refine sA ?_ | refine LK.bsl rfl rfl rfl rfl ?_ | (refine LK.frzR 0 rfl ?_ <;> refine pF ?_) | refine pA ?_ | refine sR ?_ | refine Kx.nil ?_ | refine Kx.stp rfl rfl Qs ?_ | refine kA ?_ | (refine Kx.frzR 0 rfl ?_ <;> refine kF ?_) | refine kP ?_ | refine k1 ?_ | refine kB ?_ | refine kL ?_ | refine zC ?_ | fail))
    ·conv => whnf
     have hnx : negL ((ddL (cs.getD (us.getD (Int.toNat 0) default).toNat default)).getD k default) ∉ out := fun hm => by
      rw [h] at hg
      have := hg.symm
      rw [List.contains_eq_mem, decide_eq_false_iff_not] at this
      exact this hm
     have hlc := litC_at hk ho hnx
     have hmem : litC out (cs.getD (us.getD (Int.toNat 0) default).toNat default) ∈ (cs.getD (us.getD (Int.toNat 0) default).toNat default) := by
      rw [hlc, ← ddL_mem, getD_at' hk]
      exact List.getElem_mem _
     refine .out _ (.cons _ (.cons_cons _ (.cons_cons _ (.cons _ (.refl _))))) (.inl ⟨(us.getD (Int.toNat 0) default).toNat, q2, us2, hfi, by rw [hlc]; rfl, ?_, rfl⟩)
     refine (hP.pop hp1 hp2).mono fun i hi he => .inr ?_
     rcases he with he | he
     ·exact he.elim
     ·have e : i = (us.getD (Int.toNat 0) default).toNat := by
       have : us.getD (Int.toNat 0) default = us.getD 0 default := rfl
       omega
      rw [e]
      exact hmem
    ·(conv => whnf); (refine Nxt.of (k + 1) [3, 6, 41, 42, 43, 44, 45, 46, 47, 48, 49, 50, 51, 52, 53, 54] Qr Qr Qr ?_ ?_ Qy Qs <;> (try dsimp only) <;> (try omega))
     refine ⟨hk, fun j hj => ?_⟩
     by_cases e : j = k
     ·rw [h] at hg
      rw [e]
      exact List.contains_iff_mem.1 hg.symm
     ·exact k2 j (by omega)
   ·exact absurd (fun j hj => k2 j (by omega)) (lit_some ho)
 ·repeat' ((conv => whnf) <;> (first | refine zM ?_ | refine zW ?_ | intro _ | exact zF | refine Br.tt ?_ | refine Br.ff ?_ | (refine Br.mk (fun h => ?_) (fun h => ?_) <;> (try simp only [sh] at h) <;> try first | (exfalso; omega) | exact absurd trivial h | (simp at h; done)) | refine zA ?_ | refine zN ?_ | refine zO ?_ | refine zP ?_ | refine zB ?_ | (refine LK.callL ent56 (c1 _ _ _ _ _ _ _ _ _) rfl rfl Ql (fun _ _ hcall => ?_) <;> obtain ⟨rfl, rfl⟩ := hcall) | refine LK.callLW ent56 rfl ?_ (fun h => c1 _ _ _ _ _ _ _ _ _) rfl rfl Ql ?_ | refine lB ?_ | refine lBA ?_ | refine rA ?_ | refine r1 ?_ | refine lM ?_ | refine lM0 ?_ | refine lMA ?_ | refine sM ?_ | refine zK ?_ | refine s1 ?_ | refine sA ?_ | refine zC ?_ | exact True.intro | fail))
  conv => whnf
  obtain rfl : us = [] := List.length_eq_zero_iff.1 (by omega)
  exact .out _ (.cons_cons _ (.cons_cons _ (.cons _ (.refl _)))) (.inr ⟨hP.none, q, [], rfl, hP, rfl⟩)
end Go.Proofs.YtjfnkmlnbaianaaGreat
namespace Go.E2
def hds : List (List Nat) → List Nat
 | [] => []
 | [] :: os => hds os
 | (i :: _) :: os => cond ((hds os).any (Nat.beq i)) (hds os) (i :: hds os)
def tls (i : Nat) : List (List Nat) → List (List Nat)
 | [] => []
 | [] :: os => tls i os
 | (j :: l) :: os => cond (Nat.beq i j) (l :: tls i os) (tls i os)
def allI (p : Nat → Prop) : List Nat → Prop
 | [] => True
 | [i] => p i
 | i :: j :: l => p i ∧ allI p (j :: l)
theorem allI_mem {p : Nat → Prop} : ∀ {l : List Nat}, allI p l → ∀ i ∈ l, p i
 | [], _, _, h => by cases h
 | [i], h, _, hm => by rw [List.mem_singleton] at hm; subst hm; exact h
 | i :: j :: l, h, _, hm => by
  rcases List.mem_cons.1 hm with rfl | hm
  ·exact h.1
  ·exact allI_mem h.2 _ hm
def nthO : List Oper → Nat → List Oper
 | [], _ => []
 | o :: _, 0 => [o]
 | _ :: l, i + 1 => nthO l i
theorem nthO_eq : ∀ {l : List Oper} {i : Nat} {o : Oper}, l[i]? = some o → nthO l i = [o]
 | [], _, _, h => by simp at h
 | _ :: _, 0, _, h => by simp at h; subst h; rfl
 | _ :: l, i + 1, o, h => by rw [nthO]; exact nthO_eq (by simpa using h)
def wpP (P : Program) (T : Tr) (c : Ctx) (n : Cfg) (ops : Array Oper) (K : Fr → List Ent → Prop) : Nat → List (List Nat) → Fr → List Ent → Prop
 | 0, _, F, L => K F L
 | k + 1, os, F, L => allI (fun i => wpl P T c n ops (fun F L => wpP P T c n ops K k (tls i os) F L) (nthO ops.toList i) F L) (hds os)
def checkP (ops : Array Oper) : Nat → Array Bool → List (List Nat) → Bool
 | 0, listed, _ => (Region.ready .any ops listed).isEmpty
 | k + 1, listed, os => !(Region.ready .any ops listed).isEmpty && (Region.ready .any ops listed).all fun i => (hds os).contains i && checkP ops k (listed.setIfInBounds i true) (tls i os)
theorem wpAny_P {P : Program} {T : Tr} [TabOK P T] {c : Ctx} {n : Cfg} {ops : Array Oper} {Q : Exit → Act → World → Prop} {K : Fr → List Ent → Prop} (hQ : ∀ F L, K F L → Lx P c n ops Q [] F L) : ∀ (k : Nat) (listed : Array Bool) (os : List (List Nat)) (F : Fr) (L : List Ent) (H : Cells) (w : World) (a : Act), checkP ops k listed os = true → St c H w L → Fit H n F a → wpP P T c n ops K k os F L → wpAny P .any ops (OnlyN Q) k listed a w
 | 0, listed, os, F, L, H, w, a, hB, hs, hF, h => by
  simp only [checkP, List.isEmpty_iff] at hB
  exact ⟨hB, (hQ F L h).out H w a hs hF⟩
 | k + 1, listed, os, F, L, H, w, a, hB, hs, hF, h => by
  simp only [checkP, Bool.and_eq_true, Bool.not_eq_true', List.all_eq_true] at hB
  refine ⟨fun h1 => (by rw [h1] at hB; simp at hB), fun i hi => ?_⟩
  have h2 := hB.2 i hi
  rw [List.contains_iff_mem] at h2
  have h3 := allI_mem h i h2.1
  obtain ⟨_, o, ho, _⟩ := mem_ready.1 hi
  have ho' : ops.toList[i]? = some o := by rw [Array.getElem?_toList]; exact ho
  rw [nthO_eq ho'] at h3
  let Q' : Exit → Act → World → Prop := fun _ a w => ∃ H F L', St c H w L' ∧ Fit H n F a ∧ wpP P T c n ops K k (tls i os) F L'
  have h4 := ((wpl_out h3).out Q' fun F L' hk => ⟨fun H w a hs hF => ⟨H, F, L', hs, hF, hk⟩⟩).out H w a hs hF
  have hn : ∀ a w, wpList P ops (OnlyN Q') [] a w → wpAny P .any ops (OnlyN Q) k (listed.setIfInBounds i true) a w := fun a w h => by
   obtain ⟨H, F, L', hs, hF, hk⟩ := h
   exact wpAny_P hQ k _ _ F L' H w a h2.2 hs hF hk
  unfold wpOp
  simp only [ho]
  unfold wpList at h4
  split at h4
  ·rename_i hw
   rw [if_pos hw]
   rcases h4 with h | ⟨_, _, _, hx⟩
   ·exact .inl (wp_onlyN hn h)
   ·exact hx.elim
  ·rename_i hw; rw [if_neg hw]; exact hn _ _ h4
def anyPB (ops : Array Oper) (p : Nat) (os : List (List Nat)) : Bool := Nat.ble p ops.toList.length && (ops.toList.all fun o => noDef o.op) && lexTo ops p p 0 (lst 0 ops.toList.length) && (Nat.beq p ops.toList.length || tailQ ops p ops.toList.length) && checkP ops (ops.toList.length - p) (lst p ops.toList.length) os
theorem CK.anyP {P : Program} {T : Tr} [hT : TabOK P T] {c : Ctx} {m : Nat} {ro : Option Nat} {K : KT} {ds : List Deferred} {F : Fr} {L : List Ent} {id : Nat} {ops : Array Oper} (p k : Nat) (os : List (List Nat)) (hk : ops.toList.length - p = k) (hB : anyPB ops p os = true)
  (h : wpo P T c ⟨m, ds, ro⟩ ops L (fun F => wpP P T c ⟨m, ds, ro⟩ ops (fun F L' => K ds .normal F L') k os F L) (ops.toList.take p) F) : CK P T c m ro (.region id ops true) K ds F L := by
 simp only [anyPB, Bool.and_eq_true] at hB
 obtain ⟨⟨⟨⟨h2, h3⟩, h4⟩, h5⟩, h6⟩ := hB
 have h2 := Nat.le_of_ble_eq_true h2
 rw [hk] at h6
 generalize hN : ops.toList.length = N at *
 have hsz : ops.size = N := by rw [← hN]; simp
 refine ⟨fun Q hQ => ⟨fun H w a hs hF _ => ?_⟩⟩
 have e : ops.toList.toArray = ops := Array.toArray_toList
 rw [← e]
 refine wpIn_of_any h3 hT.fol ?_
 rw [e]
 obtain ⟨F', h10, h11⟩ := wpo_out h
 have hlp : (ops.toList.take p).length = p := by simp; omega
 have e0 : lst 0 N = Array.replicate N false := by simp [lst]
 let KK : Fr → Prop := fun F => ∀ H w a, St c H w L → Fit H ⟨m, ds, ro⟩ F a → wpAny P .any ops (OnlyN Q) k (lst p N) a w
 have hKK : ∀ F G, FEq F G → KK F → KK G := fun F G h k H w a hs hF => k H w a hs (hF.weak fun s x hx => by rw [← h s]; exact hx)
 have hA := wpAnyA_lex (P := P) (c := c) (n := ⟨m, ds, ro⟩) (L := L) (ops := ops) (p := p) (K := KK) hKK (ops.toList.take p) 0 (lst 0 N) F F' (fun j hj => by rw [hlp] at hj; rw [List.getElem?_take, if_pos hj]; simp) (by rw [hlp]; exact h4) h10 fun H w a hs hF => wpAny_P (T := T) (fun F L h => Lx.nil (hQ _ _ _ _ h)) k (lst p N) os F' L H w a h6 hs hF h11
 rw [hlp] at hA
 have := wpAny_of_A (P := P) (c := c) (n := ⟨m, ds, ro⟩) (L := L) (p := p) (m := N) (Q' := OnlyN Q) (K := KK) hsz (by omega) (fun listed hc hu j hj => by
   rcases Bool.or_eq_true _ _ ▸ h5 with he | ht
   ·have := Nat.eq_of_beq_eq_true he
    obtain ⟨_, o', ho', _⟩ := mem_ready.1 hj
    rw [this, ← hsz]
    exact (Array.getElem?_eq_some_iff.1 ho').1
   ·exact tailQ_spec hsz ht listed hc hu j hj)
  (fun F H w a k hs hF => by rw [hk]; exact k H w a hs hF) p (lst 0 N) F H _ a (by simp [lst]) (fun k o ho hk => by rw [e0] at hk; simp [Array.getElem?_replicate] at hk; split at hk <;> simp_all) (by
    rw [unl_lst (Nat.zero_le _) p (by omega)]; omega) (fun i _ => by rw [e0]; simp [Array.getElem?_replicate]; split <;> simp) hA hs.drew hF
 rw [show p + (N - p) = N by omega, e0] at this
 rw [hsz]
 exact this
end Go.E2
namespace Go.Proofs.YtjfnkmlnbaianaaGreat
open Go.E2 Go.Wage
def rowsL (t : TypeId) (RS : List (Lt × Value × List Nat)) : List Ent := RS.map fun e => .row e.2.1 t 1 0 false (e.2.2.map In)
theorem CK.pickL {P : Program} {T : Tr} [TabOK P T] {c : Ctx} {m : Nat} {ro : Option Nat} {x : Code} {K : KT} {ds : List Deferred} {F : Fr} {A : List Ent} {t : TypeId} {RS : List (Lt × Value × List Nat)} (y : Lt) (k : ∀ v l, (lk y RS).getD (.slice none 0 0, []) = (v, l) → CK P T c m ro x K ds F (A ++ (.row v t 1 0 false (l.map In) :: rowsL t (lkG y RS)))) : CK P T c m ro x K ds F (A ++ rowsL t RS) := by
 cases h : lk y RS with
 | none =>
  refine CK.nilrow t 1 ?_
  have := k _ _ (by rw [h, Option.getD_none])
  rw [lkG_none h] at this
  exact CK.perm List.perm_middle.symm this
 | some b =>
  have := k b.1 b.2 (by rw [h, Option.getD_some])
  exact CK.perm ((lkG_perm h).map _ |>.append_left A) this
theorem Lt_eq {a b : Lt} (h1 : a.du = b.du) (h2 : a.wk = b.wk) (h3 : a.is = b.is) : a = b := by cases a; cases b; simp_all
abbrev clO (cs : List (List Lt)) : List AV := cs.map fun c => .sl 3 (c.map ltav)
abbrev clD (cs : List (List Lt)) : List AV := cs.map fun c => .sl 3 ((ddL c).map ltav)
abbrev NL (g gs gm : Nat) (O T : Value) (cs : List (List Lt)) (i : Nat) (f : Int) (u : Value) (us : List Int) (w : Value) (D : List (Lt × Value)) : List Ent :=
 [Pb g (.v (.slice none 0 0)) (.v (.map (some gs))) (.v (.map (some gm))) (.v w) (.v O) (.v T) f u, Ui u us, Ro O (opnI cs i), Rs T (List.replicate cs.length false), .row w 34 1 0 false (clD (cs.take i)), .mp gs (encM eL B []), .mp gm (encM eL AV.v D)]
set_option maxRecDepth 4000 in
set_option maxHeartbeats 8000000 in
theorem dmNew_raw (cs : List (List Lt)) (hc : cs.length ≤ 1000) (hb : ∀ c ∈ cs, c.length ≤ 1000) :
  FnE Tryz.prog 31 [.sl 1 (clO cs)] fun r E => ∃ g gs gm O T f A q cp us w D RS, r = pt g ∧ Inv (fun _ => False) (opnS cs []) f us ∧ LnkL D RS (plc cs) ∧ E = NL g gs gm O T cs cs.length f (.slice A q cp) us w D ++ rowsL 3 RS := by
 have hcl : (clO cs).length = cs.length := by simp
 refine fn_run (T := tab) Tryz.func31 rfl Tryz.ntmps31 rfl Tryz.results31 (fun _ => ?_)
 repeat' ((conv => whnf) <;> (first | (refine LK.eff (Eff.mkS (T := tab) (N := cs.length) (z := .bool false) rfl rfl rfl rfl (congrArg (fun q : Nat => some (I (q : Int))) hcl) (by omega)) ?_ <;> rintro _ _ ⟨A1, B1, C1, rfl, rfl⟩) | (refine LK.eff (Eff.mkS (T := tab) (N := cs.length) (z := .int .i64 0) rfl rfl rfl rfl (congrArg (fun q : Nat => some (I (q : Int))) hcl) (by omega)) ?_ <;> rintro _ _ ⟨A1, B1, C1, rfl, rfl⟩) | (refine LK.eff Eff.mkmap ?_ <;> rintro _ _ ⟨_, rfl, rfl⟩) | refine zM ?_ | refine zW ?_ | intro _ | exact zF | refine Br.tt ?_ | refine Br.ff ?_ | (refine Br.mk (fun h => ?_) (fun h => ?_) <;> (try simp only [sh] at h) <;> try first | (exfalso; omega) | exact absurd trivial h | (simp at h; done)) | refine zA ?_ | refine zN ?_ | refine zO ?_ | refine zP ?_ | refine zB ?_ | refine lB ?_ | refine lBA ?_ | refine zK ?_ | refine s1 ?_ | refine sA ?_ | refine zC ?_ | fail))
 rename_i gs gm g A2 B2 C2
 conv => whnf
 refine CK.nilrow 34 1 ?_
 refine CK.nilrow 3 1 ?_
 refine CK.perm (erase_perm (i := 5) rfl).symm ?_
 refine CK.perm (erase_perm (i := 6) rfl).symm ?_
 refine CK.perm (erase_perm (i := 3) rfl).symm ?_
 refine CK.perm (erase_perm (i := 4) rfl).symm ?_
 refine CK.perm (erase_perm (i := 5) rfl).symm ?_
 refine CK.perm (erase_perm (i := 5) rfl).symm ?_
 refine CK.perm (erase_perm (i := 6) rfl).symm ?_
 (conv => whnf); refine CK.loop [4, 5, 6, 7, 8, 9, 28, 29, 30, 31, 32, 33, 34, 35, 36, 37, 38, 39, 40, 41, 42, 43, 44, 45, 46, 47, 48, 49, 50, 51, 52, 53, 54, 55, 56, 57, 58, 59, 60, 61, 62, 63, 64, 65, 66, 67, 68, 69, 70, 71, 72, 73, 74, 75, 76, 77, 78, 79, 80, 81, 82, 83, 84, 85, 86, 87, 88, 89, 90, 91, 92, 93, 94, 95, 96, 97, 98, 99, 100, 101, 102, 103, 104, 105, 106, 107] (σ := Nat × Int × Option Addr × Nat × Nat × List Int × Value × List (Lt × Value) × List (Lt × Value × List Nat)) (fun s => s.1 ≤ cs.length ∧ Inv (fun _ => False) (opnS (cs.take s.1) []) s.2.1 s.2.2.2.2.2.1 ∧ LnkL s.2.2.2.2.2.2.2.1 s.2.2.2.2.2.2.2.2 (plc (cs.take s.1))) (fun ⟨i, _⟩ => [(28, I i)]) (fun ⟨i, f, A, q, cp, us, w, D, RS⟩ => NL g gs gm (.slice A2 B2 C2) (.slice A1 B1 C1) cs i f (.slice A q cp) us w D ++ rowsL 3 RS) (fun s => cs.length - s.1) (0, -1, none, 0, 0, [], .slice none 0 0, [], []) ⟨Nat.zero_le _, Inv.nil, LnkL.nil⟩ Qy (by
  dsimp only [NL]
  rw [opnI_zero, Ro, Rs, List.map_replicate, List.map_replicate]
  exact Qs) ?_
 conv => whnf
 rintro ⟨i, f, A, q, cp, us, w, D, RS⟩ ⟨i1, i2, i3⟩
 simp only at i1 i2 i3
 by_cases hi : i < cs.length
 ·have hcm : cs.getD i default ∈ cs := by rw [getD_at' hi]; exact List.getElem_mem _
  have hcb := hb _ hcm
  have hll : ((cs.getD i default).map ltav).length = (cs.getD i default).length := by simp
  repeat' ((conv => whnf) <;> (first | refine CK.label ?_ | refine CK.scope ?_ | refine zM ?_ | refine zW ?_ | intro _ | exact zF | refine Br.tt ?_ | refine Br.ff ?_ | (refine Br.mk (fun h => ?_) (fun h => ?_) <;> (try simp only [sh] at h) <;> try first | (exfalso; omega) | exact absurd trivial h | (simp at h; done)) | refine zA ?_ | refine zN ?_ | refine zO ?_ | refine zP ?_ | refine zB ?_ | refine lB ?_ | refine lBA ?_ | refine zK ?_ | refine s1 ?_ | refine sA ?_ | refine zC ?_ | fail))
  conv => whnf
  refine CK.nilrow 47 3 ?_
  (conv => whnf); refine CK.loopG [6, 7, 8, 9, 35, 36, 37, 38, 39, 40, 41, 42, 43, 44, 45, 46, 47, 48, 49, 50, 51, 52, 53, 54, 55, 56, 57, 58, 59, 60, 61, 62, 63, 64, 65, 66, 67, 68, 69, 70, 71, 72, 73, 74, 75, 76, 77, 78, 79, 80, 81, 82, 83, 84, 85] (σ := Nat × Value × List (Lt × Value) × List (Lt × Value × List Nat)) (fun s => s.1 ≤ (cs.getD i default).length ∧ LnkL s.2.2.1 s.2.2.2 (plp cs i s.1)) (fun ⟨k, dv, _⟩ => [(35, I k), (6, .v dv)]) (fun ⟨k, dv, D, RS⟩ => .row dv 47 3 0 false ((ddL ((cs.getD i default).take k)).map ltav) :: NL g gs gm (.slice A2 B2 C2) (.slice A1 B1 C1) cs i f (.slice A q cp) us w D ++ rowsL 3 RS) [] (fun s => (cs.getD i default).length - s.1) (0, .slice none 0 0, D, RS) ⟨Nat.zero_le _, i3.congr fun y => (plp_zero hi y).symm⟩ Qy (by
   rw [List.append_nil]
   exact List.Sublist.refl _) ?_
  conv => whnf
  rintro ⟨k, dv, D1, RS1⟩ ⟨k1, k2⟩
  simp only at k1 k2
  rw [List.append_nil]
  by_cases hk : k < (cs.getD i default).length
  ·by_cases hpv : 0 < k ∧ (cs.getD i default).getD k default = (cs.getD i default).getD (k - 1) default
   ·have hm := prev_mem hk hpv.1 hpv.2
    have hds := ddL_same hk hm
    repeat' ((conv => whnf) <;> (first | refine CK.anyK (id := 11) [0, 1, 2, 3, 4, 5, 6, 7, 8, 9, 10] [] _ (List.Sublist.refl _) Qk ?_ | refine zM ?_ | refine zW ?_ | intro _ | exact zF | refine Br.tt ?_ | refine Br.ff ?_ | (refine Br.mk (fun h => ?_) (fun h => ?_) <;> (try simp only [sh] at h) <;> try first | (exfalso; omega) | exact absurd trivial h | (simp at h; done)) | refine zA ?_ | refine zN ?_ | refine zO ?_ | refine zP ?_ | refine zB ?_ | refine Ask.of (Gr.eqlS rfl rfl rfl rfl (eqs47 _ _ _ _ _ _)) ?_ | refine Ask.of (Gr.neqS rfl rfl rfl rfl (eqs47 _ _ _ _ _ _)) ?_ | refine Ask.of (Gr.eqlS rfl rfl rfl rfl (eqs28 _ _ _ _)) ?_ | refine Ask.of (Gr.neqS rfl rfl rfl rfl (eqs28 _ _ _ _)) ?_ | refine Ask.of (Gr.eqlS rfl rfl rfl rfl (eqs188 _ _ _ _)) ?_ | refine Ask.of (Gr.neqS rfl rfl rfl rfl (eqs188 _ _ _ _)) ?_ | refine Ask.of (Gr.eqlS rfl rfl rfl rfl (eqs68 _ _ _ _ _ _ _ _)) ?_ | refine Ask.of (Gr.neqS rfl rfl rfl rfl (eqs68 _ _ _ _ _ _ _ _)) ?_ | refine lB ?_ | refine lBA ?_ | refine zK ?_ | refine s1 ?_ | refine sA ?_ | refine Kx.nil ?_ | refine Kx.stp rfl rfl Qs ?_ | refine kA ?_ | (refine Kx.frzR 0 rfl ?_ <;> refine kF ?_) | refine kP ?_ | refine k1 ?_ | refine kB ?_ | refine kL ?_ | refine zC ?_ | refine Gst.done ?_ | exact True.intro | fail))
    ·(conv => whnf); (refine Nxt.of ((k + 1, dv, D1, RS1)) [6, 7, 8, 9, 35, 36, 37, 38, 39, 40, 41, 42, 43, 44, 45, 46, 47, 48, 49, 50, 51, 52, 53, 54, 55, 56, 57, 58, 59, 60, 61, 62, 63, 64, 65, 66, 67, 68, 69, 70, 71, 72, 73, 74, 75, 76, 77, 78, 79, 80, 81, 82, 83, 84, 85] Qr Qr Qr ?_ ?_ Qy ?_ <;> (try dsimp only) <;> (try omega))
     ·exact ⟨hk, k2.congr fun y => plp_same hi hk hm y⟩
     ·rw [hds, List.append_nil]
      exact Qs
    ·exfalso
     have h0 := hpv.1
     rcases h with h | h | h | h
     ·omega
     ·exact h (congrArg Lt.du hpv.2)
     ·exact h (congrArg Lt.wk hpv.2)
     ·exact h (congrArg Lt.is hpv.2)
   ·have hpl := plp_len hi k ((cs.getD i default).getD k default)
    have hpm : ((plp cs i k ((cs.getD i default).getD k default)).map In).length = (plp cs i k ((cs.getD i default).getD k default)).length := by simp
    have hdl := ddL_len ((cs.getD i default).take k)
    rw [List.length_take] at hdl
    have hdm : ((ddL ((cs.getD i default).take k)).map ltav).length = (ddL ((cs.getD i default).take k)).length := by simp
    repeat' ((conv => whnf) <;> (first | (refine LK.eff (Eff.mstore (l := ups ((cs.getD i default).getD k default) ((lk ((cs.getD i default).getD k default) D1).getD (.slice none 0 0)) D1) (ev := AV.v) (v := .slice A4 B4 C4) 8 rfl (by exact hj4) rfl rfl rfl) ?_ <;> rintro _ _ ⟨rfl, rfl⟩) | (refine LK.eff (Eff.appS (T := tab) 9 rfl rfl (congrArg (fun v => some (AV.v v)) hv1) rfl rfl Qb Q1 Qo) ?_ <;> rintro _ _ ⟨A4, B4, C4, rfl, rfl⟩) | (refine LK.eff (Eff.mentry (l := D1) (ev := AV.v) (x := ((cs.getD i default).getD k default)) (dflt := .slice none 0 0) mapPL rfl (fun _ => .v _) 8 rfl rfl rfl (by exact rfl)) ?_ <;> rintro _ _ ⟨j4, hj4, rfl, rfl⟩) | refine And.intro ?_ ?_ | refine CK.anyP (id := 14) 7 5 [[7, 8, 9, 10, 11], [7, 8, 10, 9, 11], [7, 10, 8, 9, 11]] rfl (by exact Qk) ?_ | refine lM0 (T := tab) (i := 9) (hL := rfl) ?_ | refine iR (T := tab) (i := 9) (hL := rfl) ?_ | refine nR (T := tab) (i := 9) (hL := rfl) ?_ | refine Ask.of (Gr.ofEq (Gr.mget (l := D1) (ev := AV.v) (x := ((cs.getD i default).getD k default)) (dflt := .slice none 0 0) mapPL rfl (fun _ => .v _) 8 rfl rfl rfl (by exact rfl)).1 (congrArg AV.v hv1)) ?_ | (refine CK.pickL (A := .blk _ 47 false [I ((cs.getD i default).getD k default).du, I ((cs.getD i default).getD k default).wk, B ((cs.getD i default).getD k default).is] :: .row dv 47 3 0 false ((ddL ((cs.getD i default).take k)).map ltav) :: NL g gs gm (.slice A2 B2 C2) (.slice A1 B1 C1) cs i f (.slice A q cp) us w D1) (RS := RS1) ((cs.getD i default).getD k default) (fun v l hv => ?_) <;> obtain ⟨hv1, rfl⟩ := k2.getD hv <;> refine CK.anyK (id := 12) [0, 1, 2, 3, 4, 5, 6] [] _ (List.Sublist.refl _) Qk ?_) | refine CK.anyK (id := 11) [0, 1, 2, 3, 4, 5, 6, 7, 8, 9, 10] [] _ (List.Sublist.refl _) Qk ?_ | refine zM ?_ | refine zW ?_ | intro _ | exact zF | refine Br.tt ?_ | refine Br.ff ?_ | (refine Br.mk (fun h => ?_) (fun h => ?_) <;> (try simp only [sh] at h) <;> try first | (exfalso; omega) | exact absurd trivial h | (simp at h; done)) | refine zA ?_ | refine zN ?_ | refine zO ?_ | refine zP ?_ | refine zB ?_ | refine Ask.of (Gr.eqlS rfl rfl rfl rfl (eqs47 _ _ _ _ _ _)) ?_ | refine Ask.of (Gr.neqS rfl rfl rfl rfl (eqs47 _ _ _ _ _ _)) ?_ | refine Ask.of (Gr.eqlS rfl rfl rfl rfl (eqs28 _ _ _ _)) ?_ | refine Ask.of (Gr.neqS rfl rfl rfl rfl (eqs28 _ _ _ _)) ?_ | refine Ask.of (Gr.eqlS rfl rfl rfl rfl (eqs188 _ _ _ _)) ?_ | refine Ask.of (Gr.neqS rfl rfl rfl rfl (eqs188 _ _ _ _)) ?_ | refine Ask.of (Gr.eqlS rfl rfl rfl rfl (eqs68 _ _ _ _ _ _ _ _)) ?_ | refine Ask.of (Gr.neqS rfl rfl rfl rfl (eqs68 _ _ _ _ _ _ _ _)) ?_ | refine lB ?_ | refine lBA ?_ | refine zK ?_ | refine s1 ?_ | refine sA ?_ | refine pS ?_ | refine LK.gr (Gr.bslV rfl rfl rfl rfl) ?_ | refine Ask.of (Gr.bslV rfl rfl rfl rfl) ?_ | refine Kx.nil ?_ | refine Kx.stp rfl rfl Qs ?_ | refine kA ?_ | refine kS ?_ | (refine Kx.frzR 0 rfl ?_ <;> refine kF ?_) | refine kP ?_ | refine k1 ?_ | refine kB ?_ | refine kL ?_ | refine zC ?_ | refine zD ?_ | refine Gst.done ?_ | exact True.intro | fail))
    ·exact absurd ⟨by omega, Lt_eq h.2.1 h.2.2.1 h.2.2.2⟩ hpv
    ·have hm := (plp_last hi (by omega)).1 (Int.ofNat.inj h.2)
     have hds := ddL_same hk hm
     (conv => whnf); (refine Nxt.of ((k + 1, dv, D1, (((cs.getD i default).getD k default), v, plp cs i k ((cs.getD i default).getD k default)) :: lkG ((cs.getD i default).getD k default) RS1)) [6, 7, 8, 9, 35, 36, 37, 38, 39, 40, 41, 42, 43, 44, 45, 46, 47, 48, 49, 50, 51, 52, 53, 54, 55, 56, 57, 58, 59, 60, 61, 62, 63, 64, 65, 66, 67, 68, 69, 70, 71, 72, 73, 74, 75, 76, 77, 78, 79, 80, 81, 82, 83, 84, 85] Qr Qr Qr ?_ ?_ Qy ?_ <;> (try dsimp only) <;> (try omega))
     ·exact ⟨hk, (k2.pick hv (plp_pos hi hm)).congr fun y => plp_same hi hk hm y⟩
     ·rw [hds, List.append_nil]
      exact Qs
    all_goals
     rename_i A5 B5 C5
     have hm : ((cs.getD i default).getD k default) ∉ (cs.getD i default).take k := fun hm => by
      have h0 := List.length_pos_iff.2 (plp_pos hi hm)
      have := (plp_last hi h0).2 hm
      omega
     have hds := ddL_new hk hm
     (conv => whnf); (refine Nxt.of ((k + 1, Value.slice A5 B5 C5, ups ((cs.getD i default).getD k default) (Value.slice A4 B4 C4) D1, (((cs.getD i default).getD k default), Value.slice A4 B4 C4, plp cs i k ((cs.getD i default).getD k default) ++ [i]) :: lkG ((cs.getD i default).getD k default) RS1)) [6, 7, 8, 9, 35, 36, 37, 38, 39, 40, 41, 42, 43, 44, 45, 46, 47, 48, 49, 50, 51, 52, 53, 54, 55, 56, 57, 58, 59, 60, 61, 62, 63, 64, 65, 66, 67, 68, 69, 70, 71, 72, 73, 74, 75, 76, 77, 78, 79, 80, 81, 82, 83, 84, 85] Qr Qr Qr ?_ ?_ Qy ?_ <;> (try dsimp only) <;> (try omega))
     ·exact ⟨hk, (k2.put ((cs.getD i default).getD k default) _ i).congr fun y => plp_new hi hk hm y⟩
     ·rw [hds, List.append_nil, rowsL, List.map_cons]
      simp only [List.map_append, ups_ups]
      exact Qs
  ·obtain rfl : k = (cs.getD i default).length := by omega
   dsimp only
   rw [List.take_length]
   have hcd : (clD (cs.take i)).length = i := by rw [List.length_map, Wage.take_len hi]
   have hdl := ddL_len (cs.getD i default)
   have hdm : ((ddL (cs.getD i default)).map ltav).length = (ddL (cs.getD i default)).length := by simp
   have ho0 := opnI_len (cs := cs) (i := i) (by omega)
   have ho1 : ((opnI cs i).map I).length = cs.length := by rw [List.length_map, ho0]
   have hst := set_Id (opnI cs i) (i : Int).toNat
   have hul := i2.len
   rw [opnS_len, List.length_take] at hul
   repeat' ((conv => whnf) <;> (first | refine LK.stRM (a := (i : Int).toNat) (j := 0) 2 rfl rfl rfl rfl rfl (Nat.zero_le _) (by omega) rfl rfl ?_ | refine iR (T := tab) ?_ | (refine Gst.frzR 0 rfl ?_ <;> refine Gst.see 6 rfl (Sb.row 0 rfl) ?_ <;> refine Gst.weak _ (fun _ _ hh => hh) (List.Sublist.cons _ (List.Sublist.refl _)) ?_ <;> refine Gst.done ?_) | refine zM ?_ | refine zW ?_ | intro _ | exact zF | refine Br.tt ?_ | refine Br.ff ?_ | (refine Br.mk (fun h => ?_) (fun h => ?_) <;> (try simp only [sh] at h) <;> try first | (exfalso; omega) | exact absurd trivial h | (simp at h; done)) | refine zA ?_ | refine zN ?_ | refine zO ?_ | refine zP ?_ | refine zB ?_ | refine lB ?_ | refine lBA ?_ | refine zK ?_ | refine s1 ?_ | refine sA ?_ | refine pS ?_ | refine LK.gr (Gr.bslV rfl rfl rfl rfl) ?_ | refine Ask.of (Gr.bslV rfl rfl rfl rfl) ?_ | refine zC ?_ | refine zD ?_ | fail))
   rename_i A5 B5 C5
   rw [hst, Int.toNat_natCast, hdm, opnI_set hi]
   have hog := opnI_get hi
   have hol := opnI_len (cs := cs) (i := i + 1) hi
   have c2 := fun c R => dmExam_ok (c := c) (R := R) g (.v (.slice none 0 0)) (.v (.map (some gs))) (.v (.map (some gm))) (.v (.slice A5 B5 C5)) (.v (.slice A1 B1 C1)) (.slice A2 B2 C2) f A q cp us (opnI cs (i + 1)) i (by omega) i2.hp (by omega)
   rw [hog] at c2
   have hcs : clD (cs.take i) ++ [AV.sl 3 ((ddL (cs.getD i default)).map ltav)] = clD (cs.take (i + 1)) := by
    rw [List.take_succ_eq_append_getElem hi, clD, clD, List.map_append, getD_at' hi]
    rfl
   repeat' ((conv => whnf) <;> (first | refine zM ?_ | refine zW ?_ | intro _ | exact zF | refine Br.tt ?_ | refine Br.ff ?_ | (refine Br.mk (fun h => ?_) (fun h => ?_) <;> (try simp only [sh] at h) <;> try first | (exfalso; omega) | exact absurd trivial h | (simp at h; done)) | refine zA ?_ | refine zN ?_ | refine zO ?_ | refine zP ?_ | refine zB ?_ | (refine LK.callL ent54 (c2 _ _) rfl rfl Ql (fun _ _ hcall => ?_) <;> obtain ⟨rfl, A6, q6, cp6, us6, hp1, hp2, rfl⟩ := hcall) | refine lB ?_ | refine lBA ?_ | refine zK ?_ | refine s1 ?_ | refine sA ?_ | refine zC ?_ | fail))
   (conv => whnf); (refine Nxt.of ((i + 1, falE f (ddL (cs.getD i default)).length i, A6, q6, cp6, us6, Value.slice A5 B5 C5, D1, RS1)) [4, 5, 6, 7, 8, 9, 28, 29, 30, 31, 32, 33, 34, 35, 36, 37, 38, 39, 40, 41, 42, 43, 44, 45, 46, 47, 48, 49, 50, 51, 52, 53, 54, 55, 56, 57, 58, 59, 60, 61, 62, 63, 64, 65, 66, 67, 68, 69, 70, 71, 72, 73, 74, 75, 76, 77, 78, 79, 80, 81, 82, 83, 84, 85, 86, 87, 88, 89, 90, 91, 92, 93, 94, 95, 96, 97, 98, 99, 100, 101, 102, 103, 104, 105, 106, 107] Qr Qr Qr ?_ ?_ Qy ?_ <;> (try dsimp only) <;> (try omega))
   ·have hsn := i2.snoc (us' := us6) (v := ((ddL (cs.getD i default)).length : Int)) (by rw [opnS_len, Wage.take_len hi]; exact hp1) hp2
    rw [opnS_len, Wage.take_len hi, ← opnS_snoc hi] at hsn
    exact ⟨hi, hsn, k2.congr fun y => plp_end hi y⟩
   ·unfold NL
    rw [← hcs]
    exact Qs
 ·obtain rfl : i = cs.length := by omega
  rw [List.take_length] at i2 i3
  repeat' ((conv => whnf) <;> (first | refine zM ?_ | refine zW ?_ | intro _ | exact zF | refine Br.tt ?_ | refine Br.ff ?_ | (refine Br.mk (fun h => ?_) (fun h => ?_) <;> (try simp only [sh] at h) <;> try first | (exfalso; omega) | exact absurd trivial h | (simp at h; done)) | refine zA ?_ | refine zN ?_ | refine zO ?_ | refine zP ?_ | refine zB ?_ | refine lB ?_ | refine lBA ?_ | refine zK ?_ | refine s1 ?_ | refine sA ?_ | refine zC ?_ | fail))
  conv => whnf
  exact .out _ (by exact List.Sublist.refl _) ⟨g, gs, gm, _, _, f, A, q, cp, us, w, D, RS, rfl, i2, i3, rfl⟩
end Go.Proofs.YtjfnkmlnbaianaaGreat
