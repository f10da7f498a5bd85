/-
  Walks: the sort of edges, the list of edges.
  Conditions: those of each theorem.
-/
import Derived.Test.YtnekeokgognegaaV9
import Derived.Test.YtnekeokgognegaaE2I
import Derived.Test.YtnekeokgognegaaSh
namespace Go.Proofs.Ytnekeokgognegaa
open Go.E2 Go.Wage Go.Sort
theorem sortBy1_ok (kf : FuncId) (hent : EntersT Try.prog kf) (hkey : ∀ e, FnA Try.prog kf [eav e] (I e.at_)) (x y : Ed) : FnA Try.prog 76 ([eav x, eav y] ++ [.fp [.fn (.func kf) []] 0]) (I (cmpI x.at_ y.at_)) := by
  refine fn_of Try.func76 rfl Try.ntmps76 rfl (fun _ _ hK => ?_) <;> (repeat (any_goals (first | refine Ex.seq ‹_› ?_ | refine Cx.seq (fun _ _ => ?_) | refine Cx.block (fun _ _ => ?_) | refine Cx.skip ?_ | refine Cx.ret ?_ | refine Cx.exit ?_ | refine Ex.seq_ret ‹_› ?_ | refine Ex.seq_exit ‹_› ?_ | refine Ex.blk ‹_› ?_ | refine Ex.blk_ret ‹_› ?_ | refine Ex.blk_exit ‹_› ?_ | refine Ex.blk_other ‹_› rfl ?_ | refine Ex.loop_ret ‹_› ?_ | refine Ex.loop_exit ‹_› ?_ | refine Cx.cond_t rfl ?_ | refine Cx.cond_f rfl ?_ | (refine Cx.cond rfl (fun h => ?_) (fun h => ?_) <;> (try simp only [sh] at h) <;> (try (exfalso; omega))) | (refine Cx.region (id := 0) rfl ?_ <;> (refine Lx.boxA rfl rfl (fun _ => ?_)) <;> (refine Lx.boxA rfl rfl (fun _ => ?_)) <;> (refine Lx.gr rfl (Gr.assign rfl) ?_) <;> refine Lx.nil ?_) | (refine Cx.any (id := 1) 8 (m := 8) fol rfl rfl rfl Qk Qk Qk ?_ <;> (refine Ox.gr rfl (Qd1 one87) ?_) <;> (refine Ox.gr rfl (QdA agg82) ?_) <;> (first | refine Ox.gr rfl (Gr.call ent77 rfl rfl (SbL.refl _) (cmpi_ok _ _)) ?_ | refine Ox.gr rfl (Gr.call ent77 rfl rfl Ql (cmpi_ok _ _)) ?_ | refine Ox.gr rfl (Gr.callC hent rfl (Sb.refl _) rfl (SbL.refl _) (hkey _)) ?_) <;> (refine Ox.gr rfl (Qd1 one87) ?_) <;> (refine Ox.gr rfl (QdA agg82) ?_) <;> (first | refine Ox.gr rfl (Gr.call ent77 rfl rfl (SbL.refl _) (cmpi_ok _ _)) ?_ | refine Ox.gr rfl (Gr.call ent77 rfl rfl Ql (cmpi_ok _ _)) ?_ | refine Ox.gr rfl (Gr.callC hent rfl (Sb.refl _) rfl (SbL.refl _) (hkey _)) ?_) <;> (first | refine Ox.gr rfl (Gr.call ent77 rfl rfl (SbL.refl _) (cmpi_ok _ _)) ?_ | refine Ox.gr rfl (Gr.call ent77 rfl rfl Ql (cmpi_ok _ _)) ?_ | refine Ox.gr rfl (Gr.callC hent rfl (Sb.refl _) rfl (SbL.refl _) (hkey _)) ?_) <;> (refine Ox.gr rfl (Gr.assign rfl) ?_) <;> refine Ox.fin ?_ <;> refine Lx.nil ?_) )))
  exact Ex.res1 hK Try.results76 (Rv.tmp rfl) [] (List.nil_sublist _) ⟨rfl, rfl⟩
def encE (e : Ed) : List Value := [.int .i64 e.at_, .int .i64 e.d1, .int .i64 e.d2]
theorem cmpI_lt (x y : Ed) : ltOf (fun x y : Ed => cmpI x.at_ y.at_) x y = decide (x.at_ < y.at_) := by
  unfold ltOf cmpI
  by_cases h : x.at_ < y.at_
  · simp [h]
  · simp only [h, if_false, decide_false]
    split <;> simp
theorem swoE : SWO (ltOf (fun x y : Ed => cmpI x.at_ y.at_)) := by
  refine ⟨fun x => ?_, fun x y z => ?_, fun x y z => ?_⟩ <;> simp only [cmpI_lt, decide_eq_true_eq, decide_eq_false_iff_not] <;> omega
theorem sortE_ok {c : Ctx} {L : List Ent} {g : FuncId} {caps : List AV} (hent : EntersT Try.prog g) (hcmp : ∀ x y, FnA Try.prog g ([eav x, eav y] ++ caps) (I (cmpI x.at_ y.at_))) {v : Value} {t : TypeId} {dl : List Ed} (i : Nat) (hi : L[i]? = some (.row v t 3 0 false (dl.map eav))) (hlen : dl.length < 4611686018427387904) :
    FnL Try.prog c 75 [.v v, .fn (.func g) caps] L fun r L' => r = .tup [] ∧ ∃ dl' : List Ed, dl'.Perm dl ∧ dl'.Pairwise (fun a b => a.at_ ≤ b.at_) ∧ L' = L.set i (.row v t 3 0 false (dl'.map eav)) := by
  letI : Inhabited Ed := ⟨⟨0, 0, 0⟩⟩
  refine (sort_of (P := Try.prog) (ρ := Try.sortE_ren) Try.sortE (by decide) Try.isAgg82 Try.sizeOf82 (enc := encE) (fun _ => rfl) (fun x v hv => by simp [encE] at hv; rcases hv with rfl | rfl | rfl <;> rfl) _ swoE hent (fun _ => rfl) hcmp i hi hlen).mono ?_
  rintro a E ⟨rfl, d', h1, h2, rfl⟩
  refine ⟨rfl, d', h1, h2.imp fun {a b} h => ?_, rfl⟩
  rw [cmpI_lt] at h
  simp at h; exact h
theorem sortBy_ok {c : Ctx} {L : List Ent} {kf : FuncId} (hent : EntersT Try.prog kf) (hkey : ∀ e, FnA Try.prog kf [eav e] (I e.at_)) {v : Value} {t : TypeId} {dl : List Ed} (i : Nat) (hi : L[i]? = some (.row v t 3 0 false (dl.map eav))) (hlen : dl.length < 4611686018427387904) :
    FnL Try.prog c 62 [.v v, .fn (.func kf) []] L fun r L' => r = .tup [] ∧ ∃ dl' : List Ed, dl'.Perm dl ∧ dl'.Pairwise (fun a b => a.at_ ≤ b.at_) ∧ L' = L.set i (.row v t 3 0 false (dl'.map eav)) := by
  refine fnL_of Try.func62 rfl Try.ntmps62 rfl (fun _ _ hcw hcl hK => ?_) <;> (repeat (any_goals (first | refine Ex.seq ‹_› ?_ | refine Cx.seq (fun _ _ => ?_) | refine Cx.block (fun _ _ => ?_) | refine Cx.skip ?_ | refine Cx.ret ?_ | refine Cx.exit ?_ | refine Ex.seq_ret ‹_› ?_ | refine Ex.seq_exit ‹_› ?_ | refine Ex.blk ‹_› ?_ | refine Ex.blk_ret ‹_› ?_ | refine Ex.blk_exit ‹_› ?_ | refine Ex.blk_other ‹_› rfl ?_ | refine Ex.loop_ret ‹_› ?_ | refine Ex.loop_exit ‹_› ?_ | refine Cx.cond_t rfl ?_ | refine Cx.cond_f rfl ?_ | (refine Cx.cond rfl (fun h => ?_) (fun h => ?_) <;> (try simp only [sh] at h) <;> (try (exfalso; omega))) | (refine Cx.region (id := 0) rfl ?_ <;> (refine Lx.box1 rfl rfl rfl (fun _ => ?_)) <;> refine Lx.nil ?_) | (refine Cx.region (id := 1) rfl ?_ <;> (refine Lx.gr rfl (Gr.move rfl) ?_) <;> (refine Lx.gr rfl (Gr.makeFunc rfl) ?_) <;> ((refine Lx.frzB 0 rfl ?_ <;> refine Lx.callL ent75 rfl rfl rfl Ql (sortE_ok ent76 (sortBy1_ok kf hent hkey) (i + 1) hi hlen) (fun _ _ hcall => ?_))) <;> refine Lx.nil ?_) )))
  obtain ⟨rfl, d', h1, h2, rfl⟩ := hcall
  repeat (any_goals (first | refine Ex.seq ‹_› ?_ | refine Cx.seq (fun _ _ => ?_) | refine Cx.block (fun _ _ => ?_) | refine Cx.skip ?_ | refine Cx.ret ?_ | refine Cx.exit ?_ | refine Ex.seq_ret ‹_› ?_ | refine Ex.seq_exit ‹_› ?_ | refine Ex.blk ‹_› ?_ | refine Ex.blk_ret ‹_› ?_ | refine Ex.blk_exit ‹_› ?_ | refine Ex.blk_other ‹_› rfl ?_ | refine Ex.loop_ret ‹_› ?_ | refine Ex.loop_exit ‹_› ?_ | refine Cx.cond_t rfl ?_ | refine Cx.cond_f rfl ?_ | (refine Cx.cond rfl (fun h => ?_) (fun h => ?_) <;> (try simp only [sh] at h) <;> (try (exfalso; omega))) | (refine Cx.region (id := 0) rfl ?_ <;> (refine Lx.box1 rfl rfl rfl (fun _ => ?_)) <;> refine Lx.nil ?_) | (refine Cx.region (id := 1) rfl ?_ <;> (refine Lx.gr rfl (Gr.move rfl) ?_) <;> (refine Lx.gr rfl (Gr.makeFunc rfl) ?_)) | (refine Lx.nil ?_) ))
  exact Ex.end0L (hK) Try.results62 (L.set i (.row v t 3 0 false (d'.map eav))) (List.sublist_cons_self _ _) ⟨rfl, d', h1, h2, rfl⟩
end Go.Proofs.Ytnekeokgognegaa
