/-
  The engine, part N2: regions of open order in which two new blocks are made in either order.
  Conditions: none beyond the premises of each rule.
-/
import Derived.Test.YtlnokdkhglmogaaGreatE3X
namespace Go.E2
open Go.RowKit
section
variable {P : Program} {c : Ctx} {n : Cfg} {Q : Exit → Act → World → Prop} {F G : Fr} {L L0 : List Ent} {ops : Array Oper}
theorem wpAny_mix2 {m : Nat} {K : Fr → List Ent → Prop} {cs0 : List Nat} {Ff : Fr} (hM : Mix ops m cs0)
    (hK : ∀ F L H w a, K F L → St c H w L → Fit H n F a → wpList P ops (OnlyN Q) [] a w)
    (hfl : ∀ i o, ops[i]? = some o → i ∉ cs0 → ∃ r, YieldsA P c n L0 ops o Ff r ∧ ∀ d, o.dst = some d → look Ff d = some r)
    {i0 j0 : Nat} {is : List Nat} {F : Fr} {L : List Ent} (hci : chE ops (i0 :: is) = true) (hcj : chE ops (j0 :: is) = true) (hk1 : Kx P c n ops L0 K (i0 :: j0 :: is) F L) (hk2 : Kx P c n ops L0 K (j0 :: i0 :: is) F L) (hsub : L0.Sublist L)
    (h3 : ∀ i ∈ i0 :: j0 :: is, i ∈ cs0) (hn : (i0 :: j0 :: is).Nodup) (hFf : ∀ s, look F s = look Ff s) :
    ∀ (fuel : Nat) (listed : Array Bool) (G : Fr) (H : Cells) (w : World) (a : Act), listed.size = m → Closed ops listed → unl m listed = fuel →
      (∀ i ∈ i0 :: j0 :: is, listed.getD i true = false) → (∀ i ∈ cs0, i ∈ i0 :: j0 :: is ∨ listed.getD i true = true) →
      (∀ s, (∀ i o, ops[i]? = some o → listed.getD i true = false → i ∉ cs0 → o.dst ≠ some s) → look G s = look F s) →
      St c H w L → Fit H n G a → wpAny P .any ops (OnlyN Q) fuel listed a w := by
  intro fuel
  induction fuel with
  | zero =>
    intro listed G H w a hsz hc hu h1 h2 hG hst hF
    have hz := unl_zero hu
    cases hk1 with
    | cons ho R hs hl hk =>
      have hlt : i0 < m := by rw [← hM.size]; exact (Array.getElem?_eq_some_iff.1 ho).1
      have := hz _ hlt
      rw [h1 _ (by simp)] at this
      cases this
  | succ fuel ih =>
    intro listed G H w a hsz hc hu h1 h2 hG hst hF
    refine ⟨fun h0 => ?_, fun i hi => ?_⟩
    · exfalso
      obtain ⟨i, hi, hl⟩ := unl_pos (k := m) (listed := listed) (by omega)
      obtain ⟨j, g1, g2, g3⟩ := min_unl i hl
      have hjm : j < ops.size := by have := hM.size; omega
      have hj : j ∈ Region.ready .any ops listed := mem_ready.2 ⟨g2, ops[j], Array.getElem?_eq_getElem hjm, fun e he hb => by
        have hlt := hM.back j _ (Array.getElem?_eq_getElem hjm) e he hb
        have := g3 e.on hlt
        have hel : e.on < listed.size := by omega
        simp [hel] at this ⊢
        exact this⟩
      rw [h0] at hj
      cases hj
    obtain ⟨hun, o, ho, _⟩ := mem_ready.1 hi
    have him : i < m := by rw [← hM.size]; exact (Array.getElem?_eq_some_iff.1 ho).1
    have hil : i < listed.size := by omega
    have hus := unl_set hil hun m
    rw [if_pos him] at hus
    have hag : ∀ d, d ∈ o.looksAt ops → look F d = look G d := fun d hd => (hG d fun i' o' ho' hl' hn' he => (hM.deps i i' o o' d ho ho' he hd).elim (fun h => ready_edge hi h.1 hl') (fun h => hn' h.1)).symm
    have go : ∀ (k : Nat) (rest : List Nat), (i :: k :: rest).Perm (i0 :: j0 :: is) → chE ops (k :: rest) = true → Kx P c n ops L0 K (i :: k :: rest) F L → wpOp P ops (OnlyN Q) i (fun a w => wpAny P .any ops (OnlyN Q) fuel (listed.setIfInBounds i true) a w) a w := fun k rest hp hch hkk => by
      have hic : i ∈ cs0 := h3 i (hp.mem_iff.1 (by simp))
      have hn' := (hp.nodup_iff).2 hn
      cases hkk with
      | @cons _ _ o' _ _ ho' R hs hl hk =>
        rw [ho] at ho'
        cases ho'
        refine wpOp_one ho (Q1 := fun _ a' w' => wpAny P .any ops (OnlyN Q) fuel (listed.setIfInBounds i true) a' w') (fun _ _ h => h) ((hs G _ hag fun r L' hR => Lx.nil ⟨fun H' w' a' hst' hF' => ?_⟩).out H w a hst hF)
        refine wpAny_mix hM hK hfl fuel _ (k :: rest) (putF o.dst r F) (putF o.dst r G) L' H' w' a' (by simpa using hsz) (hc.set hi) (by omega) (fun x hx => ?_) (fun x hx => ?_) (fun x hx => h3 x (hp.mem_iff.1 (List.mem_cons_of_mem _ hx))) (List.nodup_cons.1 hn').2 hch (hk r L' hR) (hl r L' hR) (fun s hs' => ?_) (fun s hs' => ?_) hst' hF'
        · rw [getD_set_ne true (fun e => (List.nodup_cons.1 hn').1 (by rw [e]; exact hx))]
          exact h1 x (hp.mem_iff.1 (List.mem_cons_of_mem _ hx))
        · by_cases e : i = x
          · right
            subst e
            simp [hil]
          · rcases h2 x hx with h | h
            · rcases List.mem_cons.1 (hp.mem_iff.2 h) with h | h
              · exact absurd h.symm e
              · exact .inl h
            · right
              rw [getD_set_ne true e]
              exact h
        · rw [put_ne (hs' i o hic ho (by simp [hil]))]
          exact hFf s
        · exact put_eq (hG s fun i' o' ho' hl' hn' => hs' i' o' ho' (by rw [getD_set_ne true (fun e => hn' (by rw [← e]; exact hic))]; exact hl') hn')
    by_cases hic : i ∈ cs0
    · have hics : i ∈ i0 :: j0 :: is := (h2 i hic).resolve_right (by rw [hun]; simp)
      rcases List.mem_cons.1 hics with e | hr
      · subst e
        exact go j0 is (List.Perm.refl _) hcj hk1
      · rcases List.mem_cons.1 hr with e | hr
        · subst e
          exact go i0 is (List.Perm.swap _ _ _) hci hk2
        · obtain ⟨x, hx, he⟩ := chE_mem hci hr
          have hx' : x ∈ i0 :: j0 :: is := by
            rcases List.mem_cons.1 hx with h | h
            · simp [h]
            · simp [h]
          exact (ready_edge hi he (h1 x hx')).elim
    · obtain ⟨r, hy, hd⟩ := hfl i o ho hic
      have hy' : YieldsA P c n L ops o G r := (hy.sub hsub).congr fun d hd' => by
        rw [← hag d hd']
        exact (hFf d).symm
      have hnext : ∀ H' w' v, H.le H' → St c H' w' L → Rel H' r v → wpAny P .any ops (OnlyN Q) fuel (listed.setIfInBounds i true) (a.put o.dst v) w' := fun H' w' v hle hs' hr => by
        refine ih _ (putF o.dst r G) H' w' _ (by simpa using hsz) (hc.set hi) (by omega) (fun x hx => ?_) (fun x hx => ?_) (fun s hs'' => ?_) hs' ((hF.mono hle).put hr o.dst)
        · rw [getD_set_ne true (fun e => hic (by rw [e]; exact h3 x hx))]
          exact h1 x hx
        · rcases h2 x hx with h | h
          · exact .inl h
          · right
            rw [getD_set_ne true (fun e => hic (by rw [e]; exact hx))]
            exact h
        · by_cases e : o.dst = some s
          · rw [hFf s, hd s e, e]
            exact look_cons_self _ _ _
          · rw [put_ne e]
            refine hG s fun i' o' ho' hl' hn' => ?_
            by_cases e' : i = i'
            · subst e'
              rw [ho] at ho'
              cases ho'
              exact e
            · exact hs'' i' o' ho' (by rw [getD_set_ne true e']; exact hl') hn'
      unfold wpOp
      simp only [ho]
      rcases hy'.cases with ⟨_, hw, hg, hrr⟩ | ⟨hw, hrr⟩
      · rw [if_pos (wanted_fit hF.size hF.rel hw)]
        exact .inl (oper_wp_grows hst (hg.out H w a.eval hst (hF.reads _) o.dst o.pos o.after o.guard) fun H' w' v hl hs' hr => hnext H' w' v hl hs' (hrr _ _ hr))
      · rw [if_neg (by rw [wanted_fit hF.size hF.rel hw]; simp)]
        exact hnext H w undef (Cells.le_refl _) hst (hrr _)
def part2B (ops : Array Oper) (m : Nat) (fs : List Nat) (i0 j0 : Nat) (is : List Nat) : Bool := ascB fs && ascB (i0 :: j0 :: is) && (chE ops (i0 :: is) && chE ops (j0 :: is)) && (fs.all fun i => Nat.blt i m && !(i0 :: j0 :: is).contains i) && ((i0 :: j0 :: is).all fun i => Nat.blt i m) && (List.range m).all fun i => (i0 :: j0 :: is).contains i || fs.contains i
theorem Cx.any2 {id : Nat} {l : List Oper} {m : Nat} (fs : List Nat) (i0 j0 : Nat) (is : List Nat) (L0 : List Ent) (hsub : L0.Sublist L) (hm : P.follows .mixedOrders = true) (hl : l.length = m) (hd : l.all (fun o => noDef o.op) = true)
    (hB : mixB l.toArray m (i0 :: j0 :: is) = true) (hC : part2B l.toArray m fs i0 j0 is = true)
    (h : Ox P c n l.toArray (fun Ff => Kx P c n l.toArray L0 (fun F L' => Lx P c n l.toArray Q [] F L') (i0 :: j0 :: is) Ff L ∧ Kx P c n l.toArray L0 (fun F L' => Lx P c n l.toArray Q [] F L') (j0 :: i0 :: is) Ff L) (fs.map fun i => l.getD i default) F L0) : Cx P c n (.region id l.toArray true) Q F L :=
  ⟨fun H w a hs hF _ => by
    have hsz : l.toArray.size = m := by simpa using hl
    have hM := mix_of hsz hB
    simp only [part2B, Bool.and_eq_true, List.all_eq_true, List.mem_range, Bool.or_eq_true, Bool.not_eq_true', List.contains_eq_mem, decide_eq_false_iff_not, decide_eq_true_eq] at hC
    obtain ⟨⟨⟨⟨⟨c1, c2⟩, c3, c3'⟩, c4⟩, c6⟩, c5⟩ := hC
    refine wpIn_of_any hd hm ?_
    obtain ⟨Ff, h1, h2⟩ := h.out
    have hget : ∀ i ∈ fs, l.toArray[i]? = some (l.getD i default) := fun i hi => by
      have : i < l.length := by rw [hl]; exact Nat.le_of_ble_eq_true (c4 i hi).1
      simp [this]
    obtain ⟨f1, f2⟩ := h1.full (by
        rw [List.pairwise_map]
        refine (List.Pairwise.and_mem.1 (ascB_pw c1)).imp ?_
        rintro i j ⟨hi, hj, hij⟩ d hd
        refine ⟨fun hm => ?_, fun he => ?_⟩
        · have := ((hM.deps i j _ _ d (hget i hi) (hget j hj) hd hm).resolve_right fun h => (c4 j hj).2 h.1).1
          obtain ⟨o, ho, e, e1, e2, e3⟩ := edgeB_spec this
          have := hM.back i o ho e e1 e2
          omega
        · have := hM.dist i j _ _ d (hget i hi) (hget j hj) hd he
          omega) (fun o ho d hd hm => by
        obtain ⟨i, hi, rfl⟩ := List.mem_map.1 ho
        have := ((hM.deps i i _ _ d (hget i hi) (hget i hi) hd hm).resolve_right fun h => (c4 i hi).2 h.1).1
        obtain ⟨o, ho, e, e1, e2, e3⟩ := edgeB_spec this
        have := hM.back i o ho e e1 e2
        omega)
    have hfl : ∀ i o, l.toArray[i]? = some o → i ∉ i0 :: j0 :: is → i ∈ fs ∧ o = l.getD i default := fun i o ho hn => by
      have him : i < m := by rw [← hsz]; exact (Array.getElem?_eq_some_iff.1 ho).1
      have hi := (c5 i him).resolve_left hn
      refine ⟨hi, ?_⟩
      rw [hget i hi] at ho
      exact (Option.some.inj ho).symm
    have hun : ∀ k, k ≤ m → unl k (Array.replicate m false) = k := by
      intro k
      induction k with
      | zero => intro _; rfl
      | succ k ih =>
        intro hk
        have h3 := ih (by omega)
        simp only [unl, h3]
        rw [if_pos (by simp [show k < m by omega])]
    rw [hsz]
    refine wpAny_mix2 (P := P) (Q := Q) (K := fun F L' => Lx P c n l.toArray Q [] F L') (Ff := Ff) hM (fun F L H w a k hst hF => k.out H w a hst hF)
      (fun i o ho hn => by
        obtain ⟨hi, rfl⟩ := hfl i o ho hn
        exact f1 _ (List.mem_map.2 ⟨i, hi, rfl⟩)) c3 c3' h2.1 h2.2 hsub (fun i hi => hi) ((ascB_pw c2).imp fun h => Nat.ne_of_lt h) (fun s => rfl) m (Array.replicate m false) F H _ a (by simp) (fun k o ho hk => by simp [Array.getElem?_replicate] at hk; split at hk <;> simp_all) (hun m (Nat.le_refl _))
      (fun i hi => by
        have him : i < m := Nat.le_of_ble_eq_true (c6 i hi)
        simp [him]) (fun i hi => .inl hi) (fun s hs' => by
          refine (f2 s fun o ho he => ?_).symm
          obtain ⟨i, hi, rfl⟩ := List.mem_map.1 ho
          have him : i < m := Nat.le_of_ble_eq_true (c4 i hi).1
          exact hs' i _ (hget i hi) (by simp [him]) (c4 i hi).2 he) hs.drew hF⟩
theorem Lx.perm {l : List Oper} {L' : List Ent} (hp : L.Perm L') (h : Lx P c n ops Q l F L) : Lx P c n ops Q l F L' := ⟨fun H w a hs hF => h.out H w a (hs.perm hp.symm) hF⟩
theorem Lx.feq {l : List Oper} (hf : FEq F G) (h : Lx P c n ops Q l F L) : Lx P c n ops Q l G L := ⟨fun H w a hs hF => h.out H w a hs (hF.weak fun s x hx => by rw [← hf s]; exact hx)⟩
theorem Kx.congr {K : Fr → List Ent → Prop} (hK : ∀ F G L L', FEq F G → L.Perm L' → K F L → K G L') {cs : List Nat} (h : Kx P c n ops L0 K cs F L) : ∀ {G : Fr} {L' : List Ent}, FEq F G → L.Perm L' → Kx P c n ops L0 K cs G L' := by
  induction h with
  | nil h => intro G L' hf hp; exact .nil (hK _ _ _ _ hf hp h)
  | cons ho R hs hl hk ih =>
    intro G L' hf hp
    exact .cons ho R (fun G' Q hag hr => Lx.perm hp (hs G' Q (fun d hd => (hf d).trans (hag d hd)) hr)) hl fun r L'' hr => ih r L'' hr (hf.put _ r) (List.Perm.refl _)
variable {T : Tr}
theorem CK.any2 [hT : TabOK P T] {m : Nat} {ro : Option Nat} {K : KT} {ds : List Deferred} {id : Nat} {ops : Array Oper} (fs : List Nat) (i0 j0 : Nat) (is : List Nat) (L0 : List Ent) (hsub : L0.Sublist L) {di dj : Tmp} {ti tj : TypeId} {yi yj : TypeId} {pi pj : String} {ei ej : Array Edge} {tdi tdj : TD}
    (hB : ((ops.toList.all fun o => noDef o.op) && mixB ops ops.toList.length (i0 :: j0 :: is) && part2B ops ops.toList.length fs i0 j0 is) = true) (hi : ops[i0]? = some ⟨some di, .alloc ti, yi, pi, ei, none⟩) (hj : ops[j0]? = some ⟨some dj, .alloc tj, yj, pj, ej, none⟩) (hne : Nat.beq di dj = false)
    (hdi : T.get ti = some tdi) (hdj : T.get tj = some tdj) (h0i : (match tdi with | .no => false | _ => true) = true) (h0j : (match tdj with | .no => false | _ => true) = true)
    (h : wpo P T c ⟨m, ds, ro⟩ ops L0 (fun F => ∀ g1 g2, Kx P c ⟨m, ds, ro⟩ ops L0 (fun F L => K ds .normal F L) is ((dj, .v (.pointer (some ⟨g2, 0, none⟩))) :: (di, .v (.pointer (some ⟨g1, 0, none⟩))) :: F) (.blk g2 tj false ((zsOf tdj).map .v) :: .blk g1 ti false ((zsOf tdi).map .v) :: L)) (fs.map fun i => ops.toList.getD i default) F) : CK P T c m ro (.region id ops true) K ds F L := by
  simp only [Bool.and_eq_true] at hB
  obtain ⟨⟨h1, h2⟩, h3⟩ := hB
  refine ⟨fun Q hQ => ?_⟩
  obtain ⟨F', h6, h7⟩ := wpo_out h
  have e : ops.toList.toArray = ops := Array.toArray_toList
  have mono : ∀ {cs : List Nat} {F : Fr} {L : List Ent}, Kx P c ⟨m, ds, ro⟩ ops L0 (fun F L => K ds .normal F L) cs F L → Kx P c ⟨m, ds, ro⟩ ops L0 (fun F L' => Lx P c ⟨m, ds, ro⟩ ops Q [] F L') cs F L := fun hk => by
    induction hk with
    | nil h => exact .nil (Lx.nil (hQ _ _ _ _ h))
    | cons ho R hs hl hk ih => exact .cons ho R hs hl ih
  have hK : ∀ F G L L', FEq F G → L.Perm L' → Lx P c ⟨m, ds, ro⟩ ops Q [] F L → Lx P c ⟨m, ds, ro⟩ ops Q [] G L' := fun F G L L' hf hp hx => Lx.feq hf (Lx.perm hp hx)
  have hnd : di ≠ dj := fun e => by subst e; simp at hne
  have := Cx.any2 (P := P) (c := c) (n := ⟨m, ds, ro⟩) (Q := Q) (F := F) (L := L) (id := id) (l := ops.toList) fs i0 j0 is L0 hsub hT.fol rfl h1 (by rw [e]; exact h2) (by rw [e]; exact h3) (by
    rw [e]
    refine ⟨F', h6, ?_, ?_⟩
    · refine Kx.eff hi (Eff.alloc hdi h0i) (by rintro _ _ ⟨_, rfl, rfl⟩; exact List.Sublist.cons _ hsub) ?_
      rintro _ _ ⟨g1, rfl, rfl⟩
      refine Kx.eff hj (Eff.alloc hdj h0j) (by rintro _ _ ⟨_, rfl, rfl⟩; exact List.Sublist.cons _ (List.Sublist.cons _ hsub)) ?_
      rintro _ _ ⟨g2, rfl, rfl⟩
      exact mono (h7 g1 g2)
    · refine Kx.eff hj (Eff.alloc hdj h0j) (by rintro _ _ ⟨_, rfl, rfl⟩; exact List.Sublist.cons _ hsub) ?_
      rintro _ _ ⟨g2, rfl, rfl⟩
      refine Kx.eff hi (Eff.alloc hdi h0i) (by rintro _ _ ⟨_, rfl, rfl⟩; exact List.Sublist.cons _ (List.Sublist.cons _ hsub)) ?_
      rintro _ _ ⟨g1, rfl, rfl⟩
      exact (mono (h7 g1 g2)).congr hK (put_comm (d := some dj) (e := some di) (fun x hx => by cases hx; exact fun h => hnd (by cases h; rfl)) _ _ F') (List.Perm.swap _ _ _))
  rwa [e] at this
end
section
variable {P : Program} {c : Ctx} {n : Cfg} {ops : Array Oper} {F : Fr} {L : List Ent} {Q : Exit → Act → World → Prop} {rest : List Oper}
variable {d : Option Tmp} {ty : TypeId} {pos : String} {aft : Array Edge} {gd : Option (Nat × Bool)}
theorem flat_put {k : Nat} : ∀ (xs : List AV) (a : Nat) (vs : List AV), (∀ x ∈ xs, x.cells.length = k) → a < xs.length → (xs.set a (.agg vs)).flatMap AV.cells = (xs.flatMap AV.cells).take (a * k) ++ vs ++ (xs.flatMap AV.cells).drop (a * k + k)
  | [], _, _, _, h => by simp at h
  | x :: xs, 0, vs, hk, _ => by
    have hx := hk x (by simp)
    rw [List.set_cons_zero, List.flatMap_cons, List.flatMap_cons]
    simp [AV.cells, ← hx]
  | x :: xs, a + 1, vs, hk, h => by
    have hx := hk x (by simp)
    have ih := flat_put xs a vs (fun y hy => hk y (by simp [hy])) (by simpa using h)
    rw [List.set_cons_succ, List.flatMap_cons, List.flatMap_cons, ih]
    have e1 : (a + 1) * k = x.cells.length + a * k := by rw [Nat.succ_mul, hx]; omega
    rw [e1, show x.cells.length + a * k + k = x.cells.length + (a * k + k) by omega, List.take_length_add_append, List.drop_length_add_append]
    simp only [List.append_assoc]
theorem take_putR {α : Type} {l v : List α} {p q n : Nat} (h : p + q ≤ n) (hv : v.length = q) (hn : n ≤ l.length) : (l.take p ++ v ++ l.drop (p + q)).take n = (l.take n).take p ++ v ++ (l.take n).drop (p + q) := by
  have h1 : (l.take p ++ v).length = p + q := by rw [List.length_append, List.length_take, hv]; omega
  rw [List.take_append, List.take_of_length_le (by omega), h1, List.take_take, Nat.min_eq_left (by omega), List.drop_take]
/-- a struct stored over an element of a row -/
theorem Lx.stRA {t T : TypeId} {x y : Operand} {v : Value} {a k m : Nat} {z : Bool} {xs vs : List AV} (ht : AggT P t k) (hg : wantB ops n F gd = some true) (hx : oget n F x = some (.v (.pointer (some ⟨blkOf v, a * k, none⟩)))) (hy : oget n F y = some (.agg vs)) (i : Nat)
    (hL : L[i]? = some (.row v T k m z xs)) (hm : m ≤ a) (ha : a < xs.length) (hl : Nat.beq vs.length k = true) (hu : vs.all AV.one = true) (kk : Lx P c n ops Q rest (putF d (.v undef) F) (L.set i (.row v T k m false (xs.set a (.agg vs))))) :
    Lx P c n ops Q (⟨d, .store t x y, ty, pos, aft, gd⟩ :: rest) F L :=
  Lx.op hg fun H w ac hs hF => by
    obtain ⟨us', hrow, _, _, hm', hno, _⟩ := hs.holds _ (List.mem_of_getElem? hL)
    obtain ⟨cap, cur, us, hv, hh, h1, h2, h3, hrel, hcl, hul⟩ := row_at hs hL (by rintro rfl; simp at ha)
    obtain ⟨vv, e, hvv⟩ := (hF.eval hy).inv_agg
    have hvl : vv.length = k := by rw [← hvv.len]; exact Nat.eq_of_beq_eq_true hl
    have hak : a * k + k ≤ xs.length * k := by
      have : (a + 1) * k ≤ xs.length * k := Nat.mul_le_mul_right _ (by omega)
      rw [Nat.succ_mul] at this
      exact this
    have hck : xs.length * k ≤ cap * k := Nat.mul_le_mul_right _ h1
    have hsz : cur.size = cap * k := h2
    have hxs : xs.length * k ≤ cur.size := by rw [hsz]; exact hck
    have hst := run_storeCells_at (P := P) (blkOf v) (a * k) T vv 0 cur w hh (by omega) (fun v hm => hvv.oneAll hu v hm)
    have e2 : (cur.toList.take (a * k + 0) ++ vv ++ cur.toList.drop (a * k + 0 + vv.length)) = cur.toList.take (a * k) ++ vv ++ cur.toList.drop (a * k + k) := by simp [hvl]
    rw [e2] at hst
    have hcl2 : (cur.toList.take (a * k) ++ vv ++ cur.toList.drop (a * k + k)).length = cur.size := by
      simp only [List.length_append, List.length_take, List.length_drop, Array.length_toList, hvl]; omega
    generalize hnew : (cur.toList.take (a * k) ++ vv ++ cur.toList.drop (a * k + k)) = new at *
    refine ⟨.skip, w.setRow (blkOf v) new.toArray, undef, _, H, _, ?_, .inr ⟨rfl, rfl⟩, Cells.le_refl _, ?_, .v _, kk⟩
    · simp [execOp, (hF.eval hx).inv, e, Instr.storeAt, Instr.sureAddr, storeVar, run_sizeOf' ht.size, Value.cells, hvl] at hst ⊢
      simp [hst]
    · have hb : v.ownBlock = some (blkOf v) := by rw [hv]; rfl
      have hother : ∀ q, q ≠ blkOf v → (w.setRow (blkOf v) new.toArray).heap[q]? = w.heap[q]? := fun q hq => setRow_other w (blkOf v) q _ hq
      have hsame := setRow_heap w (blkOf v) cur new.toArray T (0, 0) hh
      have htake : new.take (xs.length * k) = us.take (a * k) ++ vv ++ us.drop (a * k + k) := by
        rw [← hnew, ← h3]
        exact take_putR hak hvl (by rw [Array.length_toList]; exact hxs)
      refine hs.turn hL ?_ ⟨us.take (a * k) ++ vv ++ us.drop (a * k + k), ⟨?_, .inr ⟨blkOf v, cap, new.toArray, ?_, ?_, hsame, by simpa using h1, ?_, by simp [hcl2, hsz], ?_⟩⟩, ?_, ?_, by simpa using hm', hno, fun h => by cases h⟩ ⟨rfl, rfl, rfl, by simp [World.setRow], fun q _ hq => hother q (fun e => hq (by rw [e]; exact hb.symm))⟩ (.inl rfl) (Nat.le_refl _)
      · intro b o u hu
        by_cases hbb : b = blkOf v
        · subst hbb
          have ho : o < m * k := by
            rcases Nat.lt_or_ge o (m * k) with h | h
            · exact h
            · rw [hno _ hb o h] at hu; cases hu
          have hma : m * k ≤ a * k := Nat.mul_le_mul_right _ hm
          have := hs.hin _ o u hu
          simp only [World.cell?, hh, hsame, Option.isSome_none, Bool.false_eq_true, if_false] at this ⊢
          rw [List.getElem?_toArray, ← hnew, List.append_assoc, List.getElem?_append_left (by rw [List.length_take, Array.length_toList]; omega), List.getElem?_take, if_pos (by omega), Array.getElem?_toList]
          exact this
        · have := hs.hin b o u hu
          simp only [World.cell?, hother b hbb] at this ⊢
          exact this
      · simp only [List.length_append, List.length_take, List.length_drop, List.length_set, hul, hvl]; omega
      · rw [List.length_set]; exact hv
      · exact (Ent.own_ge (hs.holds _ (List.mem_of_getElem? hL)) hb).1
      · rcases hrow.2 with ⟨e, _⟩ | ⟨g', cap', cur', e, _, _, _, c2, _⟩
        · rw [hv] at e; cases e
        · rw [hv] at e; injection e with _ _ e; rw [e]; exact c2
      · rw [List.length_set]; exact htake
      · rw [flat_put xs a vs hcl ha]
        exact ((hrel.take _).append hvv).append (hrel.drop _)
      · intro q hq
        rcases List.mem_or_eq_of_mem_set hq with h | h
        · exact hcl q h
        · rw [h]; exact Nat.eq_of_beq_eq_true hl
theorem Eff.stRA {T : Tr} [hT : TabOK P T] {t U : TypeId} {x y : Operand} {v : Value} {a m : Nat} {z : Bool} {xs vs : List AV} {td : TD} (i : Nat) (hd : T.get t = some td) (h1 : Nat.beq (aggK td) 0 = false) (hL : L[i]? = some (.row v U (aggK td) m z xs)) (hx : oget n F x = some (.v (.pointer (some ⟨blkOf v, a * aggK td, none⟩)))) (hy : oget n F y = some (.agg vs)) (hm : m ≤ a) (ha : a < xs.length) (hl : Nat.beq vs.length (aggK td) = true) (hu : vs.all AV.one = true) :
    Eff P c n ops ⟨d, .store t x y, ty, pos, aft, none⟩ F L fun q L' => q = .v undef ∧ L' = L.set i (.row v U (aggK td) m false (xs.set a (.agg vs))) := by
  have hag : AggT P t (aggK td) := by
    cases td with
    | st k fs zs => exact (tab_st hT hd).1
    | arr l e k zs => exact (tab_arr hT hd).2.1
    | _ => simp [aggK] at h1
  exact ⟨fun _ _ hagr hk => Lx.stRA hag rfl (by rw [← look_op hagr (by simp [Op.operands])]; exact hx) (by rw [← look_op hagr (by simp [Op.operands])]; exact hy) i hL hm ha hl hu (hk _ _ ⟨rfl, rfl⟩)⟩
end
end Go.E2
