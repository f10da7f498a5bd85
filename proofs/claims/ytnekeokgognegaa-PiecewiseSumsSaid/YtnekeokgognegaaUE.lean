/-
  The engine: regions of open order in which a lone operation goes beside a chain.
  Conditions: none beyond the premises of each rule.
-/
import Derived.Test.YtnekeokgognegaaU12
namespace Go.E2
open Go.RowKit
section
variable {P : Program} {c : Ctx} {n : Cfg} {Q : Exit → Act → World → Prop} {F G : Fr} {L L0 : List Ent} {ops : Array Oper}
/-- the lone operation j0 may come anywhere in the chain, es come behind both -/
inductive KxI (P : Program) (c : Ctx) (n : Cfg) (ops : Array Oper) (L0 : List Ent) (K : Fr → List Ent → Prop) (j0 : Nat) (es : List Nat) : List Nat → Fr → List Ent → Prop
  | stop {F : Fr} {L : List Ent} (h : Kx P c n ops L0 K (j0 :: es) F L) : KxI P c n ops L0 K j0 es [] F L
  | step {i : Nat} {is : List Nat} {o : Oper} {F : Fr} {L : List Ent} (h : Kx P c n ops L0 K (j0 :: (i :: is ++ es)) F L) (ho : ops[i]? = some o) (R : AV → List Ent → Prop)
      (hs : ∀ G Q, (∀ d, d ∈ o.looksAt ops → look F d = look G d) → (∀ r L', R r L' → Lx P c n ops Q [] (putF o.dst r G) L') → Lx P c n ops Q [o] G L)
      (hl : ∀ r L', R r L' → L0.Sublist L') (hk : ∀ r L', R r L' → KxI P c n ops L0 K j0 es is (putF o.dst r F) L') : KxI P c n ops L0 K j0 es (i :: is) F L
theorem KxI.first {K : Fr → List Ent → Prop} {j0 : Nat} {es cs : List Nat} (h : KxI P c n ops L0 K j0 es cs F L) : Kx P c n ops L0 K (j0 :: (cs ++ es)) F L := by
  cases h with
  | stop h => exact h
  | step h => exact h
theorem wpAny_mixA {m : Nat} {K : Fr → List Ent → Prop} {cs0 es : List Nat} {j0 : Nat} {Ff : Fr} (hM : Mix ops m cs0) (hj0 : chE ops (j0 :: es) = true)
    (hK : ∀ F L H w a, K F L → St c H w L → Fit H n F a → wpList P ops (OnlyN Q) [] a w)
    (hfl : ∀ i o, ops[i]? = some o → i ∉ cs0 → ∃ r, YieldsA P c n L0 ops o Ff r ∧ ∀ d, o.dst = some d → look Ff d = some r) :
    ∀ (fuel : Nat) (listed : Array Bool) (cs : List Nat) (F G : Fr) (L : List Ent) (H : Cells) (w : World) (a : Act), listed.size = m → Closed ops listed → unl m listed = fuel →
      (∀ i ∈ j0 :: (cs ++ es), listed.getD i true = false) → (∀ i ∈ cs0, i ∈ j0 :: (cs ++ es) ∨ listed.getD i true = true) → (∀ i ∈ j0 :: (cs ++ es), i ∈ cs0) → (j0 :: (cs ++ es)).Nodup → chE ops (cs ++ es) = true → KxI P c n ops L0 K j0 es cs F L → L0.Sublist L →
      (∀ s, (∀ i o, i ∈ cs0 → ops[i]? = some o → listed.getD i true = true → o.dst ≠ some s) → look F s = look Ff s) →
      (∀ s, (∀ i o, ops[i]? = some o → listed.getD i true = false → i ∉ cs0 → o.dst ≠ some s) → look G s = look F s) →
      St c H w L → Fit H n G a → wpAny P .any ops (OnlyN Q) fuel listed a w := by
  intro fuel
  induction fuel with
  | zero =>
    intro listed cs F G L H w a hsz hc hu h1 h2 h3 hn hch hk hsub hFf hG hst hF
    have hz := unl_zero hu
    have hlt : ∀ {i : Nat} {o : Oper}, ops[i]? = some o → i < m := fun ho => by rw [← hM.size]; exact (Array.getElem?_eq_some_iff.1 ho).1
    cases hk.first with
    | cons ho R hs hl hk =>
      have := hz _ (hlt ho)
      rw [h1 _ (by simp)] at this
      cases this
  | succ fuel ih =>
    intro listed cs F G L H w a hsz hc hu h1 h2 h3 hn hch hk hsub hFf hG hst hF
    refine ⟨fun h0 => ?_, fun i hi => ?_⟩
    · exfalso
      obtain ⟨i, hi, hl⟩ := unl_pos (k := m) (listed := listed) (by omega)
      obtain ⟨j, g1, g2, g3⟩ := min_unl i hl
      have hjm : j < ops.size := by have := hM.size; omega
      have hj : j ∈ Region.ready .any ops listed := mem_ready.2 ⟨g2, ops[j], Array.getElem?_eq_getElem hjm, fun e he hb => by
        have hlt := hM.back j _ (Array.getElem?_eq_getElem hjm) e he hb
        have := g3 e.on hlt
        have hel : e.on < listed.size := by omega
        simp [hel] at this ⊢
        exact this⟩
      rw [h0] at hj
      cases hj
    obtain ⟨hun, o, ho, _⟩ := mem_ready.1 hi
    have him : i < m := by rw [← hM.size]; exact (Array.getElem?_eq_some_iff.1 ho).1
    have hil : i < listed.size := by omega
    have hus := unl_set hil hun m
    rw [if_pos him] at hus
    have hag : ∀ d, d ∈ o.looksAt ops → look F d = look G d := fun d hd => (hG d fun i' o' ho' hl' hn' he => (hM.deps i i' o o' d ho ho' he hd).elim (fun h => ready_edge hi h.1 hl') (fun h => hn' h.1)).symm
    by_cases hic : i ∈ cs0
    · have hics : i ∈ j0 :: (cs ++ es) := (h2 i hic).resolve_right (by rw [hun]; simp)
      have hFs : ∀ s, (∀ i' o', i' ∈ cs0 → ops[i']? = some o' → (listed.setIfInBounds i true).getD i' true = true → o'.dst ≠ some s) → o.dst ≠ some s ∧ look F s = look Ff s := fun s hs' =>
        ⟨hs' i o hic ho (by simp [hil]), hFf s fun i' o' hi' ho' hl' => hs' i' o' hi' ho' (by
          by_cases e : i = i'
          · subst e; simp [hil]
          · rw [getD_set_ne true e]; exact hl')⟩
      have hGs : ∀ s, (∀ i' o', ops[i']? = some o' → (listed.setIfInBounds i true).getD i' true = false → i' ∉ cs0 → o'.dst ≠ some s) → look G s = look F s := fun s hs' =>
        hG s fun i' o' ho' hl' hn' => hs' i' o' ho' (by rw [getD_set_ne true (fun e => hn' (by rw [← e]; exact hic))]; exact hl') hn'
      rcases List.mem_cons.1 hics with e | hr
      · subst e
        have hd := List.nodup_cons.1 hn
        cases hk.first with
        | @cons _ _ o' _ _ ho' R hs hl hkk =>
          rw [ho] at ho'
          cases ho'
          refine wpOp_one ho (Q1 := fun _ a' w' => wpAny P .any ops (OnlyN Q) fuel (listed.setIfInBounds i true) a' w') (fun _ _ h => h) ((hs G _ hag fun r L' hR => Lx.nil ⟨fun H' w' a' hst' hF' => ?_⟩).out H w a hst hF)
          refine wpAny_mix hM hK hfl fuel _ (cs ++ es) (putF o.dst r F) (putF o.dst r G) L' H' w' a' (by simpa using hsz) (hc.set hi) (by omega) (fun x hx => ?_) (fun x hx => ?_) (fun x hx => h3 x (List.mem_cons_of_mem _ hx)) hd.2 hch (hkk r L' hR) (hl r L' hR) (fun s hs' => ?_) (fun s hs' => ?_) hst' hF'
          · rw [getD_set_ne true (fun e => hd.1 (by rw [e]; exact hx))]
            exact h1 x (List.mem_cons_of_mem _ hx)
          · by_cases e : i = x
            · right
              subst e
              simp [hil]
            · rcases h2 x hx with h | h
              · rcases List.mem_cons.1 h with h | h
                · exact absurd h.symm e
                · exact .inl h
              · right
                rw [getD_set_ne true e]
                exact h
          · rw [put_ne (hFs s hs').1]
            exact (hFs s hs').2
          · exact put_eq (hGs s hs')
      · cases hk with
        | stop hkk =>
          obtain ⟨x, hx, he⟩ := chE_mem hj0 (by simpa using hr)
          exact (ready_edge hi he (h1 x (by simpa using hx))).elim
        | @step j rest o' _ _ hfst ho' R hs hl hkk =>
          have e : j = i := by
            rcases List.mem_cons.1 (show i ∈ j :: (rest ++ es) from hr) with e | hr
            · exact e.symm
            · obtain ⟨x, hx, he⟩ := chE_mem (l := rest ++ es) (j := j) hch hr
              exact (ready_edge hi he (h1 x (List.mem_cons_of_mem _ hx))).elim
          subst e
          rw [ho] at ho'
          cases ho'
          have hd := List.nodup_cons.1 hn
          have hd2 := List.nodup_cons.1 (show (j :: (rest ++ es)).Nodup from hd.2)
          have hjj : j0 ≠ j := fun e => hd.1 (by rw [e]; simp)
          refine wpOp_one ho (Q1 := fun _ a' w' => wpAny P .any ops (OnlyN Q) fuel (listed.setIfInBounds j true) a' w') (fun _ _ h => h) ((hs G _ hag fun r L' hR => Lx.nil ⟨fun H' w' a' hst' hF' => ?_⟩).out H w a hst hF)
          refine ih _ rest (putF o.dst r F) (putF o.dst r G) L' H' w' a' (by simpa using hsz) (hc.set hi) (by omega) (fun x hx => ?_) (fun x hx => ?_) (fun x hx => ?_) ?_ (chE_tl hch) (hkk r L' hR) (hl r L' hR) (fun s hs' => ?_) (fun s hs' => ?_) hst' hF'
          · have hxj : j ≠ x := fun e => by
              rcases List.mem_cons.1 hx with h | h
              · exact hjj (by rw [e, h])
              · exact hd2.1 (by rw [e]; exact h)
            rw [getD_set_ne true hxj]
            refine h1 x ?_
            rcases List.mem_cons.1 hx with h | h
            · simp [h]
            · exact List.mem_cons_of_mem _ (List.mem_cons_of_mem _ h)
          · by_cases e : j = x
            · right
              subst e
              simp [hil]
            · rcases h2 x hx with h | h
              · left
                rcases List.mem_cons.1 h with h | h
                · simp [h]
                · rcases List.mem_cons.1 (show x ∈ j :: (rest ++ es) from h) with h | h
                  · exact absurd h.symm e
                  · exact List.mem_cons_of_mem _ h
              · right
                rw [getD_set_ne true e]
                exact h
          · refine h3 x ?_
            rcases List.mem_cons.1 hx with h | h
            · simp [h]
            · exact List.mem_cons_of_mem _ (List.mem_cons_of_mem _ h)
          · exact List.nodup_cons.2 ⟨fun h => hd.1 (List.mem_cons_of_mem _ h), hd2.2⟩
          · rw [put_ne (hFs s hs').1]
            exact (hFs s hs').2
          · exact put_eq (hGs s hs')
    · obtain ⟨r, hy, hd⟩ := hfl i o ho hic
      have hy' : YieldsA P c n L ops o G r := (hy.sub hsub).congr fun d hd' => by
        rw [← hag d hd']
        exact (hFf d fun i' o' hi' ho' hl' he => (hM.deps i i' o o' d ho ho' he hd').elim (fun h => h.2 hic hi') (fun h => closed_edge hc hl' (by have := (Array.getElem?_eq_some_iff.1 ho').1; have := hM.size; omega) hil h.2 hun)).symm
      have hnext : ∀ H' w' v, H.le H' → St c H' w' L → Rel H' r v → wpAny P .any ops (OnlyN Q) fuel (listed.setIfInBounds i true) (a.put o.dst v) w' := fun H' w' v hle hs' hr => by
        refine ih _ cs F (putF o.dst r G) L H' w' _ (by simpa using hsz) (hc.set hi) (by omega) (fun x hx => ?_) (fun x hx => ?_) h3 hn hch hk hsub (fun s hs'' => hFf s fun i' o' hi' ho' hl' => hs'' i' o' hi' ho' (by rw [getD_set_ne true (fun e => hic (by rw [e]; exact hi'))]; exact hl')) (fun s hs'' => ?_) hs' ((hF.mono hle).put hr o.dst)
        · rw [getD_set_ne true (fun e => hic (by rw [e]; exact h3 x hx))]
          exact h1 x hx
        · rcases h2 x hx with h | h
          · exact .inl h
          · right
            rw [getD_set_ne true (fun e => hic (by rw [e]; exact hx))]
            exact h
        · by_cases e : o.dst = some s
          · rw [hFf s fun i' o' hi' ho' _ he => hic (by rw [← hM.dist i' i o' o s ho' ho e he]; exact hi'), hd s e, e]
            exact look_cons_self _ _ _
          · rw [put_ne e]
            refine hG s fun i' o' ho' hl' hn' => ?_
            by_cases e' : i = i'
            · subst e'
              rw [ho] at ho'
              cases ho'
              exact e
            · exact hs'' i' o' ho' (by rw [getD_set_ne true e']; exact hl') hn'
      unfold wpOp
      simp only [ho]
      rcases hy'.cases with ⟨_, hw, hg, hrr⟩ | ⟨hw, hrr⟩
      · rw [if_pos (wanted_fit hF.size hF.rel hw)]
        exact .inl (oper_wp_grows hst (hg.out H w a.eval hst (hF.reads _) o.dst o.pos o.after o.guard) fun H' w' v hl hs' hr => hnext H' w' v hl hs' (hrr _ _ hr))
      · rw [if_neg (by rw [wanted_fit hF.size hF.rel hw]; simp)]
        exact hnext H w undef (Cells.le_refl _) hst (hrr _)
def partAB (ops : Array Oper) (m : Nat) (fs cs : List Nat) (j0 : Nat) (es : List Nat) : Bool := ascB fs && ascB (cs ++ es) && !(cs ++ es).contains j0 && chE ops (cs ++ es) && chE ops (j0 :: es) && (fs.all fun i => Nat.blt i m && !(j0 :: (cs ++ es)).contains i) && ((j0 :: (cs ++ es)).all fun i => Nat.blt i m) && (List.range m).all fun i => (j0 :: (cs ++ es)).contains i || fs.contains i
theorem Cx.anyA {id : Nat} {l : List Oper} {m : Nat} (fs cs : List Nat) (j0 : Nat) (es : List Nat) (L0 : List Ent) (hsub : L0.Sublist L) (hm : P.follows .mixedOrders = true) (hl : l.length = m) (hd : l.all (fun o => noDef o.op) = true)
    (hB : mixB l.toArray m (j0 :: (cs ++ es)) = true) (hC : partAB l.toArray m fs cs j0 es = true)
    (h : Ox P c n l.toArray (fun Ff => KxI P c n l.toArray L0 (fun F L' => Lx P c n l.toArray Q [] F L') j0 es cs Ff L) (fs.map fun i => l.getD i default) F L0) : Cx P c n (.region id l.toArray true) Q F L :=
  ⟨fun H w a hs hF _ => by
    have hsz : l.toArray.size = m := by simpa using hl
    have hM := mix_of hsz hB
    simp only [partAB, Bool.and_eq_true, List.all_eq_true, List.mem_range, Bool.or_eq_true, Bool.not_eq_true', List.contains_eq_mem, decide_eq_false_iff_not, decide_eq_true_eq] at hC
    obtain ⟨⟨⟨⟨⟨⟨⟨c1, c2⟩, c2'⟩, c3⟩, c3'⟩, c4⟩, c6⟩, c5⟩ := hC
    refine wpIn_of_any hd hm ?_
    obtain ⟨Ff, h1, h2⟩ := h.out
    have hget : ∀ i ∈ fs, l.toArray[i]? = some (l.getD i default) := fun i hi => by
      have : i < l.length := by rw [hl]; exact Nat.le_of_ble_eq_true (c4 i hi).1
      simp [this]
    obtain ⟨f1, f2⟩ := h1.full (by
        rw [List.pairwise_map]
        refine (List.Pairwise.and_mem.1 (ascB_pw c1)).imp ?_
        rintro i j ⟨hi, hj, hij⟩ d hd
        refine ⟨fun hm => ?_, fun he => ?_⟩
        · have := ((hM.deps i j _ _ d (hget i hi) (hget j hj) hd hm).resolve_right fun h => (c4 j hj).2 h.1).1
          obtain ⟨o, ho, e, e1, e2, e3⟩ := edgeB_spec this
          have := hM.back i o ho e e1 e2
          omega
        · have := hM.dist i j _ _ d (hget i hi) (hget j hj) hd he
          omega) (fun o ho d hd hm => by
        obtain ⟨i, hi, rfl⟩ := List.mem_map.1 ho
        have := ((hM.deps i i _ _ d (hget i hi) (hget i hi) hd hm).resolve_right fun h => (c4 i hi).2 h.1).1
        obtain ⟨o, ho, e, e1, e2, e3⟩ := edgeB_spec this
        have := hM.back i o ho e e1 e2
        omega)
    have hfl : ∀ i o, l.toArray[i]? = some o → i ∉ j0 :: (cs ++ es) → i ∈ fs ∧ o = l.getD i default := fun i o ho hn => by
      have him : i < m := by rw [← hsz]; exact (Array.getElem?_eq_some_iff.1 ho).1
      have hi := (c5 i him).resolve_left hn
      refine ⟨hi, ?_⟩
      rw [hget i hi] at ho
      exact (Option.some.inj ho).symm
    have hun : ∀ k, k ≤ m → unl k (Array.replicate m false) = k := by
      intro k
      induction k with
      | zero => intro _; rfl
      | succ k ih =>
        intro hk
        have h3 := ih (by omega)
        simp only [unl, h3]
        rw [if_pos (by simp [show k < m by omega])]
    rw [hsz]
    have := wpAny_mixA (P := P) (Q := Q) (K := fun F L' => Lx P c n l.toArray Q [] F L') (Ff := Ff) hM c3' (fun F L H w a k hst hF => k.out H w a hst hF)
      (fun i o ho hn => by
        obtain ⟨hi, rfl⟩ := hfl i o ho hn
        exact f1 _ (List.mem_map.2 ⟨i, hi, rfl⟩)) m (Array.replicate m false) cs Ff F L H _ a (by simp) (fun k o ho hk => by simp [Array.getElem?_replicate] at hk; split at hk <;> simp_all) (hun m (Nat.le_refl _))
      (fun i hi => by
        have him : i < m := Nat.le_of_ble_eq_true (c6 i hi)
        simp [him]) (fun i hi => .inl hi) (fun i hi => hi) (List.nodup_cons.2 ⟨c2', (ascB_pw c2).imp fun h => Nat.ne_of_lt h⟩) c3 h2 hsub (fun s _ => rfl) (fun s hs' => by
          refine (f2 s fun o ho he => ?_).symm
          obtain ⟨i, hi, rfl⟩ := List.mem_map.1 ho
          have him : i < m := Nat.le_of_ble_eq_true (c4 i hi).1
          exact hs' i _ (hget i hi) (by simp [him]) (c4 i hi).2 he) hs.drew hF
    exact this⟩
theorem KxI.mono {K K' : Fr → List Ent → Prop} {j0 : Nat} {es cs : List Nat} (hK : ∀ F L, K F L → K' F L) (h : KxI P c n ops L0 K j0 es cs F L) : KxI P c n ops L0 K' j0 es cs F L := by
  have mono : ∀ {cs : List Nat} {F : Fr} {L : List Ent}, Kx P c n ops L0 K cs F L → Kx P c n ops L0 K' cs F L := fun hk => by
    induction hk with
    | nil h => exact .nil (hK _ _ h)
    | cons ho R hs hl hk ih => exact .cons ho R hs hl ih
  induction h with
  | stop h => exact .stop (mono h)
  | step h ho R hs hl hk ih => exact .step (mono h) ho R hs hl ih
variable {T : Tr}
def anyAB (ops : Array Oper) (fs cs : List Nat) (j0 : Nat) (es : List Nat) : Bool := (ops.toList.all fun o => noDef o.op) && mixB ops ops.toList.length (j0 :: (cs ++ es)) && partAB ops ops.toList.length fs cs j0 es
theorem CK.anyA [hT : TabOK P T] {m : Nat} {ro : Option Nat} {K : KT} {ds : List Deferred} {id : Nat} {ops : Array Oper} (fs cs : List Nat) (j0 : Nat) (es : List Nat) (L0 : List Ent) (hsub : L0.Sublist L) (hB : anyAB ops fs cs j0 es = true)
    (h : wpo P T c ⟨m, ds, ro⟩ ops L0 (fun F => KxI P c ⟨m, ds, ro⟩ ops L0 (fun F L => K ds .normal F L) j0 es cs F L) (fs.map fun i => ops.toList.getD i default) F) : CK P T c m ro (.region id ops true) K ds F L := by
  simp only [anyAB, Bool.and_eq_true] at hB
  obtain ⟨⟨h1, h2⟩, h3⟩ := hB
  refine ⟨fun Q hQ => ?_⟩
  obtain ⟨F', h6, h7⟩ := wpo_out h
  have e : ops.toList.toArray = ops := Array.toArray_toList
  have := Cx.anyA (P := P) (c := c) (n := ⟨m, ds, ro⟩) (Q := Q) (F := F) (L := L) (id := id) (l := ops.toList) fs cs j0 es L0 hsub hT.fol rfl h1 (by rw [e]; exact h2) (by rw [e]; exact h3) (by
    rw [e]
    exact ⟨F', h6, h7.mono fun F L h => Lx.nil (hQ _ _ _ _ h)⟩)
  rwa [e] at this
variable {K : Fr → List Ent → Prop} {i j0 : Nat} {is es : List Nat} {d : Option Tmp} {o : Op} {ty : TypeId} {pos : String} {aft : Array Edge} {R : AV → List Ent → Prop}
theorem KxI.eff {g : Option (Nat × Bool)} (ho : ops[i]? = some ⟨d, o, ty, pos, aft, g⟩) (h : Eff P c n ops ⟨d, o, ty, pos, aft, g⟩ F L R) (hl : ∀ r L', R r L' → L0.Sublist L') (hf : Kx P c n ops L0 K (j0 :: (i :: is ++ es)) F L) (k : ∀ r L', R r L' → putK d r F fun F => KxI P c n ops L0 K j0 es is F L') : KxI P c n ops L0 K j0 es (i :: is) F L :=
  .step hf ho R h.out hl fun r L' hr => putK_out (k r L' hr)
theorem KxI.frzR (j : Nat) {v : Value} {t : TypeId} {size q : Nat} {z : Bool} {xs : List AV} (hL : L[j]? = some (.row v t size q z xs)) (k : KxI P c n ops L0 K j0 es (i :: is) F (L.set j (.row v t size xs.length true xs))) : KxI P c n ops L0 K j0 es (i :: is) F L := by
  cases k with
  | step h ho R hs hl hk => exact .step (Kx.frzR j hL h) ho R (fun G Q h1 h2 => Lx.frzR j hL (hs G Q h1 h2)) hl hk
theorem KxI.stpS [TabOK P T] {a b : AV} (i s : Nat) (ho : ops[i]? = some ⟨d, o, ty, pos, aft, none⟩) (hsub : L0.Sublist L) (hl : look F s = some a) (hs : Sb L a b) (hf : Kx P c n ops L0 K (j0 :: (i :: is ++ es)) F L) (h : E2.gr P T c n true ((s, b) :: F) L ty o fun r => putK d r F fun F => KxI P c n ops L0 K j0 es is F L) : KxI P c n ops L0 K j0 es (i :: is) F L := by
  obtain ⟨r, h1, h2⟩ := gr_out h
  exact .step hf ho (fun r' L' => r' = r ∧ L' = L) (fun _ _ hag hk => Lx.gr rfl ((Gr.see s hl hs (h1 rfl)).congr fun _ hm => look_op hag hm) (hk r L ⟨rfl, rfl⟩)) (fun _ _ e => by rw [e.2]; exact hsub) (fun _ _ e => by obtain ⟨rfl, rfl⟩ := e; exact putK_out h2)
/-- what a piece of code must leave: one of the frames G with the entries S -/
structure Cut {β : Type} (G : β → Fr) (S : β → List Ent) (F : Fr) (L : List Ent) : Prop where
  out : ∃ b, Says F (G b) ∧ (S b).Sublist L
theorem Cut.at {β : Type} {G : β → Fr} {S : β → List Ent} (b : β) (hG : Says F (G b)) (hS : (S b).Sublist L) : Cut G S F L := ⟨b, hG, hS⟩
theorem CK.cutK {β : Type} {m : Nat} {ro : Option Nat} {x : Code} {K : KT} {ds : List Deferred} (G : β → Fr) (S : β → List Ent) (k : ∀ b, K ds .normal (G b) (S b))
    (h : CK P T c m ro x (fun ds' e F L => match e with | .normal => ds' = ds ∧ Cut G S F L | _ => False) ds F L) : CK P T c m ro x K ds F L :=
  ⟨fun Q hQ => h.out Q fun ds' e F L hh => by
    cases e with
    | normal =>
      obtain ⟨rfl, b, hg, hs⟩ := hh
      exact Ex.weak (G b) hg hs (hQ _ _ _ _ (k b))
    | _ => exact hh.elim⟩
end
end Go.E2
