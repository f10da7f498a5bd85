/-
  The arguments of the rows of layer 19 as abstract values.
  Conditions: those of each theorem.
-/
import Derived.Test.YtjfnkmlnbaianaaGreatRows
import Derived.Test.YtjfnkmlnbaianaaGreatE5J
import Derived.Test.YtjfnkmlnbaianaaGreatDQ
import Derived.JoinedCond
namespace Go.Proofs.YtjfnkmlnbaianaaGreat
open Go.E2 Go.Wage
theorem own : ownKnob Tryz.prog.godebug = none := by kernel_rfl
theorem laid : laidOutB Tryz.prog = true := by kernel_rfl
def changeDt : Dt := .st [.int .i64, .int .i64]
def spanDt : Dt := .st [.int .i64, .int .i64]
def zoneDt : Dt := .st [.str, .int .i64, .sl 2 changeDt]
def dutyDt : Dt := .st [.int .i64, .int .i64, .int .i64]
def workerDt : Dt := .st [.str, .int .i64, .bool, .int .i64, .sl 2 spanDt]
def limDt : Dt := .st [.int .i64, .int .i64, spanDt, .int .i64]
def litDt : Dt := .st [.int .i64, .int .i64, .bool]
def planDt : Dt := .st [zoneDt, .sl 3 dutyDt, .sl 5 workerDt, limDt]
theorem dtI : DtOf Tryz.prog 3 (.int .i64) := .int Tryz.underlying3
theorem dtS : DtOf Tryz.prog 9 .str := .str Tryz.underlying9
theorem dtB : DtOf Tryz.prog 4 .bool := .bool Tryz.underlying4
theorem dtChange : DtOf Tryz.prog 140 changeDt := .st Tryz.underlying140 (.cons (k := 1) rfl (by kernel_rfl) dtI (.cons (k := 1) rfl (by kernel_rfl) dtI .nil)) (by kernel_rfl)
theorem dtSpan : DtOf Tryz.prog 28 spanDt := .st Tryz.underlying28 (.cons (k := 1) rfl (by kernel_rfl) dtI (.cons (k := 1) rfl (by kernel_rfl) dtI .nil)) (by kernel_rfl)
theorem dtZone : DtOf Tryz.prog 24 zoneDt := .st Tryz.underlying24 (.cons (k := 1) rfl (by kernel_rfl) dtS (.cons (k := 1) rfl (by kernel_rfl) dtI (.cons (k := 1) rfl (by kernel_rfl) (.sl Tryz.underlying22 (by kernel_rfl) rfl dtChange) .nil))) (by kernel_rfl)
theorem dtDuty : DtOf Tryz.prog 72 dutyDt := .st Tryz.underlying72 (.cons (k := 1) rfl (by kernel_rfl) dtI (.cons (k := 1) rfl (by kernel_rfl) dtI (.cons (k := 1) rfl (by kernel_rfl) dtI .nil))) (by kernel_rfl)
theorem dtWorker : DtOf Tryz.prog 75 workerDt := .st Tryz.underlying75 (.cons (k := 1) rfl (by kernel_rfl) dtS (.cons (k := 1) rfl (by kernel_rfl) dtI (.cons (k := 1) rfl (by kernel_rfl) dtB (.cons (k := 1) rfl (by kernel_rfl) dtI (.cons (k := 1) rfl (by kernel_rfl) (.sl Tryz.underlying73 (by kernel_rfl) rfl dtSpan) .nil))))) (by kernel_rfl)
theorem dtLim : DtOf Tryz.prog 30 limDt := .st Tryz.underlying30 (.cons (k := 1) rfl (by kernel_rfl) dtI (.cons (k := 1) rfl (by kernel_rfl) dtI (.cons (k := 2) rfl (by kernel_rfl) dtSpan (.cons (k := 1) rfl (by kernel_rfl) dtI .nil)))) (by kernel_rfl)
theorem dtPlan : DtOf Tryz.prog 32 planDt := .st Tryz.underlying32 (.cons (k := 3) rfl (by kernel_rfl) dtZone (.cons (k := 1) rfl (by kernel_rfl) (.sl Tryz.underlying25 (by kernel_rfl) rfl dtDuty) (.cons (k := 1) rfl (by kernel_rfl) (.sl Tryz.underlying26 (by kernel_rfl) rfl dtWorker) (.cons (k := 5) rfl (by kernel_rfl) dtLim .nil)))) (by kernel_rfl)
theorem dtLit : DtOf Tryz.prog 47 litDt := .st Tryz.underlying47 (.cons (k := 1) rfl (by kernel_rfl) dtI (.cons (k := 1) rfl (by kernel_rfl) dtI (.cons (k := 1) rfl (by kernel_rfl) dtB .nil))) (by kernel_rfl)
theorem dlP {ts : List TypeId} {ds : List Dt} (h : DtL Tryz.prog ts ds) : DtL Tryz.prog (32 :: ts) (planDt :: ds) := .cons dtPlan (by kernel_rfl) (of_decide_eq_true (by kernel_rfl)) h
theorem dtLits : DtOf Tryz.prog 34 (.sl 3 litDt) := .sl Tryz.underlying34 (by kernel_rfl) rfl dtLit
theorem dtClauses : DtOf Tryz.prog 33 (.sl 1 (.sl 3 litDt)) := .sl Tryz.underlying33 (by kernel_rfl) rfl dtLits
theorem dtU8 : DtOf Tryz.prog 5 (.int .u8) := .int Tryz.underlying5
theorem dtU8s : DtOf Tryz.prog 65 (.sl 1 (.int .u8)) := .sl Tryz.underlying65 (by kernel_rfl) rfl dtU8
theorem dlC {ts : List TypeId} {ds : List Dt} (h : DtL Tryz.prog ts ds) : DtL Tryz.prog (33 :: ts) (.sl 1 (.sl 3 litDt) :: ds) := .cons dtClauses (by kernel_rfl) (of_decide_eq_true (by kernel_rfl)) h
theorem dlV {ts : List TypeId} {ds : List Dt} (h : DtL Tryz.prog ts ds) : DtL Tryz.prog (34 :: ts) (.sl 3 litDt :: ds) := .cons dtLits (by kernel_rfl) (of_decide_eq_true (by kernel_rfl)) h
theorem dlE {ts : List TypeId} {ds : List Dt} (h : DtL Tryz.prog ts ds) : DtL Tryz.prog (65 :: ts) (.sl 1 (.int .u8) :: ds) := .cons dtU8s (by kernel_rfl) (of_decide_eq_true (by kernel_rfl)) h
theorem u8_of {n : Int} (h : (Lit.int .u8 n).wf = true) : 0 ≤ n ∧ n ≤ 255 := by
 simp [Lit.wf, IntKind.min, IntKind.max, IntKind.signed, IntKind.bits] at h
 omega
theorem has_int {k : IntKind} {cs : List AV} (h : Has (.int k) cs) : ∃ n, cs = [.v (.int k n)] ∧ (Lit.int k n).wf = true := by cases h with | int h => exact ⟨_, rfl, h⟩
theorem has_str {cs : List AV} (h : Has .str cs) : ∃ s, cs = [.v (.string s)] ∧ s.size ≤ 9223372036854775807 := by
 cases h with | str h => exact ⟨_, rfl, by simp [maxLen] at h; omega⟩
theorem has_bool {cs : List AV} (h : Has .bool cs) : ∃ b, cs = [.v (.bool b)] := by cases h with | bool => exact ⟨_, rfl⟩
theorem map_of2 {α : Type} {f : α → AV} {p : α → Prop} : ∀ {xs : List AV}, (∀ x ∈ xs, ∃ t, x = f t ∧ p t) → ∃ l : List α, xs = l.map f ∧ ∀ t ∈ l, p t
 | [], _ => ⟨[], rfl, by simp⟩
 | x :: xs, h => by
  obtain ⟨t, rfl, ht⟩ := h x (by simp)
  obtain ⟨l, rfl, hl⟩ := map_of2 (f := f) (p := p) (xs := xs) (fun y hy => h y (by simp [hy]))
  exact ⟨t :: l, rfl, by
   intro y hy
   rcases List.mem_cons.1 hy with rfl | hy
   ·exact ht
   ·exact hl y hy⟩
theorem has_sl {α : Type} {f : α → AV} {q : α → Prop} {k : Nat} {d : Dt} {cs : List AV} (h : Has (.sl k d) cs) (hd : d.isSt = true) (hx : ∀ x, Has d x.cells → isA x = true → ∃ t, x = f t ∧ q t) : ∃ l : List α, cs = [.sl k (l.map f)] ∧ (∀ t ∈ l, q t) ∧ l.length ≤ 9223372036854775807 := by
 cases h with
 | sl g1 g2 g3 =>
  obtain ⟨l, rfl, hl⟩ := map_of2 (fun x h => hx x (g1 x h) (by rw [g2 x h]; exact hd))
  exact ⟨l, rfl, hl, by rw [List.length_map] at g3; simp [maxLen] at g3; omega⟩
theorem has_change {x : AV} (h : Has changeDt x.cells) (ha : isA x = true) : ∃ c : Int × Int, x = chav c ∧ True := by
 cases x <;> first | (cases ha; done) | skip
 rename_i cs
 cases h with
 | st h =>
  cases h with | cons h1 h =>
  cases h with | cons h2 h =>
  cases h
  obtain ⟨a, rfl, _⟩ := has_int h1
  obtain ⟨b, rfl, _⟩ := has_int h2
  exact ⟨(a, b), rfl, trivial⟩
theorem has_span {x : AV} (h : Has spanDt x.cells) (ha : isA x = true) : ∃ c : Sp, x = spav c ∧ True := by
 cases x <;> first | (cases ha; done) | skip
 rename_i cs
 cases h with
 | st h =>
  cases h with | cons h1 h =>
  cases h with | cons h2 h =>
  cases h
  obtain ⟨a, rfl, _⟩ := has_int h1
  obtain ⟨b, rfl, _⟩ := has_int h2
  exact ⟨(a, b), rfl, trivial⟩
theorem has_duty {x : AV} (h : Has dutyDt x.cells) (ha : isA x = true) : ∃ d : Du, x = duav d ∧ True := by
 cases x <;> first | (cases ha; done) | skip
 rename_i cs
 cases h with
 | st h =>
  cases h with | cons h1 h =>
  cases h with | cons h2 h =>
  cases h with | cons h3 h =>
  cases h
  obtain ⟨a, rfl, _⟩ := has_int h1
  obtain ⟨b, rfl, _⟩ := has_int h2
  obtain ⟨c, rfl, _⟩ := has_int h3
  exact ⟨⟨a, b, c⟩, rfl, trivial⟩
theorem has_worker {x : AV} (h : Has workerDt x.cells) (ha : isA x = true) : ∃ w : Wk, x = wkav w ∧ w.away.length ≤ 9223372036854775807 := by
 cases x <;> first | (cases ha; done) | skip
 rename_i cs
 cases h with
 | st h =>
  cases h with | cons h1 h =>
  cases h with | cons h2 h =>
  cases h with | cons h3 h =>
  cases h with | cons h4 h =>
  cases h with | cons h5 h =>
  cases h
  obtain ⟨a, rfl, _⟩ := has_str h1
  obtain ⟨b, rfl, _⟩ := has_int h2
  obtain ⟨c, rfl⟩ := has_bool h3
  obtain ⟨d, rfl, _⟩ := has_int h4
  obtain ⟨l, rfl, _, hl⟩ := has_sl (f := spav) (q := fun _ => True) h5 rfl fun x => has_span
  exact ⟨⟨a, b, c, d, l⟩, rfl, hl⟩
theorem has_plan {x : AV} (h : Has planDt x.cells) (ha : isA x = true) : ∃ p : Pl, x = .agg (pcs p) ∧ PlZ p := by
 cases x <;> first | (cases ha; done) | skip
 rename_i cs
 cases h with
 | st h =>
  cases h with | cons h1 h =>
  cases h with | cons h2 h =>
  cases h with | cons h3 h =>
  cases h with | cons h4 h =>
  cases h
  obtain ⟨ds, rfl, _, hd⟩ := has_sl (f := duav) (q := fun _ => True) h2 rfl fun x => has_duty
  obtain ⟨ws, rfl, hw1, hw2⟩ := has_sl (f := wkav) (q := fun w => w.away.length ≤ 9223372036854775807) h3 rfl fun x => has_worker
  cases h1 with
  | st h =>
   cases h with | cons z1 h =>
   cases h with | cons z2 h =>
   cases h with | cons z3 h =>
   cases h
   obtain ⟨a, rfl, _⟩ := has_str z1
   obtain ⟨b, rfl, _⟩ := has_int z2
   obtain ⟨l, rfl, _, hl⟩ := has_sl (f := chav) (q := fun _ => True) z3 rfl fun x => has_change
   cases h4 with
   | st h =>
    cases h with | cons l1 h =>
    cases h with | cons l2 h =>
    cases h with | cons l3 h =>
    cases h with | cons l4 h =>
    cases h
    obtain ⟨r, rfl, _⟩ := has_int l1
    obtain ⟨w, rfl, _⟩ := has_int l2
    obtain ⟨m, rfl, _⟩ := has_int l4
    cases l3 with
    | st h =>
     cases h with | cons s1 h =>
     cases h with | cons s2 h =>
     cases h
     obtain ⟨n1, rfl, _⟩ := has_int s1
     obtain ⟨n2, rfl, _⟩ := has_int s2
     exact ⟨⟨⟨a, b, l⟩, ds, ws, ⟨r, w, (n1, n2), m⟩⟩, rfl, ⟨hl, hd, hw2, hw1⟩⟩
theorem arg_plan {a : AV} (h : Has planDt a.cells) (ha : isA a = true) : ∃ p : Pl, a = .agg (pcs p) ∧ PlZ p := has_plan h ha
theorem arg_int {k : IntKind} {a : AV} (h : Has (.int k) a.cells) (ha : isA a = false) : ∃ n, a = .v (.int k n) ∧ (Lit.int k n).wf = true := by
 rw [isA_cells ha] at h
 obtain ⟨n, h1, h2⟩ := has_int h
 simp only [List.cons.injEq, and_true] at h1
 exact ⟨n, h1, h2⟩
theorem has_lit {x : AV} (h : Has litDt x.cells) (ha : isA x = true) : ∃ l : Lt, x = ltav l ∧ True := by
 cases x <;> first | (cases ha; done) | skip
 rename_i cs
 cases h with
 | st h =>
  cases h with | cons h1 h =>
  cases h with | cons h2 h =>
  cases h with | cons h3 h =>
  cases h
  obtain ⟨a, rfl, _⟩ := has_int h1
  obtain ⟨b, rfl, _⟩ := has_int h2
  obtain ⟨c, rfl⟩ := has_bool h3
  exact ⟨⟨a, b, c⟩, rfl, trivial⟩
theorem arg_lits {a : AV} (h : Has (.sl 3 litDt) a.cells) (ha : isA a = false) : ∃ l : List Lt, a = .sl 3 (l.map ltav) := by
 rw [isA_cells ha] at h
 generalize hc : [a] = cs at h
 obtain ⟨l, h1, _, _⟩ := has_sl (f := ltav) (q := fun _ => True) h rfl fun x => has_lit
 subst hc
 simp only [List.cons.injEq, and_true] at h1
 exact ⟨l, h1⟩
theorem arg_clauses {a : AV} (h : Has (.sl 1 (.sl 3 litDt)) a.cells) (ha : isA a = false) : ∃ l : List (List Lt), a = .sl 1 (clO l) := by
 rw [isA_cells ha] at h
 generalize hc : [a] = cs at h
 cases h with
 | sl g1 g2 g3 =>
  simp only [List.cons.injEq, and_true] at hc
  subst hc
  obtain ⟨l, rfl, _⟩ := map_of2 (f := fun c : List Lt => AV.sl 3 (c.map ltav)) (p := fun _ => True) (fun x hx => by
   obtain ⟨n, h1⟩ := arg_lits (g1 x hx) (by rw [g2 x hx]; rfl)
   exact ⟨n, h1, trivial⟩)
  exact ⟨l, rfl⟩
theorem arg_u8s {a : AV} (h : Has (.sl 1 (.int .u8)) a.cells) (ha : isA a = false) : ∃ l : List Int, a = .sl 1 (l.map U8) ∧ l.length ≤ 9223372036854775807 ∧ ∀ n ∈ l, 0 ≤ n ∧ n ≤ 255 := by
 rw [isA_cells ha] at h
 generalize hc : [a] = cs at h
 cases h with
 | sl g1 g2 g3 =>
  simp only [List.cons.injEq, and_true] at hc
  subst hc
  obtain ⟨l, rfl, hl⟩ := map_of2 (f := U8) (p := fun n => 0 ≤ n ∧ n ≤ 255) (fun x hx => by
   obtain ⟨n, h1, h2⟩ := arg_int (g1 x hx) (by rw [g2 x hx]; rfl)
   exact ⟨n, h1, u8_of h2⟩)
  exact ⟨l, rfl, by rw [List.length_map] at g3; simp [maxLen] at g3; omega, hl⟩
theorem wt_lits : ∀ l : List Lt, AV.wtL (l.map ltav) = 3 * l.length
 | [] => rfl
 | x :: l => by rw [List.map_cons, AV.wtL, wt_lits l, List.length_cons]; simp [ltav, AV.wt, AV.wtL]; omega
theorem wt_clauses : ∀ l : List (List Lt), l.length + (l.map List.length).sum ≤ AV.wtL (clO l)
 | [] => by simp [AV.wtL]
 | c :: l => by
  have := wt_clauses l
  simp only [clO, List.map_cons, AV.wtL, AV.wt, wt_lits, List.sum_cons, List.length_cons] at this ⊢
  omega
theorem wt_few {l : List (List Lt)} {g : List Lt} {xs bs : List AV} {n : Nat} (h : AV.wtL (xs ++ [.sl 1 (clO l), .sl 3 (g.map ltav)] ++ bs) ≤ n) : fewN l g ≤ n := by
 rw [wtL_app, wtL_app] at h
 have h1 := wt_clauses l
 have h2 := wt_lits g
 simp only [AV.wtL, AV.wt] at h
 unfold fewN
 omega
theorem bulk_one {H : Type} (d : DataW H) : 1 ≤ Rows.uptoBulk d := by
 cases d with
 | lit l => cases l <;> simp [Rows.uptoBulk]
 | nil => simp [Rows.uptoBulk]
 | ptr d => simp [Rows.uptoBulk]
 | slice elems spare => simp [Rows.uptoBulk]
 | agg parts => simp [Rows.uptoBulk]
 | iface t d => simp [Rows.uptoBulk]
 | map entries => simp [Rows.uptoBulk]
 | held h => simp [Rows.uptoBulk]
theorem bulk_sum {H : Type} : ∀ l : List (DataW H), (l.map Rows.uptoBulk).sum = Rows.uptoBulkAll l
 | [] => by simp [Rows.uptoBulkAll]
 | x :: l => by simp only [List.map_cons, List.sum_cons, Rows.uptoBulkAll, bulk_sum l]
theorem bulk_ok {H : Type} : Blk (Rows.uptoBulk (H := H)) := ⟨bulk_one, fun l => by rw [bulk_sum]; simp only [Rows.uptoBulk]; omega, fun l r => by rw [bulk_sum]; simp only [Rows.uptoBulk]; omega⟩
theorem bulk_bd {H : Type} {l : List (DataW H)} (hk : Rows.uptoSmall H l = true) : (l.map Rows.uptoBulk).sum ≤ 1048576 := by
 rw [bulk_sum]
 exact of_decide_eq_true hk
end Go.Proofs.YtjfnkmlnbaianaaGreat
