/-
  Plain part of chapter 3: zones, minutes counted, minutes by days.
  Conditions: those of each theorem.
-/
import Derived.Test.YtjfnkmlnbaianaaGreatPB
namespace Go.Wage
structure Zo where
 name : ByteArray
 base : Int
 chs : List (Int × Int)
def okC (z : Zo) (i : Nat) : Bool :=
 decide (0 ≤ (z.chs.getD i default).1 ∧ (z.chs.getD i default).1 ≤ 52595999) && (decide (i = 0) || decide (2880 ≤ (z.chs.getD i default).1 - (z.chs.getD (i - 1) default).1)) &&
  decide (-840 ≤ (z.chs.getD i default).2 ∧ (z.chs.getD i default).2 ≤ 840) && decide ((z.chs.getD i default).2 - (if i = 0 then z.base else (z.chs.getD (i - 1) default).2) ≤ 60 ∧ (if i = 0 then z.base else (z.chs.getD (i - 1) default).2) - (z.chs.getD i default).2 ≤ 60)
def validZ (z : Zo) : Bool := decide (z.chs.length ≤ 64) && decide (-840 ≤ z.base ∧ z.base ≤ 840) && (List.range z.chs.length).all (okC z)
def strZ : Int → List (Int × Int) → Int → Int → List (Sp × Int)
 | off, [], a, b => if a < b then [((a, b), off)] else []
 | off, c :: cs, a, b => if a < min c.1 b then ((a, min c.1 b), off) :: strZ c.2 cs (min c.1 b) b else strZ c.2 cs a b
end Go.Wage
namespace Go.Wage
def inW (w : Sp) (x : Int) : Bool := if w.1 > w.2 then decide (w.1 ≤ x) || decide (x < w.2) else decide (w.1 ≤ x) && decide (x < w.2)
def cntI (p : Int → Bool) (a : Int) : Nat → Int
 | 0 => 0
 | n + 1 => cntI p a n + if p (a + n) = true then 1 else 0
def cnt (p : Int → Bool) (a b : Int) : Int := cntI p a (b - a).toNat
theorem cntI_bd (p : Int → Bool) (a : Int) : ∀ n : Nat, 0 ≤ cntI p a n ∧ cntI p a n ≤ n
 | 0 => by simp [cntI]
 | n + 1 => by
  have := cntI_bd p a n
  rw [cntI]
  split <;> omega
theorem cnt_bd (p : Int → Bool) {a b : Int} (h : a ≤ b) : 0 ≤ cnt p a b ∧ cnt p a b ≤ b - a := by
 have := cntI_bd p a (b - a).toNat
 unfold cnt; omega
theorem cntI_add (p : Int → Bool) (a : Int) (m : Nat) : ∀ n : Nat, cntI p a (m + n) = cntI p a m + cntI p (a + m) n
 | 0 => by simp [cntI]
 | n + 1 => by
  rw [← Nat.add_assoc, cntI, cntI_add p a m n, cntI, show a + ((m + n : Nat) : Int) = a + m + n by omega]
  omega
theorem cnt_add (p : Int → Bool) {a b c : Int} (h1 : a ≤ b) (h2 : b ≤ c) : cnt p a c = cnt p a b + cnt p b c := by
 unfold cnt
 rw [show (c - a).toNat = (b - a).toNat + (c - b).toNat by omega, cntI_add, show a + ((b - a).toNat : Int) = b by omega]
theorem cnt_self (p : Int → Bool) (a : Int) : cnt p a a = 0 := by unfold cnt; simp [cntI]
theorem cnt_congr {p q : Int → Bool} {a : Int} : ∀ {n : Nat} {d : Int}, (∀ x, a ≤ x → x < a + n → p x = q (x + d)) → cntI p a n = cntI q (a + d) n
 | 0, _, _ => rfl
 | n + 1, d, h => by
  rw [cntI, cntI, cnt_congr (n := n) fun x h1 h2 => h x h1 (by omega), h (a + n) (by omega) (by omega), show a + (n : Int) + d = a + d + n by omega]
theorem cnt_shift {p q : Int → Bool} {a b d : Int} (h : ∀ x, a ≤ x → x < b → p x = q (x + d)) (hab : a ≤ b) : cnt p a b = cnt q (a + d) (b + d) := by
 unfold cnt
 rw [show (b + d - (a + d)).toNat = (b - a).toNat by omega]
 exact cnt_congr fun x h1 h2 => h x h1 (by omega)
def winR (a b : Int) (w : Sp) : Int := if w.1 > w.2 then max (b - max a w.1) 0 + max (min b w.2 - a) 0 else max (min b w.2 - max a w.1) 0
theorem winR_cnt {a : Int} {w : Sp} (ha : 0 ≤ a) (hw : 0 ≤ w.1 ∧ 0 ≤ w.2) : ∀ n : Nat, winR a (a + n) w = cntI (inW w) a n
 | 0 => by
  rw [cntI]
  unfold winR
  split <;> omega
 | n + 1 => by
  have ih := winR_cnt ha hw n
  rw [cntI, ← ih]
  unfold winR inW
  by_cases h : w.1 > w.2
  ·simp only [h, if_true, Bool.or_eq_true, decide_eq_true_eq]
   split <;> omega
  ·simp only [h, if_false, Bool.and_eq_true, decide_eq_true_eq]
   split <;> omega
def winM (w : Sp) (a b : Int) : Int := cnt (fun x => inW w (x % 1440)) a b
theorem win_step {w : Sp} {l e : Int} (hw : 0 ≤ w.1 ∧ 0 ≤ w.2) (h : l < e) :
  winM w l e = winR (l - l / 1440 * 1440) (min (l / 1440 * 1440 + 1440) e - l / 1440 * 1440) w + winM w (min (l / 1440 * 1440 + 1440) e) e := by
 have h1 : l / 1440 * 1440 ≤ l ∧ l < l / 1440 * 1440 + 1440 := by omega
 generalize hs : l / 1440 * 1440 = s at *
 have hd : s % 1440 = 0 := by omega
 unfold winM
 rw [cnt_add _ (b := min (s + 1440) e) (by omega) (by omega)]
 congr 1
 rw [cnt_shift (q := inW w) (d := -s) (fun x h2 h3 => by rw [show x % 1440 = x + -s by omega]) (by omega)]
 have := winR_cnt (a := l + -s) (w := w) (by omega) hw (min (s + 1440) e + -s - (l + -s)).toNat
 unfold cnt
 rw [← this]
 congr 1
 omega
def winZ (w : Sp) (l : List (Sp × Int)) : Int := (l.map fun s => winM w (s.1.1 + s.2) (s.1.2 + s.2)).sum
theorem strZ_mem : ∀ {cs : List (Int × Int)} {off a b : Int} {s : Sp × Int}, s ∈ strZ off cs a b → (-840 ≤ off ∧ off ≤ 840) → (∀ c ∈ cs, -840 ≤ c.2 ∧ c.2 ≤ 840) → a ≤ s.1.1 ∧ s.1.1 < s.1.2 ∧ s.1.2 ≤ b ∧ -840 ≤ s.2 ∧ s.2 ≤ 840
 | [], off, a, b, s, h, h1, _ => by
  rw [strZ] at h
  split at h
  ·simp at h; subst h; simp only; omega
  ·cases h
 | c :: cs, off, a, b, s, h, h1, h2 => by
  have hc := h2 c (by simp)
  rw [strZ] at h
  split at h
  ·rcases List.mem_cons.1 h with rfl | h
   ·simp only; omega
   ·have := strZ_mem h hc fun d hd => h2 d (by simp [hd])
    omega
  ·exact strZ_mem h hc fun d hd => h2 d (by simp [hd])
theorem strZ_len : ∀ (cs : List (Int × Int)) (off a b : Int), (strZ off cs a b).length ≤ cs.length + 1
 | [], off, a, b => by rw [strZ]; split <;> simp
 | c :: cs, off, a, b => by
  rw [strZ]
  split
  ·have := strZ_len cs c.2 (min c.1 b) b
   simp only [List.length_cons]; omega
  ·have := strZ_len cs c.2 a b
   simp only [List.length_cons]; omega
theorem winM_bd (w : Sp) {a b : Int} (h : a ≤ b) : 0 ≤ winM w a b ∧ winM w a b ≤ b - a := cnt_bd _ h
end Go.Wage
namespace Go.Wage
theorem ord_ext {α : Type} {lt : α → α → Prop} (irr : ∀ a, ¬ lt a a) (tr : ∀ a b c, lt a b → lt b c → lt a c) : ∀ {l m : List α}, l.Pairwise lt → m.Pairwise lt → (∀ x, x ∈ l ↔ x ∈ m) → l = m
 | [], [], _, _, _ => rfl
 | [], y :: m, _, _, h => by have := (h y).2 (by simp); cases this
 | x :: l, [], _, _, h => by have := (h x).1 (by simp); cases this
 | x :: l, y :: m, h1, h2, h => by
  rw [List.pairwise_cons] at h1 h2
  have e : x = y := by
   rcases List.mem_cons.1 ((h x).1 (by simp)) with e | hx
   ·exact e
   rcases List.mem_cons.1 ((h y).2 (by simp)) with e | hy
   ·exact e.symm
   exact absurd (tr _ _ _ (h1.1 y hy) (h2.1 x hx)) (irr _)
  subst e
  rw [ord_ext irr tr h1.2 h2.2 fun z => ⟨fun hz => ?_, fun hz => ?_⟩]
  ·rcases List.mem_cons.1 ((h z).1 (by simp [hz])) with rfl | h'
   ·exact absurd (h1.1 z hz) (irr z)
   ·exact h'
  ·rcases List.mem_cons.1 ((h z).2 (by simp [hz])) with rfl | h'
   ·exact absurd (h2.1 z hz) (irr z)
   ·exact h'
def dayM (d a b : Int) : Int := max (min b (1440 * d + 1440) - max a (1440 * d)) 0
def dyZ (X : List (Sp × Int)) (d : Int) : Int := (X.map fun s => dayM d (s.1.1 + s.2) (s.1.2 + s.2)).sum
theorem dayM_nn (d a b : Int) : 0 ≤ dayM d a b := by unfold dayM; omega
theorem dayM_self (d a : Int) : dayM d a a = 0 := by unfold dayM; omega
theorem dayM_bd {d a b : Int} (h : a ≤ b) : dayM d a b ≤ b - a := by unfold dayM; omega
theorem day_next {d a l e : Int} (h0 : a ≤ l) (h : l < e) : dayM d a (min ((l / 1440 + 1) * 1440) e) = dayM d a l + if d = l / 1440 then min ((l / 1440 + 1) * 1440) e - l else 0 := by
 unfold dayM
 split <;> omega
theorem dyZ_cons (s : Sp × Int) (X : List (Sp × Int)) (d : Int) : dyZ (s :: X) d = dayM d (s.1.1 + s.2) (s.1.2 + s.2) + dyZ X d := by simp [dyZ]
theorem dyZ_app (X Y : List (Sp × Int)) (d : Int) : dyZ (X ++ Y) d = dyZ X d + dyZ Y d := by simp [dyZ]
theorem dyZ_nn (d : Int) : ∀ X : List (Sp × Int), 0 ≤ dyZ X d
 | [] => by simp [dyZ]
 | s :: X => by
  rw [dyZ_cons]
  have := dyZ_nn d X
  have := dayM_nn d (s.1.1 + s.2) (s.1.2 + s.2)
  omega
theorem dyZ_bd (d : Int) : ∀ X : List (Sp × Int), (∀ s ∈ X, s.1.1 ≤ s.1.2 ∧ s.1.2 - s.1.1 ≤ 44640) → dyZ X d ≤ 44640 * X.length
 | [], _ => by simp [dyZ]
 | s :: X, h => by
  rw [dyZ_cons, List.length_cons]
  have := dyZ_bd d X fun t ht => h t (by simp [ht])
  have h1 := h s (by simp)
  have := dayM_bd (d := d) (a := s.1.1 + s.2) (b := s.1.2 + s.2) (by omega)
  omega
theorem dyZ_in {d a b : Int} : ∀ {X : List (Sp × Int)}, (∀ s ∈ X, a ≤ s.1.1 ∧ s.1.2 ≤ b ∧ -840 ≤ s.2 ∧ s.2 ≤ 840) → 0 < dyZ X d → (a - 840) / 1440 ≤ d ∧ d ≤ (b + 840) / 1440
 | [], _, h => by simp [dyZ] at h
 | s :: X, hX, h => by
  rw [dyZ_cons] at h
  by_cases h2 : 0 < dyZ X d
  ·exact dyZ_in (fun t ht => hX t (by simp [ht])) h2
  ·have h1 := hX s (by simp)
   have h3 : 0 < dayM d (s.1.1 + s.2) (s.1.2 + s.2) := by omega
   unfold dayM at h3
   omega
def prtZ (X : List (Sp × Int)) (lo : Int) : Nat → List (Int × Int)
 | 0 => []
 | n + 1 => (if 0 < dyZ X lo then [(lo, dyZ X lo)] else []) ++ prtZ X (lo + 1) n
theorem prtZ_mem {X : List (Sp × Int)} : ∀ {n : Nat} {lo : Int} {p : Int × Int}, p ∈ prtZ X lo n ↔ lo ≤ p.1 ∧ p.1 < lo + n ∧ 0 < dyZ X p.1 ∧ p.2 = dyZ X p.1
 | 0, lo, p => by simp only [prtZ, List.not_mem_nil, false_iff]; omega
 | n + 1, lo, p => by
  rw [prtZ, List.mem_append, prtZ_mem]
  by_cases e : p.1 = lo
  ·subst e
   constructor
   ·rintro (h | h)
    ·split at h
     ·rename_i h2
      simp only [List.mem_singleton] at h
      rw [h]
      simp only [and_true]
      rw [h] at h2
      exact ⟨by omega, by omega, h2⟩
     ·cases h
    ·omega
   ·intro h
    rw [if_pos h.2.2.1]
    left
    rw [List.mem_singleton, ← h.2.2.2]
  ·constructor
   ·rintro (h | h)
    ·split at h
     ·simp only [List.mem_singleton] at h
      rw [h] at e
      exact absurd rfl e
     ·cases h
    ·exact ⟨by omega, by omega, h.2.2⟩
   ·intro h
    exact .inr ⟨by omega, by omega, h.2.2⟩
theorem prtZ_ord {X : List (Sp × Int)} : ∀ (n : Nat) (lo : Int), (prtZ X lo n).Pairwise fun a b => a.1 < b.1
 | 0, lo => .nil
 | n + 1, lo => by
  rw [prtZ, List.pairwise_append]
  refine ⟨by split <;> simp, prtZ_ord n _, fun a ha b hb => ?_⟩
  have := prtZ_mem.1 hb
  split at ha
  ·simp only [List.mem_singleton] at ha
   subst ha
   simp only
   omega
  ·cases ha
def prt (X : List (Sp × Int)) (a b : Int) : List (Int × Int) := prtZ X ((a - 840) / 1440) (((b + 840) / 1440 - (a - 840) / 1440).toNat + 1)
theorem prt_mem {X : List (Sp × Int)} {a b : Int} (h : ∀ s ∈ X, a ≤ s.1.1 ∧ s.1.2 ≤ b ∧ -840 ≤ s.2 ∧ s.2 ≤ 840) (hab : a ≤ b) {p : Int × Int} : p ∈ prt X a b ↔ 0 < dyZ X p.1 ∧ p.2 = dyZ X p.1 := by
 rw [prt, prtZ_mem]
 constructor
 ·exact fun h => h.2.2
 ·intro h2
  have := dyZ_in h h2.1
  exact ⟨this.1, by omega, h2⟩
theorem prt_ord (X : List (Sp × Int)) (a b : Int) : (prt X a b).Pairwise fun a b => a.1 < b.1 := prtZ_ord _ _
theorem prt_of {X : List (Sp × Int)} {a b : Int} (h : ∀ s ∈ X, a ≤ s.1.1 ∧ s.1.2 ≤ b ∧ -840 ≤ s.2 ∧ s.2 ≤ 840) (hab : a ≤ b) {ks : List Int} (ho : ks.Pairwise (· < ·)) (hk : ∀ d, d ∈ ks ↔ 0 < dyZ X d) : ks.map (fun d => (d, dyZ X d)) = prt X a b := by
 refine ord_ext (lt := fun a b : Int × Int => a.1 < b.1) (fun a => by omega) (fun a b c => by omega) ?_ (prt_ord _ _ _) fun p => ?_
 ·rw [List.pairwise_map]; exact ho
 ·rw [prt_mem h hab]
  constructor
  ·intro hp
   obtain ⟨d, hd, rfl⟩ := List.mem_map.1 hp
   exact ⟨(hk d).1 hd, rfl⟩
  ·intro hp
   exact List.mem_map.2 ⟨p.1, (hk _).2 hp.1, by rw [← hp.2]⟩
def okDay (d : Int) : Bool := decide (0 ≤ d ∧ d ≤ 36524)
def splitZ (z : Zo) (a b : Int) : List (Int × Int) := prt (strZ z.base z.chs a b) a b
def splitOk (z : Zo) (a b : Int) : Bool := (splitZ z a b).all fun p => okDay p.1
end Go.Wage
