/- Proved: what a product with a sum of intervals has is within the sum of the products; for all whole numbers a to f, as the given row says it. -/
import Derived.Test.YtincnfjihffllaaB5
import Derived.Test.YtincnfjihffllaaRows
import Derived.Test.YtincnfjihffllaaChecked
import Derived.WalkKit
import Derived.ProofKit
import Derived.OpenShut
import Derived.ShutString
import Derived.ChangeOld
import Derived.Below
import Derived.SizedLaws
import Derived.Carry
import Derived.RowKit
set_option linter.unusedVariables false
set_option linter.unusedSimpArgs false

/- Products and sums of whole numbers, and what intervals make of them: plain Lean. -/
namespace Go.Proofs.Ytincnfjihffllaa.Ev
open Go

def Int.sm (n : Int) : Prop := -4611686018427387904 ≤ n ∧ n ≤ 4611686018427387904
theorem ofInt_fine {n : Int} (h : Int.sm n) : (Num.ofInt n).may = true ∧ (Num.ofInt n).ok ∧ (Num.ofInt n).kind ≠ 2 ∧ (Num.ofInt n).fair = Num.ofInt n ∧ (Num.ofInt n).val = n * pw 0 := by
  unfold Int.sm at h
  have hv := ofInt_val (n := n) (by omega)
  by_cases h0 : n = 0
  · subst h0
    exact ⟨by decide, Num.ofInt_ok 0, by decide, by decide, hv⟩
  · obtain ⟨f, _, _⟩ := ofInt_fin h0 (by omega)
    have hk := f.kind
    exact ⟨f.may, f.ok, by omega, Num.fair_of_may f.may, hv⟩

theorem ofInt_inj {r : Num} {n : Int} (h : Int.sm n) (m : r.may = true) (o : r.ok) (hv : r.val = n * pw 0) : r = Num.ofInt n := by
  obtain ⟨h1, h2, _, _, h5⟩ := ofInt_fine h
  exact Num.val_inj m h1 o h2 (by rw [hv, h5])
theorem ofInt_le {a b : Int} (ha : Int.sm a) (hb : Int.sm b) : (Num.ofInt a).cmp (Num.ofInt b) ≤ 0 ↔ a ≤ b := by
  obtain ⟨_, o1, _, f1, v1⟩ := ofInt_fine ha
  obtain ⟨_, o2, _, f2, v2⟩ := ofInt_fine hb
  rw [Num.cmp_le o1 o2, f1, f2, v1, v2]
  have p := pw_pos 0
  constructor
  · intro h; exact Int.le_of_mul_le_mul_right h p
  · intro h; exact Int.mul_le_mul_of_nonneg_right h (Int.le_of_lt p)
theorem ofInt_add {a b : Int} (ha : Int.sm a) (hb : Int.sm b) (hs : Int.sm (a + b)) (up : Bool) : Num.add (Num.ofInt a) (Num.ofInt b) up = Num.ofInt (a + b) := by
  obtain ⟨_, o1, k1, f1, v1⟩ := ofInt_fine ha
  obtain ⟨_, o2, k2, f2, v2⟩ := ofInt_fine hb
  obtain ⟨m3, o3, k3, _, v3⟩ := ofInt_fine hs
  have B := add_best o1 o2 (by rw [f1]; exact k1) (by rw [f2]; exact k2) up
  rw [f1, f2, v1, v2] at B
  exact B.exact (by decide) m3 o3 k3 (by rw [v3]; grind)
theorem ofInt_mul {a b : Int} (ha : Int.sm a) (hb : Int.sm b) (hs : Int.sm (a * b)) (up : Bool) : Num.mul (Num.ofInt a) (Num.ofInt b) up = Num.ofInt (a * b) := by
  obtain ⟨_, o1, k1, f1, v1⟩ := ofInt_fine ha
  obtain ⟨_, o2, k2, f2, v2⟩ := ofInt_fine hb
  obtain ⟨m3, o3, k3, _, v3⟩ := ofInt_fine hs
  have B := mul_best o1 o2 (by rw [f1]; exact k1) (by rw [f2]; exact k2) up
  rw [f1, f2, v1, v2] at B
  exact B.exact (pw_pos 0) m3 o3 k3 (by rw [v3]; grind)
theorem ofInt_opp {a : Int} (ha : Int.sm a) : (Num.ofInt a).opp = Num.ofInt (-a) := by
  obtain ⟨_, o1, k1, f1, v1⟩ := ofInt_fine ha
  refine ofInt_inj (by unfold Int.sm at *; omega) (Num.opp_may _) (Num.opp_ok o1) ?_
  rw [Num.opp_val, f1, v1]; grind

theorem ofInt_least {l : List Int} {m : Int} (hl : ∀ x ∈ l, Int.sm x) (hm : m ∈ l) (h : ∀ x ∈ l, m ≤ x) : Num.least (l.map Num.ofInt) = Num.ofInt m := by
  have hok : ∀ y ∈ l.map Num.ofInt, y.ok := by
    intro y hy
    obtain ⟨x, hx, rfl⟩ := List.mem_map.1 hy
    exact (ofInt_fine (hl x hx)).2.1
  obtain ⟨h1, h2, h3, h4⟩ := Num.least_spec (l.map Num.ofInt) hok
  have fm := ofInt_fine (hl m hm)
  refine ofInt_inj (hl m hm) h1 h2 ?_
  have p := pw_pos 0
  refine Int.le_antisymm ?_ ?_
  · have := h3 _ (List.mem_map.2 ⟨m, hm, rfl⟩)
    rw [fm.2.2.2.1, fm.2.2.2.2] at this
    exact this
  · rcases h4 with h4 | ⟨y, hy, h4⟩
    · rw [h4, Num.val_inf]
      have := (Num.val_le fm.1 fm.2.1).2
      rw [fm.2.2.2.2] at this
      simpa using this
    · obtain ⟨x, hx, rfl⟩ := List.mem_map.1 hy
      have fx := ofInt_fine (hl x hx)
      rw [h4, fx.2.2.2.1, fx.2.2.2.2]
      exact Int.mul_le_mul_of_nonneg_right (h x hx) (Int.le_of_lt p)
theorem ofInt_most {l : List Int} {m : Int} (hl : ∀ x ∈ l, Int.sm x) (hm : m ∈ l) (h : ∀ x ∈ l, x ≤ m) : Num.most (l.map Num.ofInt) = Num.ofInt m := by
  have hok : ∀ y ∈ l.map Num.ofInt, y.ok := by
    intro y hy
    obtain ⟨x, hx, rfl⟩ := List.mem_map.1 hy
    exact (ofInt_fine (hl x hx)).2.1
  obtain ⟨h1, h2, h3, h4⟩ := Num.most_spec (l.map Num.ofInt) hok
  have fm := ofInt_fine (hl m hm)
  refine ofInt_inj (hl m hm) h1 h2 ?_
  have p := pw_pos 0
  refine Int.le_antisymm ?_ ?_
  · rcases h4 with h4 | ⟨y, hy, h4⟩
    · rw [h4, Num.val_inf]
      have := (Num.val_le fm.1 fm.2.1).1
      rw [fm.2.2.2.2] at this
      simpa using this
    · obtain ⟨x, hx, rfl⟩ := List.mem_map.1 hy
      have fx := ofInt_fine (hl x hx)
      rw [h4, fx.2.2.2.1, fx.2.2.2.2]
      exact Int.mul_le_mul_of_nonneg_right (h x hx) (Int.le_of_lt p)
  · have := h3 _ (List.mem_map.2 ⟨m, hm, rfl⟩)
    rw [fm.2.2.2.1, fm.2.2.2.2] at this
    exact this

/-- from one whole number to another one -/
def ofI (a b : Int) : Iv := ⟨false, Num.ofInt a, Num.ofInt b⟩
theorem ofI_real {a b : Int} (ha : Int.sm a) (hb : Int.sm b) (h : a ≤ b) : (ofI a b).Real := by
  obtain ⟨m1, o1, k1, f1, v1⟩ := ofInt_fine ha
  obtain ⟨m2, o2, k2, f2, v2⟩ := ofInt_fine hb
  refine Iv.real_of ?_ rfl o1 o2
  unfold Iv.may
  have n1 : Num.ofInt a ≠ Num.inf false := fun g => k1 (by rw [g]; rfl)
  have n2 : Num.ofInt b ≠ Num.inf true := fun g => k2 (by rw [g]; rfl)
  have c := (ofInt_le ha hb).2 h
  simp [ofI, m1, m2, c, n1, n2]
theorem ofI_make {a b : Int} (ha : Int.sm a) (hb : Int.sm b) (h : a ≤ b) : Iv.make (Num.ofInt a) (Num.ofInt b) = ofI a b := by
  have f1 := (ofInt_fine ha).2.2.2.1
  have f2 := (ofInt_fine hb).2.2.2.1
  have r := ofI_real ha hb h
  unfold ofI at r ⊢
  rw [Iv.make_real (by rw [f1, f2]; exact r), f1, f2]
theorem ofI_fair {a b : Int} (ha : Int.sm a) (hb : Int.sm b) (h : a ≤ b) : (ofI a b).fair = ofI a b := (ofI_real ha hb h).fair
theorem ofI_within {a b c d : Int} (ha : Int.sm a) (hb : Int.sm b) (hc : Int.sm c) (hd : Int.sm d) (h1 : a ≤ b) (h2 : c ≤ d) (h3 : c ≤ a) (h4 : b ≤ d) : (ofI a b).within (ofI c d) = true := by
  unfold Iv.within
  rw [ofI_fair ha hb h1, ofI_fair hc hd h2]
  have e1 := (ofInt_le hc ha).2 h3
  have e2 := (ofInt_le hb hd).2 h4
  simp [ofI, e1, e2]
theorem min2 (a b : Int) : ∃ m, m ∈ [a, b] ∧ ∀ x ∈ [a, b], m ≤ x := by
  rcases Int.le_total a b with h | h
  · exact ⟨a, by simp, by simp; exact h⟩
  · exact ⟨b, by simp, by simp; exact h⟩
theorem max2 (a b : Int) : ∃ m, m ∈ [a, b] ∧ ∀ x ∈ [a, b], x ≤ m := by
  rcases Int.le_total a b with h | h
  · exact ⟨b, by simp, by simp; exact h⟩
  · exact ⟨a, by simp, by simp; exact h⟩
theorem min4 (a b c d : Int) : ∃ m, m ∈ [a, b, c, d] ∧ ∀ x ∈ [a, b, c, d], m ≤ x := by
  obtain ⟨m, h1, h2⟩ := min2 a b
  obtain ⟨n, h3, h4⟩ := min2 c d
  obtain ⟨k, h5, h6⟩ := min2 m n
  simp only [List.mem_cons, List.not_mem_nil, or_false, forall_eq_or_imp, forall_eq] at *
  refine ⟨k, ?_, ?_⟩
  · rcases h5 with rfl | rfl
    · rcases h1 with rfl | rfl <;> simp
    · rcases h3 with rfl | rfl <;> simp
  · omega
theorem max4 (a b c d : Int) : ∃ m, m ∈ [a, b, c, d] ∧ ∀ x ∈ [a, b, c, d], x ≤ m := by
  obtain ⟨m, h1, h2⟩ := max2 a b
  obtain ⟨n, h3, h4⟩ := max2 c d
  obtain ⟨k, h5, h6⟩ := max2 m n
  simp only [List.mem_cons, List.not_mem_nil, or_false, forall_eq_or_imp, forall_eq] at *
  refine ⟨k, ?_, ?_⟩
  · rcases h5 with rfl | rfl
    · rcases h1 with rfl | rfl <;> simp
    · rcases h3 with rfl | rfl <;> simp
  · omega
theorem ofI_point {a : Int} (ha : Int.sm a) : Iv.point (Num.ofInt a) = ofI a a := ofI_make ha ha (Int.le_refl a)
theorem ofI_goods {a b c d : Int} (ha : Int.sm a) (hb : Int.sm b) (hc : Int.sm c) (hd : Int.sm d) (h1 : a ≤ b) (h2 : c ≤ d) : Iv.goods [ofI a b, ofI c d] = [ofI a b, ofI c d] := by
  simp only [Iv.goods]
  rw [ofI_fair ha hb h1, ofI_fair hc hd h2]
  simp [ofI]
theorem ofI_hull {a b : Int} (ha : Int.sm a) (hb : Int.sm b) : ∃ l u, Iv.hull [ofI a a, ofI b b] = ofI l u ∧ l ∈ [a, b] ∧ u ∈ [a, b] ∧ l ≤ a ∧ l ≤ b ∧ a ≤ u ∧ b ≤ u := by
  obtain ⟨l, h1, h2⟩ := min2 a b
  obtain ⟨u, h3, h4⟩ := max2 a b
  have hs : ∀ x ∈ [a, b], Int.sm x := by intro x hx; simp only [List.mem_cons, List.not_mem_nil, or_false] at hx; rcases hx with rfl | rfl <;> assumption
  have el := ofInt_least hs h1 h2
  have eu := ofInt_most hs h3 h4
  refine ⟨l, u, ?_, h1, h3, h2 a (by simp), h2 b (by simp), h4 a (by simp), h4 b (by simp)⟩
  unfold Iv.hull Iv.los Iv.his
  rw [ofI_goods ha ha hb hb (Int.le_refl a) (Int.le_refl b)]
  rw [if_neg (by simp)]
  show Iv.make (Num.least ([a, b].map Num.ofInt)) (Num.most ([a, b].map Num.ofInt)) = _
  rw [el, eu]
  exact ofI_make (hs l h1) (hs u h3) (h2 u h3)
theorem ofI_good {a b : Int} (ha : Int.sm a) (hb : Int.sm b) (h : a ≤ b) : Iv.bad (ofI a b) = false := (ofI_real ha hb h).good
theorem ofI_add {a b c d : Int} (ha : Int.sm a) (hb : Int.sm b) (hc : Int.sm c) (hd : Int.sm d) (h1 : a ≤ b) (h2 : c ≤ d) (hs : Int.sm (a + c)) (hs' : Int.sm (b + d)) : Iv.add [ofI a b, ofI c d] = ofI (a + c) (b + d) := by
  unfold Iv.add
  have : Iv.anyBad [ofI a b, ofI c d] = false := by simp [Iv.anyBad, ofI_good ha hb h1, ofI_good hc hd h2]
  rw [this, if_neg (by decide)]
  show Iv.make (Num.add (Num.ofInt a) (Num.ofInt c) false) (Num.add (Num.ofInt b) (Num.ofInt d) true) = _
  rw [ofInt_add ha hc hs, ofInt_add hb hd hs', ofI_make hs hs' (by omega)]
theorem ofI_neg {a b : Int} (ha : Int.sm a) (hb : Int.sm b) (h1 : a ≤ b) : Iv.neg (ofI a b) = ofI (-b) (-a) := by
  unfold Iv.neg
  have : Iv.anyBad [ofI a b] = false := by simp [Iv.anyBad, ofI_good ha hb h1]
  rw [this, if_neg (by decide)]
  show Iv.make (Num.ofInt b).opp (Num.ofInt a).opp = _
  rw [ofInt_opp ha, ofInt_opp hb, ofI_make (by unfold Int.sm at *; omega) (by unfold Int.sm at *; omega) (by omega)]
theorem ofI_mul {a b c d : Int} (ha : Int.sm a) (hb : Int.sm b) (hc : Int.sm c) (hd : Int.sm d) (h1 : a ≤ b) (h2 : c ≤ d) (s1 : Int.sm (a * c)) (s2 : Int.sm (a * d)) (s3 : Int.sm (b * c)) (s4 : Int.sm (b * d)) :
    ∃ l u, Iv.mul (ofI a b) (ofI c d) = ofI l u ∧ l ∈ [a * c, a * d, b * c, b * d] ∧ u ∈ [a * c, a * d, b * c, b * d] ∧ (∀ x ∈ [a * c, a * d, b * c, b * d], l ≤ x) ∧ (∀ x ∈ [a * c, a * d, b * c, b * d], x ≤ u) := by
  obtain ⟨l, h3, h4⟩ := min4 (a * c) (a * d) (b * c) (b * d)
  obtain ⟨u, h5, h6⟩ := max4 (a * c) (a * d) (b * c) (b * d)
  have hs : ∀ x ∈ [a * c, a * d, b * c, b * d], Int.sm x := by intro x hx; simp only [List.mem_cons, List.not_mem_nil, or_false] at hx; rcases hx with rfl | rfl | rfl | rfl <;> assumption
  refine ⟨l, u, ?_, h3, h5, h4, h6⟩
  unfold Iv.mul
  have : Iv.anyBad [ofI a b, ofI c d] = false := by simp [Iv.anyBad, ofI_good ha hb h1, ofI_good hc hd h2]
  rw [this, if_neg (by decide)]
  unfold Iv.corners
  show Iv.make (Num.least [Num.mul (Num.ofInt a) (Num.ofInt c) false, Num.mul (Num.ofInt a) (Num.ofInt d) false, Num.mul (Num.ofInt b) (Num.ofInt c) false, Num.mul (Num.ofInt b) (Num.ofInt d) false])
    (Num.most [Num.mul (Num.ofInt a) (Num.ofInt c) true, Num.mul (Num.ofInt a) (Num.ofInt d) true, Num.mul (Num.ofInt b) (Num.ofInt c) true, Num.mul (Num.ofInt b) (Num.ofInt d) true]) = _
  rw [ofInt_mul ha hc s1, ofInt_mul ha hd s2, ofInt_mul hb hc s3, ofInt_mul hb hd s4, ofInt_mul ha hc s1, ofInt_mul ha hd s2, ofInt_mul hb hc s3, ofInt_mul hb hd s4]
  show Iv.make (Num.least ([a * c, a * d, b * c, b * d].map Num.ofInt)) (Num.most ([a * c, a * d, b * c, b * d].map Num.ofInt)) = _
  rw [ofInt_least hs h3 h4, ofInt_most hs h5 h6]
  exact ofI_make (hs l h3) (hs u h5) (h4 u h5)

theorem mul_bound {x y m n : Int} (h1 : -m ≤ x) (h2 : x ≤ m) (h3 : -n ≤ y) (h4 : y ≤ n) (hn : 0 ≤ n) : -(m * n) ≤ x * y ∧ x * y ≤ m * n := by
  have a1 : 0 ≤ (m - x) * (n + y) := Int.mul_nonneg (by omega) (by omega)
  have a2 : 0 ≤ (m + x) * (n - y) := Int.mul_nonneg (by omega) (by omega)
  have a3 : 0 ≤ (m - x) * (n - y) := Int.mul_nonneg (by omega) (by omega)
  have a4 : 0 ≤ (m + x) * (n + y) := Int.mul_nonneg (by omega) (by omega)
  have e1 : (m - x) * (n + y) = m * n + m * y - x * n - x * y := by grind
  have e2 : (m + x) * (n - y) = m * n - m * y + x * n - x * y := by grind
  have e3 : (m - x) * (n - y) = m * n - m * y - x * n + x * y := by grind
  have e4 : (m + x) * (n + y) = m * n + m * y + x * n + x * y := by grind
  omega
def Int.mi (n : Int) : Prop := -1000000 ≤ n ∧ n ≤ 1000000
set_option maxHeartbeats 1000000 in
theorem spreads {a b c d e f : Int} (ha : Int.mi a) (hb : Int.mi b) (hc : Int.mi c) (hd : Int.mi d) (he : Int.mi e) (hf : Int.mi f) {x y z p q : Iv}
    (hx : x = Iv.hull [Iv.point (Num.ofInt a), Iv.point (Num.ofInt b)]) (hy : y = Iv.hull [Iv.point (Num.ofInt c), Iv.point (Num.ofInt d)]) (hz : z = Iv.hull [Iv.point (Num.ofInt e), Iv.point (Num.ofInt f)])
    (hp : p = Iv.mul x (Iv.add [y, z])) (hq : q = Iv.add [Iv.mul x y, Iv.mul x z]) : p.within q = true ∧ x.within (Iv.add [Iv.add [x, Iv.neg y], y]) = true ∧ p.empty = false ∧ p.lo.kind ≠ 2 := by
  have S : ∀ {n : Int}, Int.mi n → Int.sm n := fun h => by unfold Int.mi Int.sm at *; omega
  rw [ofI_point (S ha), ofI_point (S hb)] at hx
  rw [ofI_point (S hc), ofI_point (S hd)] at hy
  rw [ofI_point (S he), ofI_point (S hf)] at hz
  obtain ⟨x1, x2, ex, mx1, mx2, x3, x4, x5, x6⟩ := ofI_hull (S ha) (S hb)
  obtain ⟨y1, y2, ey, my1, my2, y3, y4, y5, y6⟩ := ofI_hull (S hc) (S hd)
  obtain ⟨z1, z2, ez, mz1, mz2, z3, z4, z5, z6⟩ := ofI_hull (S he) (S hf)
  rw [ex] at hx; rw [ey] at hy; rw [ez] at hz
  have M : ∀ {n u v : Int}, Int.mi u → Int.mi v → n ∈ [u, v] → Int.mi n := by
    intro n u v hu hv hn
    simp only [List.mem_cons, List.not_mem_nil, or_false] at hn
    rcases hn with rfl | rfl <;> assumption
  have i1 := M ha hb mx1; have i2 := M ha hb mx2; have i3 := M hc hd my1; have i4 := M hc hd my2; have i5 := M he hf mz1; have i6 := M he hf mz2
  clear ex ey ez mx1 mx2 my1 my2 mz1 mz2 M ha hb hc hd he hf
  have lx : x1 ≤ x2 := by omega
  have ly : y1 ≤ y2 := by omega
  have lz : z1 ≤ z2 := by omega
  clear x3 x4 x5 x6 y3 y4 y5 y6 z3 z4 z5 z6
  have T : ∀ {n : Int}, -4000000000000 ≤ n → n ≤ 4000000000000 → Int.sm n := fun h k => by unfold Int.sm; omega
  unfold Int.mi at i1 i2 i3 i4 i5 i6
  have P1 : ∀ {u v : Int}, -1000000 ≤ u ∧ u ≤ 1000000 → -1000000 ≤ v ∧ v ≤ 1000000 → -1000000000000 ≤ u * v ∧ u * v ≤ 1000000000000 := fun hu hv => by
    have := mul_bound (m := 1000000) (n := 1000000) hu.1 hu.2 hv.1 hv.2 (by decide)
    omega
  have P2 : ∀ {u v : Int}, -1000000 ≤ u ∧ u ≤ 1000000 → -2000000 ≤ v ∧ v ≤ 2000000 → Int.sm (u * v) := fun hu hv => by
    have := mul_bound (m := 1000000) (n := 2000000) hu.1 hu.2 hv.1 hv.2 (by decide)
    exact T (by omega) (by omega)
  have P3 : ∀ {u v : Int}, -1000000 ≤ u ∧ u ≤ 1000000 → -1000000 ≤ v ∧ v ≤ 1000000 → Int.sm (u * v) := fun hu hv => by
    have := P1 hu hv
    exact T (by omega) (by omega)
  have a1 := ofI_add (a := y1) (b := y2) (c := z1) (d := z2) (T (by omega) (by omega)) (T (by omega) (by omega)) (T (by omega) (by omega)) (T (by omega) (by omega)) ly lz (T (by omega) (by omega)) (T (by omega) (by omega))
  obtain ⟨pl, pu, ep, mpl, mpu, lpl, lpu⟩ := ofI_mul (a := x1) (b := x2) (c := y1 + z1) (d := y2 + z2) (T (by omega) (by omega)) (T (by omega) (by omega)) (T (by omega) (by omega)) (T (by omega) (by omega)) lx (by omega)
    (P2 i1 (by omega)) (P2 i1 (by omega)) (P2 i2 (by omega)) (P2 i2 (by omega))
  obtain ⟨ql, qu, eq1, mql, mqu, lql, lqu⟩ := ofI_mul (a := x1) (b := x2) (c := y1) (d := y2) (T (by omega) (by omega)) (T (by omega) (by omega)) (T (by omega) (by omega)) (T (by omega) (by omega)) lx ly (P3 i1 i3) (P3 i1 i4) (P3 i2 i3) (P3 i2 i4)
  obtain ⟨rl, ru, er, mrl, mru, lrl, lru⟩ := ofI_mul (a := x1) (b := x2) (c := z1) (d := z2) (T (by omega) (by omega)) (T (by omega) (by omega)) (T (by omega) (by omega)) (T (by omega) (by omega)) lx lz (P3 i1 i5) (P3 i1 i6) (P3 i2 i5) (P3 i2 i6)
  have B : ∀ {l a b c d k : Int}, -k ≤ a ∧ a ≤ k → -k ≤ b ∧ b ≤ k → -k ≤ c ∧ c ≤ k → -k ≤ d ∧ d ≤ k → l ∈ [a, b, c, d] → -k ≤ l ∧ l ≤ k := by
    intro l a b c d k h1 h2 h3 h4 hl
    simp only [List.mem_cons, List.not_mem_nil, or_false] at hl
    rcases hl with rfl | rfl | rfl | rfl <;> assumption
  have P4 : ∀ {u v : Int}, -1000000 ≤ u ∧ u ≤ 1000000 → -2000000 ≤ v ∧ v ≤ 2000000 → -2000000000000 ≤ u * v ∧ u * v ≤ 2000000000000 := fun hu hv => by
    have := mul_bound (m := 1000000) (n := 2000000) hu.1 hu.2 hv.1 hv.2 (by decide)
    omega
  have bpl := B (k := 2000000000000) (P4 i1 (by omega)) (P4 i1 (by omega)) (P4 i2 (by omega)) (P4 i2 (by omega)) mpl
  have bpu := B (k := 2000000000000) (P4 i1 (by omega)) (P4 i1 (by omega)) (P4 i2 (by omega)) (P4 i2 (by omega)) mpu
  have bql := B (k := 1000000000000) (P1 i1 i3) (P1 i1 i4) (P1 i2 i3) (P1 i2 i4) mql
  have bqu := B (k := 1000000000000) (P1 i1 i3) (P1 i1 i4) (P1 i2 i3) (P1 i2 i4) mqu
  have brl := B (k := 1000000000000) (P1 i1 i5) (P1 i1 i6) (P1 i2 i5) (P1 i2 i6) mrl
  have bru := B (k := 1000000000000) (P1 i1 i5) (P1 i1 i6) (P1 i2 i5) (P1 i2 i6) mru
  simp only [List.mem_cons, List.not_mem_nil, or_false, forall_eq_or_imp, forall_eq, Int.mul_add] at mpl mpu lpl lpu lql lqu lrl lru
  have lq : ql ≤ qu := Int.le_trans lql.1 lqu.1
  have lr : rl ≤ ru := Int.le_trans lrl.1 lru.1
  have lp : pl ≤ pu := Int.le_trans lpl.1 lpu.1
  have in1 : ql + rl ≤ pl := by
    obtain ⟨l1, l2, l3, l4⟩ := lql
    obtain ⟨k1, k2, k3, k4⟩ := lrl
    clear lpl lpu mpu lqu lru
    rcases mpl with h | h | h | h <;> rw [h] <;> clear h <;> (first | exact Int.add_le_add l1 k1 | exact Int.add_le_add l2 k2 | exact Int.add_le_add l3 k3 | exact Int.add_le_add l4 k4)
  have in2 : pu ≤ qu + ru := by
    obtain ⟨l1, l2, l3, l4⟩ := lqu
    obtain ⟨k1, k2, k3, k4⟩ := lru
    clear lpl lpu mpl lql lrl
    rcases mpu with h | h | h | h <;> rw [h] <;> clear h <;> (first | exact Int.add_le_add l1 k1 | exact Int.add_le_add l2 k2 | exact Int.add_le_add l3 k3 | exact Int.add_le_add l4 k4)
  clear lpl lpu lql lqu lrl lru mpl mpu mql mqu mrl mru P1 P2 P3 P4 B
  have e1 := ofI_add (a := ql) (b := qu) (c := rl) (d := ru) (T (by omega) (by omega)) (T (by omega) (by omega)) (T (by omega) (by omega)) (T (by omega) (by omega)) (by omega) (by omega) (T (by omega) (by omega)) (T (by omega) (by omega))
  have e2 := ofI_neg (a := y1) (b := y2) (T (by omega) (by omega)) (T (by omega) (by omega)) ly
  have e3 := ofI_add (a := x1) (b := x2) (c := -y2) (d := -y1) (T (by omega) (by omega)) (T (by omega) (by omega)) (T (by omega) (by omega)) (T (by omega) (by omega)) lx (by omega) (T (by omega) (by omega)) (T (by omega) (by omega))
  have e4 := ofI_add (a := x1 + -y2) (b := x2 + -y1) (c := y1) (d := y2) (T (by omega) (by omega)) (T (by omega) (by omega)) (T (by omega) (by omega)) (T (by omega) (by omega)) (by omega) ly (T (by omega) (by omega)) (T (by omega) (by omega))
  rw [hp, hq, hx, hy, hz, a1, ep, eq1, er, e1, e2, e3, e4]
  have kp := (ofInt_fine (n := pl) (T (by omega) (by omega))).2.2.1
  refine ⟨ofI_within (T (by omega) (by omega)) (T (by omega) (by omega)) (T (by omega) (by omega)) (T (by omega) (by omega)) (by omega) (by omega) (by omega) (by omega),
    ofI_within (T (by omega) (by omega)) (T (by omega) (by omega)) (T (by omega) (by omega)) (T (by omega) (by omega)) lx (by omega) (by omega) (by omega), rfl, kp⟩
end Go.Proofs.Ytincnfjihffllaa.Ev

/- Contract: the law of spreads. Printed by gen.py out of C21.spec. -/
namespace Go.Proofs.Ytincnfjihffllaa.Ev
open Go Go.Proofs
set_option linter.unusedVariables false
set_option linter.unusedSimpArgs false

set_option maxRecDepth 10000 in
set_option maxHeartbeats 8000000 in
theorem c_Spreads (a b c d e f : Int) (la : -9223372036854775808 ≤ a) (ua : a < 9223372036854775808) (lb : -9223372036854775808 ≤ b) (ub : b < 9223372036854775808) (lc : -9223372036854775808 ≤ c) (uc : c < 9223372036854775808)
    (ld : -9223372036854775808 ≤ d) (ud : d < 9223372036854775808) (le : -9223372036854775808 ≤ e) (ue : e < 9223372036854775808) (lf : -9223372036854775808 ≤ f) (uf : f < 9223372036854775808) :
    ∃ t, t = true ∧ CallsA Try.prog 12 [.int .i64 (.s a), .int .i64 (.s b), .int .i64 (.s c), .int .i64 (.s d), .int .i64 (.s e), .int .i64 (.s f)] (.bool (.s t)) := by
  refine ⟨_, rfl, ?_⟩
  generalize hr : true = r
  refine callsA_of hG hm Try.func12 (by kernel_rfl) ?_
  intro E hE lp hl
  cbv
  (apply E_callX hE (c_awake); (case hf => rfl); (case hc => (cbv <;> trivial)); (case hle => (repeat' (first | exact u_nil | apply u_cons | apply u2_agg | exact u2_int | exact u1_int | exact u2_bool | exact u1_bool | exact u2_sli | exact u1_sli | exact u2_s0 | exact u1_s0))); all_goals (first | (intro t ht; cbv) | (assumption)))
  refine E_rounds hE hG hm hl 7 ?_
  cbv
  repeat' (first
    | (apply E_br_t hE; assumption; cbv)
    | (apply E_br_f hE; assumption; cbv)
    | (refine E_br hE (fun h => ?_) (fun h => ?_) <;> cbv)
    | (refine E_nm hE (fun v hv => ?_); cbv)
    | (apply E_callX hE (k_Of _ ?_ ?_); (case hf => rfl); (case hc => (cbv <;> trivial)); (case hle => (repeat' (first | exact u_nil | apply u_cons | apply u2_agg | exact u2_int | exact u1_int | exact u2_bool | exact u1_bool | exact u2_sli | exact u1_sli | exact u2_s0 | exact u1_s0))); all_goals (first | (rintro t ⟨ht, ho⟩; cbv) | (first | assumption | omega)))
    | (apply E_callX hE (k_ivPoint ⟨_, _, _, _⟩ ?_); (case hf => rfl); (case hc => (cbv <;> trivial)); (case hle => (repeat' (first | exact u_nil | apply u_cons | apply u2_agg | exact u2_int | exact u1_int | exact u2_bool | exact u1_bool | exact u2_sli | exact u1_sli | exact u2_s0 | exact u1_s0))); all_goals (first | (rintro t ⟨ht, ho⟩; cbv) | (assumption)))
    | (apply E_callX hE (k_hull2 ⟨_, ⟨_, _, _, _⟩, ⟨_, _, _, _⟩⟩ ?_ ⟨_, ⟨_, _, _, _⟩, ⟨_, _, _, _⟩⟩ ?_); (case hf => rfl); (case hc => (cbv <;> trivial)); (case hle => exact ⟨slcO2 hE, trivial⟩); all_goals (first | (rintro t ⟨ht, ho⟩; cbv) | (assumption)))
    | (apply E_pcallX hE (k_opAdd2 ⟨_, ⟨_, _, _, _⟩, ⟨_, _, _, _⟩⟩ ?_ ⟨_, ⟨_, _, _, _⟩, ⟨_, _, _, _⟩⟩ ?_); (case hm => rfl); (case hle => exact ⟨slcG2, trivial⟩); all_goals (first | (rintro t ⟨ht, ho⟩; cbv) | (assumption)))
    | (apply E_pcallX hE (k_opMul ⟨_, ⟨_, _, _, _⟩, ⟨_, _, _, _⟩⟩ ?_ ⟨_, ⟨_, _, _, _⟩, ⟨_, _, _, _⟩⟩ ?_); (case hm => rfl); (case hle => (repeat' (first | exact u_nil | apply u_cons | apply u2_agg | exact u2_int | exact u1_int | exact u2_bool | exact u1_bool | exact u2_sli | exact u1_sli | exact u2_s0 | exact u1_s0))); all_goals (first | (rintro t ⟨ht, ho⟩; cbv) | (assumption)))
    | (apply E_pcallX hE (k_opSub ⟨_, ⟨_, _, _, _⟩, ⟨_, _, _, _⟩⟩ ?_ ⟨_, ⟨_, _, _, _⟩, ⟨_, _, _, _⟩⟩ ?_); (case hm => rfl); (case hle => (repeat' (first | exact u_nil | apply u_cons | apply u2_agg | exact u2_int | exact u1_int | exact u2_bool | exact u1_bool | exact u2_sli | exact u1_sli | exact u2_s0 | exact u1_s0))); all_goals (first | (rintro t ⟨ht, ho⟩; cbv) | (assumption)))
    | (apply E_pcallX hE (c_ivWithin ⟨_, ⟨_, _, _, _⟩, ⟨_, _, _, _⟩⟩ ⟨_, ⟨_, _, _, _⟩, ⟨_, _, _, _⟩⟩); (case hm => rfl); (case hle => (repeat' (first | exact u_nil | apply u_cons | apply u2_agg | exact u2_int | exact u1_int | exact u2_bool | exact u1_bool | exact u2_sli | exact u1_sli | exact u2_s0 | exact u1_s0))); all_goals (first | (intro t ht; cbv) | (assumption)))
    | fail)
  all_goals subst hE
  all_goals (try (rw [← hr]; assumption; done))
  all_goals simp only [realE, cmp_lss, cmp_gtr, cmp_neq, decide_eq_true_eq, decide_eq_false_iff_not, SI.val, SB.val, Num.eta, Iv.eta, List.getD_cons_zero, List.getD_cons_succ, Int.toNat_zero, Int.reduceToNat] at *
  all_goals (have S := spreads (a := a) (b := b) (c := c) (d := d) (e := e) (f := f) ⟨by omega, by omega⟩ ⟨by omega, by omega⟩ ⟨by omega, by omega⟩ ⟨by omega, by omega⟩ ⟨by omega, by omega⟩ ⟨by omega, by omega⟩ rfl rfl rfl rfl rfl)
  all_goals subst_vars
  all_goals (try simp only [Iv.sub] at *)
  all_goals (first
    | exact decide_eq_true S.2.2.2
    | exact absurd (S.1.symm.trans (show (_ : Bool) = false by assumption)) (by decide)
    | exact absurd (S.2.1.symm.trans (show (_ : Bool) = false by assumption)) (by decide)
    | (have q := S.2.2.1; simp_all; done))

end Go.Proofs.Ytincnfjihffllaa.Ev

/- Proved: what a product with a sum of intervals has is within the sum of the products; for all whole numbers a to f, as the given row says it. -/
namespace Go.Proofs.Ytincnfjihffllaa.ivopSpreads
open Go.ChangeShapes Go.WideShapes Go.ChangeAt Go.RowKit Go.Proofs.Ytincnfjihffllaa.Ev
set_option linter.unusedVariables false
theorem own : ownKnob Try.prog.godebug = none := by kernel_rfl
theorem laidOut : laidOutB Try.prog = true := by kernel_rfl
set_option maxRecDepth 100000 in
theorem lifted (os : Os) (started : os.Started) (H : Type) (enc : TypeId × Value → H) :
    ReturnsInHanded {} Try.checked os 12 .any (Rows.ivopSpreadsSpec.pre6 enc Try.prog Try.f12 Rows.ivopSpreadsRow.domain false) (Rows.ivopSpreadsSpec.post enc Try.prog Try.f12 false true false false) := by
  refine returnsInHanded_of_change_sized (C := Try.checked) own started (by kernel_rfl) Try.func12
    (ChangeSpec.witness6 (enc := enc) (C := Try.checked) false ⟨#[], #[.int .i64 0, .int .i64 0, .int .i64 0, .int .i64 0, .int .i64 0, .int .i64 0], []⟩ 8 (by kernel_rfl) (by kernel_rfl) (by kernel_rfl) (by kernel_rfl)) ?_
  intro W base args ds gs before hval0 hW hcnd hsz0 _
  have hval : ∀ (j : Nat) t v, Try.f12.params[j]? = some t → args[j]? = some v → Value.okWide Try.prog W .any base t v := hval0
  have hW' := hW
  obtain ⟨p, q, hA0, hV, rfl, hfz, hnd⟩ := hW
  have hA : DataW.TrodAll enc Try.prog W 0 (fun _ => true) true Try.f12.params.toList args.toList ds p := hA0
  rw [Try.params12] at hA hval
  obtain ⟨v0, vs0, d0, ds0, p0, q0, hargs, rfl, rfl, h0, r0⟩ := trodAll_cons hA
  obtain ⟨v1, vs1, d1, ds1, p1, q1, rfl, rfl, rfl, h1, r1⟩ := trodAll_cons r0
  obtain ⟨v2, vs2, d2, ds2, p2, q2, rfl, rfl, rfl, h2, r2⟩ := trodAll_cons r1
  obtain ⟨v3, vs3, d3, ds3, p3, q3, rfl, rfl, rfl, h3, r3⟩ := trodAll_cons r2
  obtain ⟨v4, vs4, d4, ds4, p4, q4, rfl, rfl, rfl, h4, r4⟩ := trodAll_cons r3
  obtain ⟨v5, vs5, d5, ds5, p5, q5, rfl, rfl, rfl, h5, r5⟩ := trodAll_cons r4
  obtain ⟨rfl, rfl, rfl⟩ := trodAll_nil r5
  obtain rfl : args = #[v0, v1, v2, v3, v4, v5] := by cases args; simp_all
  obtain ⟨rfl, rfl⟩ := trodVars_none hV
  have lt0 : ∀ x ∈ p0, x.block < W.heap.size := by obtain ⟨m, hm⟩ := h0; exact DataW.trod_lt m _ _ _ hm
  obtain ⟨a, e0, _, _, wf_a⟩ := open_int Try.underlying3 (hval 0 3 v0 rfl rfl) h0
  have w_a := wf_i64 wf_a
  have ro0 : ∀ O w', RoV O w' (.int .i64 (.s a)) v0 := fun O w' => by rw [e0]; exact .int _ _ _ rfl
  have lt1 : ∀ x ∈ p1, x.block < W.heap.size := by obtain ⟨m, hm⟩ := h1; exact DataW.trod_lt m _ _ _ hm
  obtain ⟨b, e1, _, _, wf_b⟩ := open_int Try.underlying3 (hval 1 3 v1 rfl rfl) h1
  have w_b := wf_i64 wf_b
  have ro1 : ∀ O w', RoV O w' (.int .i64 (.s b)) v1 := fun O w' => by rw [e1]; exact .int _ _ _ rfl
  have lt2 : ∀ x ∈ p2, x.block < W.heap.size := by obtain ⟨m, hm⟩ := h2; exact DataW.trod_lt m _ _ _ hm
  obtain ⟨c, e2, _, _, wf_c⟩ := open_int Try.underlying3 (hval 2 3 v2 rfl rfl) h2
  have w_c := wf_i64 wf_c
  have ro2 : ∀ O w', RoV O w' (.int .i64 (.s c)) v2 := fun O w' => by rw [e2]; exact .int _ _ _ rfl
  have lt3 : ∀ x ∈ p3, x.block < W.heap.size := by obtain ⟨m, hm⟩ := h3; exact DataW.trod_lt m _ _ _ hm
  obtain ⟨d, e3, _, _, wf_d⟩ := open_int Try.underlying3 (hval 3 3 v3 rfl rfl) h3
  have w_d := wf_i64 wf_d
  have ro3 : ∀ O w', RoV O w' (.int .i64 (.s d)) v3 := fun O w' => by rw [e3]; exact .int _ _ _ rfl
  have lt4 : ∀ x ∈ p4, x.block < W.heap.size := by obtain ⟨m, hm⟩ := h4; exact DataW.trod_lt m _ _ _ hm
  obtain ⟨e, e4, _, _, wf_e⟩ := open_int Try.underlying3 (hval 4 3 v4 rfl rfl) h4
  have w_e := wf_i64 wf_e
  have ro4 : ∀ O w', RoV O w' (.int .i64 (.s e)) v4 := fun O w' => by rw [e4]; exact .int _ _ _ rfl
  have lt5 : ∀ x ∈ p5, x.block < W.heap.size := by obtain ⟨m, hm⟩ := h5; exact DataW.trod_lt m _ _ _ hm
  obtain ⟨f, e5, _, _, wf_f⟩ := open_int Try.underlying3 (hval 5 3 v5 rfl rfl) h5
  have w_f := wf_i64 wf_f
  have ro5 : ∀ O w', RoV O w' (.int .i64 (.s f)) v5 := fun O w' => by rw [e5]; exact .int _ _ _ rfl
  clear hA0 hval0 hsz0
  obtain ⟨t, ht, hC⟩ := (c_Spreads a b c d e f w_a.1 w_a.2 w_b.1 w_b.2 w_c.1 w_c.2 w_d.1 w_d.2 w_e.1 w_e.2 w_f.1 w_f.2)
  refine (Goes.calls (P := Try.prog) ⟨_, Try.func12, by kernel_rfl, by kernel_rfl⟩ (hC (fun k => k < W.heap.size) W #[v0, v1, v2, v3, v4, v5] (fun _ h => h) rfl ?_)).mono fun e W' ⟨val, he, hv, bel⟩ => ?_
  · intro j c hj
    match j, hj with
    | 0, hj => simp at hj; subst hj; exact ro0 _ _
    | 1, hj => simp at hj; subst hj; exact ro1 _ _
    | 2, hj => simp at hj; subst hj; exact ro2 _ _
    | 3, hj => simp at hj; subst hj; exact ro3 _ _
    | 4, hj => simp at hj; subst hj; exact ro4 _ _
    | 5, hj => simp at hj; subst hj; exact ro5 _ _
    | j + 6, hj => simp at hj
  · obtain ⟨b, v, hb⟩ : ∃ b v, b = t ∧ val = .bool b := by cases hv; rename_i h; exact ⟨_, trivial, h.symm, rfl⟩
    obtain ⟨rfl, rfl⟩ := hb
    subst ht
    subst he
    exact ⟨_, rfl, _, _, _, [], _, [], hW', trodAll_mk1 (shut_bool Try.underlying4 _), (trodAll_cons_mk (Below.trod laidOut (by kernel_rfl) (of_decide_eq_true (by kernel_rfl)) h0 bel lt0) (trodAll_cons_mk (Below.trod laidOut (by kernel_rfl) (of_decide_eq_true (by kernel_rfl)) h1 bel lt1) (trodAll_cons_mk (Below.trod laidOut (by kernel_rfl) (of_decide_eq_true (by kernel_rfl)) h2 bel lt2) (trodAll_cons_mk (Below.trod laidOut (by kernel_rfl) (of_decide_eq_true (by kernel_rfl)) h3 bel lt3) (trodAll_cons_mk (Below.trod laidOut (by kernel_rfl) (of_decide_eq_true (by kernel_rfl)) h4 bel lt4) (trodAll_cons_mk (Below.trod laidOut (by kernel_rfl) (of_decide_eq_true (by kernel_rfl)) h5 bel lt5) trodAll_mk0)))))), rfl, bel.frame _, fun h => by cases h⟩
theorem over : Rows.ivopSpreadsRow.holds Try.pinned (OpenSpec.ofChange Rows.ivopSpreadsSpec) :=
  OpenClaim.holds_of_wide 12 Try.f12 rfl rfl rfl rfl rfl rfl rfl ⟨rfl, rfl, rfl, rfl, rfl⟩ rfl rfl rfl rfl rfl (by kernel_rfl) Try.func12 (by kernel_rfl)
    (of_decide_eq_true (by kernel_rfl)) (by unfold Func.isWrapper; first | (rw [if_pos (by decide +kernel)]; kernel_rfl) | (rw [if_neg (by decide +kernel)]; exact ⟨rfl, rfl⟩))
    (fun os started H enc _ => lifted os started H enc)
theorem proved : Rows.IvopSpreadsSaid := over
end Go.Proofs.Ytincnfjihffllaa.ivopSpreads
namespace Go.Proofs.Ytincnfjihffllaa
/-- The row, under a short name, for the claim. -/
theorem ivopSpreads_holds : Rows.IvopSpreadsSaid := ivopSpreads.proved
#print axioms ivopSpreads_holds
end Go.Proofs.Ytincnfjihffllaa
