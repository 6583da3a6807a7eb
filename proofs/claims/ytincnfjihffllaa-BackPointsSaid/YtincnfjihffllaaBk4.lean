/- Texts of the proof, joined: Pu19 Pu38 C28 -/
import Derived.Test.YtincnfjihffllaaBk2
set_option linter.unusedVariables false
set_option linter.unusedSimpArgs false

/- Products and sums of whole numbers, and what intervals make of them: plain Lean. -/
namespace Go.Proofs.Ytincnfjihffllaa.Ev
open Go

def Int.sm (n : Int) : Prop := -4611686018427387904 ≤ n ∧ n ≤ 4611686018427387904
theorem ofInt_fine {n : Int} (h : Int.sm n) : (Num.ofInt n).may = true ∧ (Num.ofInt n).ok ∧ (Num.ofInt n).kind ≠ 2 ∧ (Num.ofInt n).fair = Num.ofInt n ∧ (Num.ofInt n).val = n * pw 0 := by
  unfold Int.sm at h
  have hv := ofInt_val (n := n) (by omega)
  by_cases h0 : n = 0
  · subst h0
    exact ⟨by decide, Num.ofInt_ok 0, by decide, by decide, hv⟩
  · obtain ⟨f, _, _⟩ := ofInt_fin h0 (by omega)
    have hk := f.kind
    exact ⟨f.may, f.ok, by omega, Num.fair_of_may f.may, hv⟩

theorem ofInt_inj {r : Num} {n : Int} (h : Int.sm n) (m : r.may = true) (o : r.ok) (hv : r.val = n * pw 0) : r = Num.ofInt n := by
  obtain ⟨h1, h2, _, _, h5⟩ := ofInt_fine h
  exact Num.val_inj m h1 o h2 (by rw [hv, h5])
theorem ofInt_le {a b : Int} (ha : Int.sm a) (hb : Int.sm b) : (Num.ofInt a).cmp (Num.ofInt b) ≤ 0 ↔ a ≤ b := by
  obtain ⟨_, o1, _, f1, v1⟩ := ofInt_fine ha
  obtain ⟨_, o2, _, f2, v2⟩ := ofInt_fine hb
  rw [Num.cmp_le o1 o2, f1, f2, v1, v2]
  have p := pw_pos 0
  constructor
  · intro h; exact Int.le_of_mul_le_mul_right h p
  · intro h; exact Int.mul_le_mul_of_nonneg_right h (Int.le_of_lt p)
theorem ofInt_add {a b : Int} (ha : Int.sm a) (hb : Int.sm b) (hs : Int.sm (a + b)) (up : Bool) : Num.add (Num.ofInt a) (Num.ofInt b) up = Num.ofInt (a + b) := by
  obtain ⟨_, o1, k1, f1, v1⟩ := ofInt_fine ha
  obtain ⟨_, o2, k2, f2, v2⟩ := ofInt_fine hb
  obtain ⟨m3, o3, k3, _, v3⟩ := ofInt_fine hs
  have B := add_best o1 o2 (by rw [f1]; exact k1) (by rw [f2]; exact k2) up
  rw [f1, f2, v1, v2] at B
  exact B.exact (by decide) m3 o3 k3 (by rw [v3]; grind)
theorem ofInt_mul {a b : Int} (ha : Int.sm a) (hb : Int.sm b) (hs : Int.sm (a * b)) (up : Bool) : Num.mul (Num.ofInt a) (Num.ofInt b) up = Num.ofInt (a * b) := by
  obtain ⟨_, o1, k1, f1, v1⟩ := ofInt_fine ha
  obtain ⟨_, o2, k2, f2, v2⟩ := ofInt_fine hb
  obtain ⟨m3, o3, k3, _, v3⟩ := ofInt_fine hs
  have B := mul_best o1 o2 (by rw [f1]; exact k1) (by rw [f2]; exact k2) up
  rw [f1, f2, v1, v2] at B
  exact B.exact (pw_pos 0) m3 o3 k3 (by rw [v3]; grind)
theorem ofInt_opp {a : Int} (ha : Int.sm a) : (Num.ofInt a).opp = Num.ofInt (-a) := by
  obtain ⟨_, o1, k1, f1, v1⟩ := ofInt_fine ha
  refine ofInt_inj (by unfold Int.sm at *; omega) (Num.opp_may _) (Num.opp_ok o1) ?_
  rw [Num.opp_val, f1, v1]; grind

theorem ofInt_least {l : List Int} {m : Int} (hl : ∀ x ∈ l, Int.sm x) (hm : m ∈ l) (h : ∀ x ∈ l, m ≤ x) : Num.least (l.map Num.ofInt) = Num.ofInt m := by
  have hok : ∀ y ∈ l.map Num.ofInt, y.ok := by
    intro y hy
    obtain ⟨x, hx, rfl⟩ := List.mem_map.1 hy
    exact (ofInt_fine (hl x hx)).2.1
  obtain ⟨h1, h2, h3, h4⟩ := Num.least_spec (l.map Num.ofInt) hok
  have fm := ofInt_fine (hl m hm)
  refine ofInt_inj (hl m hm) h1 h2 ?_
  have p := pw_pos 0
  refine Int.le_antisymm ?_ ?_
  · have := h3 _ (List.mem_map.2 ⟨m, hm, rfl⟩)
    rw [fm.2.2.2.1, fm.2.2.2.2] at this
    exact this
  · rcases h4 with h4 | ⟨y, hy, h4⟩
    · rw [h4, Num.val_inf]
      have := (Num.val_le fm.1 fm.2.1).2
      rw [fm.2.2.2.2] at this
      simpa using this
    · obtain ⟨x, hx, rfl⟩ := List.mem_map.1 hy
      have fx := ofInt_fine (hl x hx)
      rw [h4, fx.2.2.2.1, fx.2.2.2.2]
      exact Int.mul_le_mul_of_nonneg_right (h x hx) (Int.le_of_lt p)
theorem ofInt_most {l : List Int} {m : Int} (hl : ∀ x ∈ l, Int.sm x) (hm : m ∈ l) (h : ∀ x ∈ l, x ≤ m) : Num.most (l.map Num.ofInt) = Num.ofInt m := by
  have hok : ∀ y ∈ l.map Num.ofInt, y.ok := by
    intro y hy
    obtain ⟨x, hx, rfl⟩ := List.mem_map.1 hy
    exact (ofInt_fine (hl x hx)).2.1
  obtain ⟨h1, h2, h3, h4⟩ := Num.most_spec (l.map Num.ofInt) hok
  have fm := ofInt_fine (hl m hm)
  refine ofInt_inj (hl m hm) h1 h2 ?_
  have p := pw_pos 0
  refine Int.le_antisymm ?_ ?_
  · rcases h4 with h4 | ⟨y, hy, h4⟩
    · rw [h4, Num.val_inf]
      have := (Num.val_le fm.1 fm.2.1).1
      rw [fm.2.2.2.2] at this
      simpa using this
    · obtain ⟨x, hx, rfl⟩ := List.mem_map.1 hy
      have fx := ofInt_fine (hl x hx)
      rw [h4, fx.2.2.2.1, fx.2.2.2.2]
      exact Int.mul_le_mul_of_nonneg_right (h x hx) (Int.le_of_lt p)
  · have := h3 _ (List.mem_map.2 ⟨m, hm, rfl⟩)
    rw [fm.2.2.2.1, fm.2.2.2.2] at this
    exact this

/-- from one whole number to another one -/
def ofI (a b : Int) : Iv := ⟨false, Num.ofInt a, Num.ofInt b⟩
theorem ofI_real {a b : Int} (ha : Int.sm a) (hb : Int.sm b) (h : a ≤ b) : (ofI a b).Real := by
  obtain ⟨m1, o1, k1, f1, v1⟩ := ofInt_fine ha
  obtain ⟨m2, o2, k2, f2, v2⟩ := ofInt_fine hb
  refine Iv.real_of ?_ rfl o1 o2
  unfold Iv.may
  have n1 : Num.ofInt a ≠ Num.inf false := fun g => k1 (by rw [g]; rfl)
  have n2 : Num.ofInt b ≠ Num.inf true := fun g => k2 (by rw [g]; rfl)
  have c := (ofInt_le ha hb).2 h
  simp [ofI, m1, m2, c, n1, n2]
theorem ofI_make {a b : Int} (ha : Int.sm a) (hb : Int.sm b) (h : a ≤ b) : Iv.make (Num.ofInt a) (Num.ofInt b) = ofI a b := by
  have f1 := (ofInt_fine ha).2.2.2.1
  have f2 := (ofInt_fine hb).2.2.2.1
  have r := ofI_real ha hb h
  unfold ofI at r ⊢
  rw [Iv.make_real (by rw [f1, f2]; exact r), f1, f2]
theorem ofI_fair {a b : Int} (ha : Int.sm a) (hb : Int.sm b) (h : a ≤ b) : (ofI a b).fair = ofI a b := (ofI_real ha hb h).fair
theorem ofI_within {a b c d : Int} (ha : Int.sm a) (hb : Int.sm b) (hc : Int.sm c) (hd : Int.sm d) (h1 : a ≤ b) (h2 : c ≤ d) (h3 : c ≤ a) (h4 : b ≤ d) : (ofI a b).within (ofI c d) = true := by
  unfold Iv.within
  rw [ofI_fair ha hb h1, ofI_fair hc hd h2]
  have e1 := (ofInt_le hc ha).2 h3
  have e2 := (ofInt_le hb hd).2 h4
  simp [ofI, e1, e2]
theorem min2 (a b : Int) : ∃ m, m ∈ [a, b] ∧ ∀ x ∈ [a, b], m ≤ x := by
  rcases Int.le_total a b with h | h
  · exact ⟨a, by simp, by simp; exact h⟩
  · exact ⟨b, by simp, by simp; exact h⟩
theorem max2 (a b : Int) : ∃ m, m ∈ [a, b] ∧ ∀ x ∈ [a, b], x ≤ m := by
  rcases Int.le_total a b with h | h
  · exact ⟨b, by simp, by simp; exact h⟩
  · exact ⟨a, by simp, by simp; exact h⟩
theorem min4 (a b c d : Int) : ∃ m, m ∈ [a, b, c, d] ∧ ∀ x ∈ [a, b, c, d], m ≤ x := by
  obtain ⟨m, h1, h2⟩ := min2 a b
  obtain ⟨n, h3, h4⟩ := min2 c d
  obtain ⟨k, h5, h6⟩ := min2 m n
  simp only [List.mem_cons, List.not_mem_nil, or_false, forall_eq_or_imp, forall_eq] at *
  refine ⟨k, ?_, ?_⟩
  · rcases h5 with rfl | rfl
    · rcases h1 with rfl | rfl <;> simp
    · rcases h3 with rfl | rfl <;> simp
  · omega
theorem max4 (a b c d : Int) : ∃ m, m ∈ [a, b, c, d] ∧ ∀ x ∈ [a, b, c, d], x ≤ m := by
  obtain ⟨m, h1, h2⟩ := max2 a b
  obtain ⟨n, h3, h4⟩ := max2 c d
  obtain ⟨k, h5, h6⟩ := max2 m n
  simp only [List.mem_cons, List.not_mem_nil, or_false, forall_eq_or_imp, forall_eq] at *
  refine ⟨k, ?_, ?_⟩
  · rcases h5 with rfl | rfl
    · rcases h1 with rfl | rfl <;> simp
    · rcases h3 with rfl | rfl <;> simp
  · omega
theorem ofI_point {a : Int} (ha : Int.sm a) : Iv.point (Num.ofInt a) = ofI a a := ofI_make ha ha (Int.le_refl a)
theorem ofI_goods {a b c d : Int} (ha : Int.sm a) (hb : Int.sm b) (hc : Int.sm c) (hd : Int.sm d) (h1 : a ≤ b) (h2 : c ≤ d) : Iv.goods [ofI a b, ofI c d] = [ofI a b, ofI c d] := by
  simp only [Iv.goods]
  rw [ofI_fair ha hb h1, ofI_fair hc hd h2]
  simp [ofI]
theorem ofI_hull {a b : Int} (ha : Int.sm a) (hb : Int.sm b) : ∃ l u, Iv.hull [ofI a a, ofI b b] = ofI l u ∧ l ∈ [a, b] ∧ u ∈ [a, b] ∧ l ≤ a ∧ l ≤ b ∧ a ≤ u ∧ b ≤ u := by
  obtain ⟨l, h1, h2⟩ := min2 a b
  obtain ⟨u, h3, h4⟩ := max2 a b
  have hs : ∀ x ∈ [a, b], Int.sm x := by intro x hx; simp only [List.mem_cons, List.not_mem_nil, or_false] at hx; rcases hx with rfl | rfl <;> assumption
  have el := ofInt_least hs h1 h2
  have eu := ofInt_most hs h3 h4
  refine ⟨l, u, ?_, h1, h3, h2 a (by simp), h2 b (by simp), h4 a (by simp), h4 b (by simp)⟩
  unfold Iv.hull Iv.los Iv.his
  rw [ofI_goods ha ha hb hb (Int.le_refl a) (Int.le_refl b)]
  rw [if_neg (by simp)]
  show Iv.make (Num.least ([a, b].map Num.ofInt)) (Num.most ([a, b].map Num.ofInt)) = _
  rw [el, eu]
  exact ofI_make (hs l h1) (hs u h3) (h2 u h3)
theorem ofI_good {a b : Int} (ha : Int.sm a) (hb : Int.sm b) (h : a ≤ b) : Iv.bad (ofI a b) = false := (ofI_real ha hb h).good
theorem ofI_add {a b c d : Int} (ha : Int.sm a) (hb : Int.sm b) (hc : Int.sm c) (hd : Int.sm d) (h1 : a ≤ b) (h2 : c ≤ d) (hs : Int.sm (a + c)) (hs' : Int.sm (b + d)) : Iv.add [ofI a b, ofI c d] = ofI (a + c) (b + d) := by
  unfold Iv.add
  have : Iv.anyBad [ofI a b, ofI c d] = false := by simp [Iv.anyBad, ofI_good ha hb h1, ofI_good hc hd h2]
  rw [this, if_neg (by decide)]
  show Iv.make (Num.add (Num.ofInt a) (Num.ofInt c) false) (Num.add (Num.ofInt b) (Num.ofInt d) true) = _
  rw [ofInt_add ha hc hs, ofInt_add hb hd hs', ofI_make hs hs' (by omega)]
theorem ofI_neg {a b : Int} (ha : Int.sm a) (hb : Int.sm b) (h1 : a ≤ b) : Iv.neg (ofI a b) = ofI (-b) (-a) := by
  unfold Iv.neg
  have : Iv.anyBad [ofI a b] = false := by simp [Iv.anyBad, ofI_good ha hb h1]
  rw [this, if_neg (by decide)]
  show Iv.make (Num.ofInt b).opp (Num.ofInt a).opp = _
  rw [ofInt_opp ha, ofInt_opp hb, ofI_make (by unfold Int.sm at *; omega) (by unfold Int.sm at *; omega) (by omega)]
theorem ofI_mul {a b c d : Int} (ha : Int.sm a) (hb : Int.sm b) (hc : Int.sm c) (hd : Int.sm d) (h1 : a ≤ b) (h2 : c ≤ d) (s1 : Int.sm (a * c)) (s2 : Int.sm (a * d)) (s3 : Int.sm (b * c)) (s4 : Int.sm (b * d)) :
    ∃ l u, Iv.mul (ofI a b) (ofI c d) = ofI l u ∧ l ∈ [a * c, a * d, b * c, b * d] ∧ u ∈ [a * c, a * d, b * c, b * d] ∧ (∀ x ∈ [a * c, a * d, b * c, b * d], l ≤ x) ∧ (∀ x ∈ [a * c, a * d, b * c, b * d], x ≤ u) := by
  obtain ⟨l, h3, h4⟩ := min4 (a * c) (a * d) (b * c) (b * d)
  obtain ⟨u, h5, h6⟩ := max4 (a * c) (a * d) (b * c) (b * d)
  have hs : ∀ x ∈ [a * c, a * d, b * c, b * d], Int.sm x := by intro x hx; simp only [List.mem_cons, List.not_mem_nil, or_false] at hx; rcases hx with rfl | rfl | rfl | rfl <;> assumption
  refine ⟨l, u, ?_, h3, h5, h4, h6⟩
  unfold Iv.mul
  have : Iv.anyBad [ofI a b, ofI c d] = false := by simp [Iv.anyBad, ofI_good ha hb h1, ofI_good hc hd h2]
  rw [this, if_neg (by decide)]
  unfold Iv.corners
  show Iv.make (Num.least [Num.mul (Num.ofInt a) (Num.ofInt c) false, Num.mul (Num.ofInt a) (Num.ofInt d) false, Num.mul (Num.ofInt b) (Num.ofInt c) false, Num.mul (Num.ofInt b) (Num.ofInt d) false])
    (Num.most [Num.mul (Num.ofInt a) (Num.ofInt c) true, Num.mul (Num.ofInt a) (Num.ofInt d) true, Num.mul (Num.ofInt b) (Num.ofInt c) true, Num.mul (Num.ofInt b) (Num.ofInt d) true]) = _
  rw [ofInt_mul ha hc s1, ofInt_mul ha hd s2, ofInt_mul hb hc s3, ofInt_mul hb hd s4, ofInt_mul ha hc s1, ofInt_mul ha hd s2, ofInt_mul hb hc s3, ofInt_mul hb hd s4]
  show Iv.make (Num.least ([a * c, a * d, b * c, b * d].map Num.ofInt)) (Num.most ([a * c, a * d, b * c, b * d].map Num.ofInt)) = _
  rw [ofInt_least hs h3 h4, ofInt_most hs h5 h6]
  exact ofI_make (hs l h3) (hs u h5) (h4 u h5)

theorem mul_bound {x y m n : Int} (h1 : -m ≤ x) (h2 : x ≤ m) (h3 : -n ≤ y) (h4 : y ≤ n) (hn : 0 ≤ n) : -(m * n) ≤ x * y ∧ x * y ≤ m * n := by
  have a1 : 0 ≤ (m - x) * (n + y) := Int.mul_nonneg (by omega) (by omega)
  have a2 : 0 ≤ (m + x) * (n - y) := Int.mul_nonneg (by omega) (by omega)
  have a3 : 0 ≤ (m - x) * (n - y) := Int.mul_nonneg (by omega) (by omega)
  have a4 : 0 ≤ (m + x) * (n + y) := Int.mul_nonneg (by omega) (by omega)
  have e1 : (m - x) * (n + y) = m * n + m * y - x * n - x * y := by grind
  have e2 : (m + x) * (n - y) = m * n - m * y + x * n - x * y := by grind
  have e3 : (m - x) * (n - y) = m * n - m * y - x * n + x * y := by grind
  have e4 : (m + x) * (n + y) = m * n + m * y + x * n + x * y := by grind
  omega
def Int.mi (n : Int) : Prop := -1000000 ≤ n ∧ n ≤ 1000000
set_option maxHeartbeats 1000000 in
theorem spreads {a b c d e f : Int} (ha : Int.mi a) (hb : Int.mi b) (hc : Int.mi c) (hd : Int.mi d) (he : Int.mi e) (hf : Int.mi f) {x y z p q : Iv}
    (hx : x = Iv.hull [Iv.point (Num.ofInt a), Iv.point (Num.ofInt b)]) (hy : y = Iv.hull [Iv.point (Num.ofInt c), Iv.point (Num.ofInt d)]) (hz : z = Iv.hull [Iv.point (Num.ofInt e), Iv.point (Num.ofInt f)])
    (hp : p = Iv.mul x (Iv.add [y, z])) (hq : q = Iv.add [Iv.mul x y, Iv.mul x z]) : p.within q = true ∧ x.within (Iv.add [Iv.add [x, Iv.neg y], y]) = true ∧ p.empty = false ∧ p.lo.kind ≠ 2 := by
  have S : ∀ {n : Int}, Int.mi n → Int.sm n := fun h => by unfold Int.mi Int.sm at *; omega
  rw [ofI_point (S ha), ofI_point (S hb)] at hx
  rw [ofI_point (S hc), ofI_point (S hd)] at hy
  rw [ofI_point (S he), ofI_point (S hf)] at hz
  obtain ⟨x1, x2, ex, mx1, mx2, x3, x4, x5, x6⟩ := ofI_hull (S ha) (S hb)
  obtain ⟨y1, y2, ey, my1, my2, y3, y4, y5, y6⟩ := ofI_hull (S hc) (S hd)
  obtain ⟨z1, z2, ez, mz1, mz2, z3, z4, z5, z6⟩ := ofI_hull (S he) (S hf)
  rw [ex] at hx; rw [ey] at hy; rw [ez] at hz
  have M : ∀ {n u v : Int}, Int.mi u → Int.mi v → n ∈ [u, v] → Int.mi n := by
    intro n u v hu hv hn
    simp only [List.mem_cons, List.not_mem_nil, or_false] at hn
    rcases hn with rfl | rfl <;> assumption
  have i1 := M ha hb mx1; have i2 := M ha hb mx2; have i3 := M hc hd my1; have i4 := M hc hd my2; have i5 := M he hf mz1; have i6 := M he hf mz2
  clear ex ey ez mx1 mx2 my1 my2 mz1 mz2 M ha hb hc hd he hf
  have lx : x1 ≤ x2 := by omega
  have ly : y1 ≤ y2 := by omega
  have lz : z1 ≤ z2 := by omega
  clear x3 x4 x5 x6 y3 y4 y5 y6 z3 z4 z5 z6
  have T : ∀ {n : Int}, -4000000000000 ≤ n → n ≤ 4000000000000 → Int.sm n := fun h k => by unfold Int.sm; omega
  unfold Int.mi at i1 i2 i3 i4 i5 i6
  have P1 : ∀ {u v : Int}, -1000000 ≤ u ∧ u ≤ 1000000 → -1000000 ≤ v ∧ v ≤ 1000000 → -1000000000000 ≤ u * v ∧ u * v ≤ 1000000000000 := fun hu hv => by
    have := mul_bound (m := 1000000) (n := 1000000) hu.1 hu.2 hv.1 hv.2 (by decide)
    omega
  have P2 : ∀ {u v : Int}, -1000000 ≤ u ∧ u ≤ 1000000 → -2000000 ≤ v ∧ v ≤ 2000000 → Int.sm (u * v) := fun hu hv => by
    have := mul_bound (m := 1000000) (n := 2000000) hu.1 hu.2 hv.1 hv.2 (by decide)
    exact T (by omega) (by omega)
  have P3 : ∀ {u v : Int}, -1000000 ≤ u ∧ u ≤ 1000000 → -1000000 ≤ v ∧ v ≤ 1000000 → Int.sm (u * v) := fun hu hv => by
    have := P1 hu hv
    exact T (by omega) (by omega)
  have a1 := ofI_add (a := y1) (b := y2) (c := z1) (d := z2) (T (by omega) (by omega)) (T (by omega) (by omega)) (T (by omega) (by omega)) (T (by omega) (by omega)) ly lz (T (by omega) (by omega)) (T (by omega) (by omega))
  obtain ⟨pl, pu, ep, mpl, mpu, lpl, lpu⟩ := ofI_mul (a := x1) (b := x2) (c := y1 + z1) (d := y2 + z2) (T (by omega) (by omega)) (T (by omega) (by omega)) (T (by omega) (by omega)) (T (by omega) (by omega)) lx (by omega)
    (P2 i1 (by omega)) (P2 i1 (by omega)) (P2 i2 (by omega)) (P2 i2 (by omega))
  obtain ⟨ql, qu, eq1, mql, mqu, lql, lqu⟩ := ofI_mul (a := x1) (b := x2) (c := y1) (d := y2) (T (by omega) (by omega)) (T (by omega) (by omega)) (T (by omega) (by omega)) (T (by omega) (by omega)) lx ly (P3 i1 i3) (P3 i1 i4) (P3 i2 i3) (P3 i2 i4)
  obtain ⟨rl, ru, er, mrl, mru, lrl, lru⟩ := ofI_mul (a := x1) (b := x2) (c := z1) (d := z2) (T (by omega) (by omega)) (T (by omega) (by omega)) (T (by omega) (by omega)) (T (by omega) (by omega)) lx lz (P3 i1 i5) (P3 i1 i6) (P3 i2 i5) (P3 i2 i6)
  have B : ∀ {l a b c d k : Int}, -k ≤ a ∧ a ≤ k → -k ≤ b ∧ b ≤ k → -k ≤ c ∧ c ≤ k → -k ≤ d ∧ d ≤ k → l ∈ [a, b, c, d] → -k ≤ l ∧ l ≤ k := by
    intro l a b c d k h1 h2 h3 h4 hl
    simp only [List.mem_cons, List.not_mem_nil, or_false] at hl
    rcases hl with rfl | rfl | rfl | rfl <;> assumption
  have P4 : ∀ {u v : Int}, -1000000 ≤ u ∧ u ≤ 1000000 → -2000000 ≤ v ∧ v ≤ 2000000 → -2000000000000 ≤ u * v ∧ u * v ≤ 2000000000000 := fun hu hv => by
    have := mul_bound (m := 1000000) (n := 2000000) hu.1 hu.2 hv.1 hv.2 (by decide)
    omega
  have bpl := B (k := 2000000000000) (P4 i1 (by omega)) (P4 i1 (by omega)) (P4 i2 (by omega)) (P4 i2 (by omega)) mpl
  have bpu := B (k := 2000000000000) (P4 i1 (by omega)) (P4 i1 (by omega)) (P4 i2 (by omega)) (P4 i2 (by omega)) mpu
  have bql := B (k := 1000000000000) (P1 i1 i3) (P1 i1 i4) (P1 i2 i3) (P1 i2 i4) mql
  have bqu := B (k := 1000000000000) (P1 i1 i3) (P1 i1 i4) (P1 i2 i3) (P1 i2 i4) mqu
  have brl := B (k := 1000000000000) (P1 i1 i5) (P1 i1 i6) (P1 i2 i5) (P1 i2 i6) mrl
  have bru := B (k := 1000000000000) (P1 i1 i5) (P1 i1 i6) (P1 i2 i5) (P1 i2 i6) mru
  simp only [List.mem_cons, List.not_mem_nil, or_false, forall_eq_or_imp, forall_eq, Int.mul_add] at mpl mpu lpl lpu lql lqu lrl lru
  have lq : ql ≤ qu := Int.le_trans lql.1 lqu.1
  have lr : rl ≤ ru := Int.le_trans lrl.1 lru.1
  have lp : pl ≤ pu := Int.le_trans lpl.1 lpu.1
  have in1 : ql + rl ≤ pl := by
    obtain ⟨l1, l2, l3, l4⟩ := lql
    obtain ⟨k1, k2, k3, k4⟩ := lrl
    clear lpl lpu mpu lqu lru
    rcases mpl with h | h | h | h <;> rw [h] <;> clear h <;> (first | exact Int.add_le_add l1 k1 | exact Int.add_le_add l2 k2 | exact Int.add_le_add l3 k3 | exact Int.add_le_add l4 k4)
  have in2 : pu ≤ qu + ru := by
    obtain ⟨l1, l2, l3, l4⟩ := lqu
    obtain ⟨k1, k2, k3, k4⟩ := lru
    clear lpl lpu mpl lql lrl
    rcases mpu with h | h | h | h <;> rw [h] <;> clear h <;> (first | exact Int.add_le_add l1 k1 | exact Int.add_le_add l2 k2 | exact Int.add_le_add l3 k3 | exact Int.add_le_add l4 k4)
  clear lpl lpu lql lqu lrl lru mpl mpu mql mqu mrl mru P1 P2 P3 P4 B
  have e1 := ofI_add (a := ql) (b := qu) (c := rl) (d := ru) (T (by omega) (by omega)) (T (by omega) (by omega)) (T (by omega) (by omega)) (T (by omega) (by omega)) (by omega) (by omega) (T (by omega) (by omega)) (T (by omega) (by omega))
  have e2 := ofI_neg (a := y1) (b := y2) (T (by omega) (by omega)) (T (by omega) (by omega)) ly
  have e3 := ofI_add (a := x1) (b := x2) (c := -y2) (d := -y1) (T (by omega) (by omega)) (T (by omega) (by omega)) (T (by omega) (by omega)) (T (by omega) (by omega)) lx (by omega) (T (by omega) (by omega)) (T (by omega) (by omega))
  have e4 := ofI_add (a := x1 + -y2) (b := x2 + -y1) (c := y1) (d := y2) (T (by omega) (by omega)) (T (by omega) (by omega)) (T (by omega) (by omega)) (T (by omega) (by omega)) (by omega) ly (T (by omega) (by omega)) (T (by omega) (by omega))
  rw [hp, hq, hx, hy, hz, a1, ep, eq1, er, e1, e2, e3, e4]
  have kp := (ofInt_fine (n := pl) (T (by omega) (by omega))).2.2.1
  refine ⟨ofI_within (T (by omega) (by omega)) (T (by omega) (by omega)) (T (by omega) (by omega)) (T (by omega) (by omega)) (by omega) (by omega) (by omega) (by omega),
    ofI_within (T (by omega) (by omega)) (T (by omega) (by omega)) (T (by omega) (by omega)) (T (by omega) (by omega)) lx (by omega) (by omega) (by omega), rfl, kp⟩
end Go.Proofs.Ytincnfjihffllaa.Ev

/- What is left of points of whole numbers: plain Lean. -/
namespace Go.Proofs.Ytincnfjihffllaa.Ev
open Go

def pt (n : Int) : Iv := ofI n n
theorem pt_real {n : Int} (h : Int.sm n) : (pt n).Real := ofI_real h h (Int.le_refl _)
theorem pt_point {n : Int} (h : Int.sm n) : Iv.point (Num.ofInt n) = pt n := ofI_point h
theorem pt_lo (n : Int) : (pt n).lo = Num.ofInt n := rfl
theorem pt_hi (n : Int) : (pt n).hi = Num.ofInt n := rfl
theorem ofInt_v {n : Int} (h : Int.sm n) : (Num.ofInt n).val = n * pw 0 := (ofInt_fine h).2.2.2.2
theorem mulpw_lt {a b : Int} : a * pw 0 < b * pw 0 ↔ a < b :=
  ⟨fun h => Int.lt_of_mul_lt_mul_right h (Int.le_of_lt (pw_pos 0)), fun h => Int.mul_lt_mul_of_pos_right h (pw_pos 0)⟩
theorem mulpw_le {a b : Int} : a * pw 0 ≤ b * pw 0 ↔ a ≤ b :=
  ⟨fun h => Int.le_of_mul_le_mul_right h (pw_pos 0), fun h => Int.mul_le_mul_of_nonneg_right h (Int.le_of_lt (pw_pos 0))⟩
theorem pt_meet {a c : Int} (ha : Int.sm a) (hc : Int.sm c) : Iv.meet [pt a, pt c] = if a = c then pt a else Iv.none := by
  have ra := pt_real ha
  have rc := pt_real hc
  rw [Iv.meet_real ra rc]
  obtain ⟨m1, m2, m3, m4, m5⟩ := Iv.most_two ra.lom rc.lom ra.loo rc.loo
  obtain ⟨l1, l2, l3, l4, l5⟩ := Iv.least_two ra.him rc.him ra.hio rc.hio
  by_cases h : a = c
  · subst h
    rw [if_pos rfl]
    have e1 : Num.most [(pt a).lo, (pt a).lo] = Num.ofInt a := by rcases m5 with e | e <;> exact e
    have e2 : Num.least [(pt a).hi, (pt a).hi] = Num.ofInt a := by rcases l5 with e | e <;> exact e
    rw [e1, e2]; exact ofI_make ha ha (Int.le_refl _)
  · rw [if_neg h]
    rcases Iv.make_of m1 l1 m2 l2 with e | ⟨-, R⟩
    · exact e
    · exfalso
      have le : (Num.most [(pt a).lo, (pt c).lo]).val ≤ (Num.least [(pt a).hi, (pt c).hi]).val := R.le
      rw [pt_lo, pt_lo] at *
      rw [pt_hi, pt_hi] at *
      rw [ofInt_v ha] at m3 l3
      rw [ofInt_v hc] at m4 l4
      rcases Int.lt_or_le a c with k | k
      · have := mulpw_lt.2 k; omega
      · have := mulpw_lt.2 (show c < a by omega); omega
theorem pt_meet_self {a : Int} (ha : Int.sm a) : Iv.meet [pt a, pt a] = pt a := by rw [pt_meet ha ha, if_pos rfl]
theorem pt_sub {a c : Int} (ha : Int.sm a) (hc : Int.sm c) (hc' : Int.sm (-c)) (hs : Int.sm (a - c)) : Iv.sub (pt a) (pt c) = pt (a - c) := by
  unfold Iv.sub pt
  rw [ofI_neg hc hc (Int.le_refl _), ofI_add ha ha hc' hc' (Int.le_refl _) (Int.le_refl _) (by rw [← Int.sub_eq_add_neg]; exact hs) (by rw [← Int.sub_eq_add_neg]; exact hs), ← Int.sub_eq_add_neg]
theorem pt_add {a c : Int} (ha : Int.sm a) (hc : Int.sm c) (hs : Int.sm (a + c)) : Iv.add [pt a, pt c] = pt (a + c) :=
  ofI_add ha ha hc hc (Int.le_refl _) (Int.le_refl _) hs hs
theorem ofInt_div {a b : Int} (ha : Int.sm a) (hb : Int.sm b) (hs : Int.sm (a * b)) (b0 : b ≠ 0) (up : Bool) : Num.div (Num.ofInt (a * b)) (Num.ofInt b) up = Num.ofInt a := by
  obtain ⟨ma, oa, ka, fa, va⟩ := ofInt_fine ha
  obtain ⟨mb, ob, kb, fb, vb⟩ := ofInt_fine hb
  obtain ⟨ms, os, ks, fs, vs⟩ := ofInt_fine hs
  have p0 := pw_pos 0
  have nb : (Num.ofInt b).fair.kind = 1 := by
    refine Num.kind1 ob ?_ (by rw [fb]; exact kb)
    refine Num.kind_val ?_
    rw [fb, vb]
    intro h
    rcases Int.mul_eq_zero.1 h with h | h <;> omega
  have B := div_best os ob (by rw [fs]; exact ks) nb up
  rw [fs, fb, vs] at B
  have pos := Num.val_pos mb ob
  have hw : 0 < (Num.ofInt b).W := by
    rcases Int.lt_trichotomy b 0 with k | k | k
    · have := (pos.2.1 (by rw [vb]; have := mulpw_lt.2 k; omega)).2.1
      rw [vb] at this; have := mulpw_lt.2 k; omega
    · omega
    · have := (pos.1 (by rw [vb]; have := mulpw_lt.2 k; omega)).2.1
      rw [vb] at this; have := mulpw_lt.2 k; omega
  refine B.exact hw ma oa ka ?_
  rw [va]
  rcases Int.lt_trichotomy b 0 with k | k | k
  · have q := pos.2.1 (by rw [vb]; have := mulpw_lt.2 k; omega)
    rw [q.1, q.2.1, vb]
    simp only [if_true]
    grind
  · omega
  · have q := pos.1 (by rw [vb]; have := mulpw_lt.2 k; omega)
    rw [q.1, q.2.1, vb]
    simp only [Bool.false_eq_true, if_false]
    grind
theorem pt_div {a b : Int} (ha : Int.sm a) (hb : Int.sm b) (hs : Int.sm (a * b)) (b0 : b ≠ 0) : Iv.div (pt (a * b)) (pt b) = pt a := by
  have rb := pt_real hb
  have vb := ofInt_v hb
  have n0 : b * pw 0 ≠ 0 := by
    intro h
    rcases Int.mul_eq_zero.1 h with h | h
    · exact b0 h
    · have := pw_pos 0; omega
  rw [Iv.div_real (pt_real hs) rb, pt_lo, pt_hi, vb, if_neg (fun h => n0 h.1), if_pos (by omega)]
  unfold Iv.corners
  rw [pt_lo, pt_hi, pt_lo, pt_hi, ofInt_div ha hb hs b0, ofInt_div ha hb hs b0]
  have e1 := ofInt_least (l := [a, a, a, a]) (m := a) (by simp; exact ha) (by simp) (by simp)
  have e2 := ofInt_most (l := [a, a, a, a]) (m := a) (by simp; exact ha) (by simp) (by simp)
  simp only [List.map_cons, List.map_nil] at e1 e2
  rw [e1, e2]
  exact ofI_make ha ha (Int.le_refl _)
theorem pt_mul {a b : Int} (ha : Int.sm a) (hb : Int.sm b) (hs : Int.sm (a * b)) : Iv.mul (pt a) (pt b) = pt (a * b) := by
  unfold Iv.mul
  rw [Iv.bad_two, (pt_real ha).good, (pt_real hb).good, if_neg (by decide)]
  unfold Iv.corners
  rw [pt_lo, pt_hi, pt_lo, pt_hi, ofInt_mul ha hb hs, ofInt_mul ha hb hs]
  have e1 := ofInt_least (l := [a * b, a * b, a * b, a * b]) (m := a * b) (by simp; exact hs) (by simp) (by simp)
  have e2 := ofInt_most (l := [a * b, a * b, a * b, a * b]) (m := a * b) (by simp; exact hs) (by simp) (by simp)
  simp only [List.map_cons, List.map_nil] at e1 e2
  rw [e1, e2]
  exact ofI_make hs hs (Int.le_refl _)
theorem pt_opd {n : Int} (h : Int.sm n) : Opd.of (pt n) = ⟨pt n, decide (n = 0)⟩ := by
  have r := pt_real h
  have v := ofInt_v h
  unfold Opd.of
  rw [Iv.meet_one_real r]
  congr 1
  have k := Iv.has_zero r
  rw [pt_lo, pt_hi, v] at k
  have e : (n * pw 0 ≤ 0 ∧ 0 ≤ n * pw 0) ↔ n = 0 := by
    have a := mulpw_le (a := n) (b := 0)
    have b := mulpw_le (a := 0) (b := n)
    rw [Int.zero_mul] at a b
    omega
  cases hh : Iv.has (pt n) Num.zero with
  | true => rw [hh] at k; have := e.1 (k.1 rfl); rw [decide_eq_true this]
  | false =>
    rw [hh] at k
    have : ¬ n = 0 := fun g => by have := k.2 (e.2 g); cases this
    rw [decide_eq_false this]
def Int.bi (n : Int) : Prop := -1000000000 ≤ n ∧ n ≤ 1000000000
theorem bi_sm {n : Int} (h : Int.bi n) : Int.sm n := ⟨by have := h.1; omega, by have := h.2; omega⟩
theorem bi_mul {a b : Int} (ha : Int.bi a) (hb : Int.bi b) : Int.sm (a * b) := by
  have := mul_bound (m := 1000000000) (n := 1000000000) ha.1 ha.2 hb.1 hb.2 (by decide)
  exact ⟨by omega, by omega⟩
theorem times_points {a b : Int} (ha : Int.bi a) (hb : Int.bi b) : bkTimes (Iv.mul (pt a) (pt b)) (pt a) (pt b) = (pt a, pt b) := by
  have sa := bi_sm ha
  have sb := bi_sm hb
  have ss := bi_mul ha hb
  have s2 : Int.sm (b * a) := by rw [Int.mul_comm]; exact ss
  have e1 : Opd.part ⟨pt a, decide (a = 0)⟩ ⟨pt (a * b), decide (a * b = 0)⟩ ⟨pt b, decide (b = 0)⟩ = ⟨pt a, decide (a = 0)⟩ := by
    unfold Opd.part
    by_cases b0 : b = 0
    · subst b0; rw [Int.mul_zero, if_pos (by decide)]
    · rw [if_neg (by simp [b0])]
      show Opd.of (Iv.meet [pt a, Iv.div (pt (a * b)) (pt b)]) = _
      rw [pt_div sa sb ss b0, pt_meet_self sa, pt_opd sa]
  have e2 : Opd.part ⟨pt b, decide (b = 0)⟩ ⟨pt (a * b), decide (a * b = 0)⟩ ⟨pt a, decide (a = 0)⟩ = ⟨pt b, decide (b = 0)⟩ := by
    unfold Opd.part
    by_cases a0 : a = 0
    · subst a0; rw [Int.zero_mul, if_pos (by decide)]
    · rw [if_neg (by simp [a0])]
      show Opd.of (Iv.meet [pt b, Iv.div (pt (a * b)) (pt a)]) = _
      rw [Int.mul_comm a b, pt_div sb sa s2 a0, pt_meet_self sb, pt_opd sb]
  have ne : (pt (a * b)).empty = false := rfl
  unfold bkTimes
  rw [pt_mul sa sb ss, pt_opd ss, pt_opd sa, pt_opd sb]
  rw [if_neg (by show ¬ (pt (a * b)).empty = true; rw [ne]; decide), e1, e2]
structure PointsB (a b off : Int) : Prop where
  p : off = 0 → bkPlus (pt (a + b + off)) (pt a) (pt b) = (pt a, pt b)
  p' : off ≠ 0 → bkPlus (pt (a + b + off)) (pt a) (pt b) = (Iv.none, Iv.none)
  m : off = 0 → bkMinus (pt (a - b + off)) (pt a) (pt b) = (pt a, pt b)
  m' : off ≠ 0 → bkMinus (pt (a - b + off)) (pt a) (pt b) = (Iv.none, Iv.none)
  t : bkTimes (Iv.mul (pt a) (pt b)) (pt a) (pt b) = (pt a, pt b)
theorem pointsB {a b off : Int} (ha : Int.bi a) (hb : Int.bi b) (h1 : -3 ≤ off) (h2 : off ≤ 3) : PointsB a b off := by
  have a1 := ha.1
  have a2 := ha.2
  have b1 := hb.1
  have b2 := hb.2
  have sa := bi_sm ha
  have sb := bi_sm hb
  have sm : ∀ {n : Int}, -4611686018427387904 ≤ n → n ≤ 4611686018427387904 → Int.sm n := fun h g => ⟨h, g⟩
  refine ⟨fun h => ?_, fun h => ?_, fun h => ?_, fun h => ?_, times_points ha hb⟩
  · subst h
    unfold bkPlus
    rw [pt_sub (sm (by omega) (by omega)) sb (sm (by omega) (by omega)) (sm (by omega) (by omega)), show a + b + 0 - b = a by omega, pt_meet_self sa,
      pt_sub (sm (by omega) (by omega)) sa (sm (by omega) (by omega)) (sm (by omega) (by omega)), show a + b + 0 - a = b by omega, pt_meet_self sb]
  · unfold bkPlus
    rw [pt_sub (sm (by omega) (by omega)) sb (sm (by omega) (by omega)) (sm (by omega) (by omega)), pt_meet sa (sm (by omega) (by omega)), if_neg (by omega), Iv.sub_none_r, Iv.meet_none_r]
  · subst h
    unfold bkMinus
    rw [pt_add (sm (by omega) (by omega)) sb (sm (by omega) (by omega)), show a - b + 0 + b = a by omega, pt_meet_self sa,
      pt_sub sa (sm (by omega) (by omega)) (sm (by omega) (by omega)) (sm (by omega) (by omega)), show a - (a - b + 0) = b by omega, pt_meet_self sb]
  · unfold bkMinus
    rw [pt_add (sm (by omega) (by omega)) sb (sm (by omega) (by omega)), pt_meet sa (sm (by omega) (by omega)), if_neg (by omega), Iv.sub_none_l, Iv.meet_none_r]
end Go.Proofs.Ytincnfjihffllaa.Ev

/- Contracts: the law of points, of what is left of operands. Printed by gen.py out of C28.spec. -/
namespace Go.Proofs.Ytincnfjihffllaa.Ev
open Go Go.Proofs
set_option linter.unusedVariables false
set_option linter.unusedSimpArgs false

theorem k_pnt (x : Num) (hx : ∃ n, Int.sm n ∧ x = Num.ofInt n) : ∃ t : Iv, (t = Iv.point x ∧ (t.lo.ok ∧ t.hi.ok) ∧ t.empty = false) ∧ CallsA Try.prog 42 [x.av] t.av := by
  obtain ⟨n, hn, rfl⟩ := hx
  obtain ⟨t, ht, hC⟩ := c_ivPoint (Num.ofInt n)
  refine ⟨t, ⟨ht, ?_⟩, hC⟩
  have r := pt_real hn
  rw [ht, pt_point hn]
  exact ⟨⟨r.loo, r.hio⟩, rfl⟩
theorem k_sameP (z x y : Iv) (hz : z.fit) (hx : x.fit) (hy : y.fit) (h : bkPlus z x y = (x, y)) : ∃ t : Unit, True ∧ CallsA Try.prog 57 [z.av, x.av, y.av] (.tup [x.av, y.av]) := by
  obtain ⟨t, ht, hC⟩ := c_bkPlus z hz x hx y hy
  rw [ht, h] at hC
  exact ⟨(), trivial, hC⟩
theorem k_sameM (z x y : Iv) (hz : z.fit) (hx : x.fit) (hy : y.fit) (h : bkMinus z x y = (x, y)) : ∃ t : Unit, True ∧ CallsA Try.prog 58 [z.av, x.av, y.av] (.tup [x.av, y.av]) := by
  obtain ⟨t, ht, hC⟩ := c_bkMinus z hz x hx y hy
  rw [ht, h] at hC
  exact ⟨(), trivial, hC⟩
theorem k_sameT (z x y : Iv) (hz : z.fit) (hx : x.fit) (hy : y.fit) (h : bkTimes z x y = (x, y)) : ∃ t : Unit, True ∧ CallsA Try.prog 59 [z.av, x.av, y.av] (.tup [x.av, y.av]) := by
  obtain ⟨t, ht, hC⟩ := c_bkTimes z hz x hx y hy
  rw [ht, h] at hC
  exact ⟨(), trivial, hC⟩
theorem k_noneP (z x y : Iv) (hz : z.fit) (hx : x.fit) (hy : y.fit) (h : bkPlus z x y = (Iv.none, Iv.none)) : ∃ t : Unit, True ∧ CallsA Try.prog 57 [z.av, x.av, y.av] (.tup [Iv.none.av, Iv.none.av]) := by
  obtain ⟨t, ht, hC⟩ := c_bkPlus z hz x hx y hy
  rw [ht, h] at hC
  exact ⟨(), trivial, hC⟩
theorem k_noneM (z x y : Iv) (hz : z.fit) (hx : x.fit) (hy : y.fit) (h : bkMinus z x y = (Iv.none, Iv.none)) : ∃ t : Unit, True ∧ CallsA Try.prog 58 [z.av, x.av, y.av] (.tup [Iv.none.av, Iv.none.av]) := by
  obtain ⟨t, ht, hC⟩ := c_bkMinus z hz x hx y hy
  rw [ht, h] at hC
  exact ⟨(), trivial, hC⟩
theorem sum3 {a b o : Int} (ha : Int.bi a) (hb : Int.bi b) (h1 : -3 ≤ o) (h2 : o ≤ 3) : IntKind.i64.wrap (IntKind.i64.wrap (a + b) + o) = a + b + o ∧ IntKind.i64.wrap (IntKind.i64.wrap (a - b) + o) = a - b + o ∧ Int.sm (a + b + o) ∧ Int.sm (a - b + o) := by
  have := ha.1; have := ha.2; have := hb.1; have := hb.2
  refine ⟨?_, ?_, ⟨by omega, by omega⟩, ⟨by omega, by omega⟩⟩ <;> (rw [wi64, wi64]; omega)

set_option maxRecDepth 10000 in
set_option maxHeartbeats 16000000 in
theorem c_BackPoints (a b o : Int) (la : -9223372036854775808 ≤ a) (ua : a < 9223372036854775808) (lb : -9223372036854775808 ≤ b) (ub : b < 9223372036854775808) (lo : -9223372036854775808 ≤ o) (uo : o < 9223372036854775808) : ∃ t, t = true ∧ CallsA Try.prog 15 [.int .i64 (.s a), .int .i64 (.s b), .int .i64 (.s o)] (.bool (.s t)) := by
  refine ⟨_, rfl, ?_⟩
  generalize hr : true = r
  refine callsA_of hG hm Try.func15 (by kernel_rfl) ?_
  intro E hE lp hl
  cbv
  (apply E_callX hE (c_awakeB); (case hf => rfl); (case hc => (cbv <;> trivial)); (case hle => (repeat' (first | exact u_nil | apply u_cons | apply u2_agg | exact u2_int | exact u1_int | exact u2_bool | exact u1_bool | exact u2_sli | exact u1_sli | exact u2_s0 | exact u1_s0))); all_goals (first | (intro t ht; cbv) | (assumption)))
  repeat' (first
    | (refine E_br hE (fun h => ?_) (fun h => ?_) <;> cbv)
    | fail)
  all_goals (try (subst hE; simp_all only; done))
  have F : Int.bi a ∧ Int.bi b ∧ -3 ≤ o ∧ o ≤ 3 := by
    subst hE
    simp only [NatCast.natCast, Int.ofNat_eq_natCast, realE, cmp_eql, cmp_neq, cmp_lss, cmp_leq, cmp_gtr, cmp_geq, intBinR, SI.val, SB.val, Num.eta, Iv.eta] at *
    simp only [decide_eq_false_iff_not] at *
    exact ⟨⟨by omega, by omega⟩, ⟨by omega, by omega⟩, by omega, by omega⟩
  have sa := bi_sm F.1
  have sb := bi_sm F.2.1
  have S := sum3 F.1 F.2.1 F.2.2.1 F.2.2.2
  have PB := pointsB F.1 F.2.1 F.2.2.1 F.2.2.2
  have e1 : E.bin .add .i64 (E.bin .add .i64 a b) o = a + b + o := by subst hE; exact S.1
  have e2 : E.bin .add .i64 (E.bin .sub .i64 a b) o = a - b + o := by subst hE; exact S.2.1
  have s1 := S.2.2.1
  have s2 := S.2.2.2
  rw [← e1] at s1
  rw [← e2] at s2
  have b1 : -9223372036854775808 ≤ E.bin .add .i64 (E.bin .add .i64 a b) o := by have := s1.1; omega
  have b2 : E.bin .add .i64 (E.bin .add .i64 a b) o < 9223372036854775808 := by have := s1.2; omega
  have b3 : -9223372036854775808 ≤ E.bin .add .i64 (E.bin .sub .i64 a b) o := by have := s2.1; omega
  have b4 : E.bin .add .i64 (E.bin .sub .i64 a b) o < 9223372036854775808 := by have := s2.2; omega
  (first | (apply E_pcallX hE (k_Of a ?_ ?_); (case hm => rfl); (case hle => (repeat' (first | exact u_nil | apply u_cons | apply u2_agg | exact u2_int | exact u1_int | exact u2_bool | exact u1_bool | exact u2_sli | exact u1_sli | exact u2_s0 | exact u1_s0))); all_goals (first | (rintro na ⟨hna, ona⟩; cbv) | ((first | assumption | omega | exact And.left (by assumption) | exact And.right (by assumption))))) | (apply E_callX hE (k_Of a ?_ ?_); (case hf => rfl); (case hc => (cbv <;> trivial)); (case hle => (repeat' (first | exact u_nil | apply u_cons | apply u2_agg | exact u2_int | exact u1_int | exact u2_bool | exact u1_bool | exact u2_sli | exact u1_sli | exact u2_s0 | exact u1_s0))); all_goals (first | (rintro na ⟨hna, ona⟩; cbv) | ((first | assumption | omega | exact And.left (by assumption) | exact And.right (by assumption))))))
  (first | (apply E_pcallX hE (k_pnt ⟨_, _, _, _⟩ ?_); (case hm => rfl); (case hle => (repeat' (first | exact u_nil | apply u_cons | apply u2_agg | exact u2_int | exact u1_int | exact u2_bool | exact u1_bool | exact u2_sli | exact u1_sli | exact u2_s0 | exact u1_s0))); all_goals (first | (rintro x ⟨hx, fx, ex⟩; cbv) | (exact ⟨_, sa, hna⟩))) | (apply E_callX hE (k_pnt ⟨_, _, _, _⟩ ?_); (case hf => rfl); (case hc => (cbv <;> trivial)); (case hle => (repeat' (first | exact u_nil | apply u_cons | apply u2_agg | exact u2_int | exact u1_int | exact u2_bool | exact u1_bool | exact u2_sli | exact u1_sli | exact u2_s0 | exact u1_s0))); all_goals (first | (rintro x ⟨hx, fx, ex⟩; cbv) | (exact ⟨_, sa, hna⟩))))
  (first | (apply E_pcallX hE (k_Of b ?_ ?_); (case hm => rfl); (case hle => (repeat' (first | exact u_nil | apply u_cons | apply u2_agg | exact u2_int | exact u1_int | exact u2_bool | exact u1_bool | exact u2_sli | exact u1_sli | exact u2_s0 | exact u1_s0))); all_goals (first | (rintro nb ⟨hnb, onb⟩; cbv) | ((first | assumption | omega | exact And.left (by assumption) | exact And.right (by assumption))))) | (apply E_callX hE (k_Of b ?_ ?_); (case hf => rfl); (case hc => (cbv <;> trivial)); (case hle => (repeat' (first | exact u_nil | apply u_cons | apply u2_agg | exact u2_int | exact u1_int | exact u2_bool | exact u1_bool | exact u2_sli | exact u1_sli | exact u2_s0 | exact u1_s0))); all_goals (first | (rintro nb ⟨hnb, onb⟩; cbv) | ((first | assumption | omega | exact And.left (by assumption) | exact And.right (by assumption))))))
  (first | (apply E_pcallX hE (k_pnt ⟨_, _, _, _⟩ ?_); (case hm => rfl); (case hle => (repeat' (first | exact u_nil | apply u_cons | apply u2_agg | exact u2_int | exact u1_int | exact u2_bool | exact u1_bool | exact u2_sli | exact u1_sli | exact u2_s0 | exact u1_s0))); all_goals (first | (rintro y ⟨hy, fy, ey⟩; cbv) | (exact ⟨_, sb, hnb⟩))) | (apply E_callX hE (k_pnt ⟨_, _, _, _⟩ ?_); (case hf => rfl); (case hc => (cbv <;> trivial)); (case hle => (repeat' (first | exact u_nil | apply u_cons | apply u2_agg | exact u2_int | exact u1_int | exact u2_bool | exact u1_bool | exact u2_sli | exact u1_sli | exact u2_s0 | exact u1_s0))); all_goals (first | (rintro y ⟨hy, fy, ey⟩; cbv) | (exact ⟨_, sb, hnb⟩))))
  (first | (apply E_pcallX hE (k_Of _ ?_ ?_); (case hm => rfl); (case hle => (repeat' (first | exact u_nil | apply u_cons | apply u2_agg | exact u2_int | exact u1_int | exact u2_bool | exact u1_bool | exact u2_sli | exact u1_sli | exact u2_s0 | exact u1_s0))); all_goals (first | (rintro nz ⟨hnz, onz⟩; cbv) | ((first | assumption | omega | exact And.left (by assumption) | exact And.right (by assumption))))) | (apply E_callX hE (k_Of _ ?_ ?_); (case hf => rfl); (case hc => (cbv <;> trivial)); (case hle => (repeat' (first | exact u_nil | apply u_cons | apply u2_agg | exact u2_int | exact u1_int | exact u2_bool | exact u1_bool | exact u2_sli | exact u1_sli | exact u2_s0 | exact u1_s0))); all_goals (first | (rintro nz ⟨hnz, onz⟩; cbv) | ((first | assumption | omega | exact And.left (by assumption) | exact And.right (by assumption))))))
  (first | (apply E_pcallX hE (k_pnt ⟨_, _, _, _⟩ ?_); (case hm => rfl); (case hle => (repeat' (first | exact u_nil | apply u_cons | apply u2_agg | exact u2_int | exact u1_int | exact u2_bool | exact u1_bool | exact u2_sli | exact u1_sli | exact u2_s0 | exact u1_s0))); all_goals (first | (rintro z ⟨hz, fz, ez⟩; cbv) | (exact ⟨_, s1, hnz⟩))) | (apply E_callX hE (k_pnt ⟨_, _, _, _⟩ ?_); (case hf => rfl); (case hc => (cbv <;> trivial)); (case hle => (repeat' (first | exact u_nil | apply u_cons | apply u2_agg | exact u2_int | exact u1_int | exact u2_bool | exact u1_bool | exact u2_sli | exact u1_sli | exact u2_s0 | exact u1_s0))); all_goals (first | (rintro z ⟨hz, fz, ez⟩; cbv) | (exact ⟨_, s1, hnz⟩))))
  have px : x = pt a := by rw [hx]; show Iv.point na = _; rw [hna]; exact pt_point sa
  have py : y = pt b := by rw [hy]; show Iv.point nb = _; rw [hnb]; exact pt_point sb
  have pz : z = pt (a + b + o) := by rw [hz]; show Iv.point nz = _; rw [hnz]; show Iv.point (Num.ofInt (E.bin .add .i64 (E.bin .add .i64 a b) o)) = _; rw [pt_point s1, e1]
  refine (Decidable.em (o = 0)).elim (fun ho => ?_) (fun ho => ?_)
  · (first | (apply E_pcallX hE (k_sameP ⟨_, ⟨_, _, _, _⟩, ⟨_, _, _, _⟩⟩ ⟨_, ⟨_, _, _, _⟩, ⟨_, _, _, _⟩⟩ ⟨_, ⟨_, _, _, _⟩, ⟨_, _, _, _⟩⟩ ?_ ?_ ?_ ?_); (case hm => rfl); (case hle => (repeat' (first | exact u_nil | apply u_cons | apply u2_agg | exact u2_int | exact u1_int | exact u2_bool | exact u1_bool | exact u2_sli | exact u1_sli | exact u2_s0 | exact u1_s0))); all_goals (first | (intro u hu; cbv) | (first | exact fz | exact fx | exact fy | (show bkPlus z x y = _; rw [pz, px, py]; exact PB.p ho)))) | (apply E_callX hE (k_sameP ⟨_, ⟨_, _, _, _⟩, ⟨_, _, _, _⟩⟩ ⟨_, ⟨_, _, _, _⟩, ⟨_, _, _, _⟩⟩ ⟨_, ⟨_, _, _, _⟩, ⟨_, _, _, _⟩⟩ ?_ ?_ ?_ ?_); (case hf => rfl); (case hc => (cbv <;> trivial)); (case hle => (repeat' (first | exact u_nil | apply u_cons | apply u2_agg | exact u2_int | exact u1_int | exact u2_bool | exact u1_bool | exact u2_sli | exact u1_sli | exact u2_s0 | exact u1_s0))); all_goals (first | (intro u hu; cbv) | (first | exact fz | exact fx | exact fy | (show bkPlus z x y = _; rw [pz, px, py]; exact PB.p ho)))))
    (first | (apply E_pcallX hE (k_Of _ ?_ ?_); (case hm => rfl); (case hle => (repeat' (first | exact u_nil | apply u_cons | apply u2_agg | exact u2_int | exact u1_int | exact u2_bool | exact u1_bool | exact u2_sli | exact u1_sli | exact u2_s0 | exact u1_s0))); all_goals (first | (rintro nw ⟨hnw, onw⟩; cbv) | ((first | assumption | omega | exact And.left (by assumption) | exact And.right (by assumption))))) | (apply E_callX hE (k_Of _ ?_ ?_); (case hf => rfl); (case hc => (cbv <;> trivial)); (case hle => (repeat' (first | exact u_nil | apply u_cons | apply u2_agg | exact u2_int | exact u1_int | exact u2_bool | exact u1_bool | exact u2_sli | exact u1_sli | exact u2_s0 | exact u1_s0))); all_goals (first | (rintro nw ⟨hnw, onw⟩; cbv) | ((first | assumption | omega | exact And.left (by assumption) | exact And.right (by assumption))))))
    (first | (apply E_pcallX hE (k_pnt ⟨_, _, _, _⟩ ?_); (case hm => rfl); (case hle => (repeat' (first | exact u_nil | apply u_cons | apply u2_agg | exact u2_int | exact u1_int | exact u2_bool | exact u1_bool | exact u2_sli | exact u1_sli | exact u2_s0 | exact u1_s0))); all_goals (first | (rintro w ⟨hw, fw, ew⟩; cbv) | (exact ⟨_, s2, hnw⟩))) | (apply E_callX hE (k_pnt ⟨_, _, _, _⟩ ?_); (case hf => rfl); (case hc => (cbv <;> trivial)); (case hle => (repeat' (first | exact u_nil | apply u_cons | apply u2_agg | exact u2_int | exact u1_int | exact u2_bool | exact u1_bool | exact u2_sli | exact u1_sli | exact u2_s0 | exact u1_s0))); all_goals (first | (rintro w ⟨hw, fw, ew⟩; cbv) | (exact ⟨_, s2, hnw⟩))))
    have pw_ : w = pt (a - b + o) := by rw [hw]; show Iv.point nw = _; rw [hnw]; show Iv.point (Num.ofInt (E.bin .add .i64 (E.bin .sub .i64 a b) o)) = _; rw [pt_point s2, e2]
    (first | (apply E_pcallX hE (k_sameM ⟨_, ⟨_, _, _, _⟩, ⟨_, _, _, _⟩⟩ ⟨_, ⟨_, _, _, _⟩, ⟨_, _, _, _⟩⟩ ⟨_, ⟨_, _, _, _⟩, ⟨_, _, _, _⟩⟩ ?_ ?_ ?_ ?_); (case hm => rfl); (case hle => (repeat' (first | exact u_nil | apply u_cons | apply u2_agg | exact u2_int | exact u1_int | exact u2_bool | exact u1_bool | exact u2_sli | exact u1_sli | exact u2_s0 | exact u1_s0))); all_goals (first | (intro u hu; cbv) | (first | exact fw | exact fx | exact fy | (show bkMinus w x y = _; rw [pw_, px, py]; exact PB.m ho)))) | (apply E_callX hE (k_sameM ⟨_, ⟨_, _, _, _⟩, ⟨_, _, _, _⟩⟩ ⟨_, ⟨_, _, _, _⟩, ⟨_, _, _, _⟩⟩ ⟨_, ⟨_, _, _, _⟩, ⟨_, _, _, _⟩⟩ ?_ ?_ ?_ ?_); (case hf => rfl); (case hc => (cbv <;> trivial)); (case hle => (repeat' (first | exact u_nil | apply u_cons | apply u2_agg | exact u2_int | exact u1_int | exact u2_bool | exact u1_bool | exact u2_sli | exact u1_sli | exact u2_s0 | exact u1_s0))); all_goals (first | (intro u hu; cbv) | (first | exact fw | exact fx | exact fy | (show bkMinus w x y = _; rw [pw_, px, py]; exact PB.m ho)))))
    repeat' (first
      | (apply E_br_t hE; (case h => (subst hE; simp [realE, cmp_eql, ho, ex, ey, SB.val]; done)); cbv)
      | (apply E_br_f hE; (case h => (subst hE; simp [realE, cmp_eql, ho, ex, ey, SB.val]; done)); cbv)
      | (first | (apply E_pcallX hE (k_opMul ⟨_, ⟨_, _, _, _⟩, ⟨_, _, _, _⟩⟩ ?_ ⟨_, ⟨_, _, _, _⟩, ⟨_, _, _, _⟩⟩ ?_); (case hm => rfl); (case hle => (repeat' (first | exact u_nil | apply u_cons | apply u2_agg | exact u2_int | exact u1_int | exact u2_bool | exact u1_bool | exact u2_sli | exact u1_sli | exact u2_s0 | exact u1_s0))); all_goals (first | (rintro m ⟨hm_, fm⟩; cbv) | ((first | assumption | omega | exact And.left (by assumption) | exact And.right (by assumption))))) | (apply E_callX hE (k_opMul ⟨_, ⟨_, _, _, _⟩, ⟨_, _, _, _⟩⟩ ?_ ⟨_, ⟨_, _, _, _⟩, ⟨_, _, _, _⟩⟩ ?_); (case hf => rfl); (case hc => (cbv <;> trivial)); (case hle => (repeat' (first | exact u_nil | apply u_cons | apply u2_agg | exact u2_int | exact u1_int | exact u2_bool | exact u1_bool | exact u2_sli | exact u1_sli | exact u2_s0 | exact u1_s0))); all_goals (first | (rintro m ⟨hm_, fm⟩; cbv) | ((first | assumption | omega | exact And.left (by assumption) | exact And.right (by assumption))))))
      | (first | (apply E_pcallX hE (k_sameT ⟨_, ⟨_, _, _, _⟩, ⟨_, _, _, _⟩⟩ ⟨_, ⟨_, _, _, _⟩, ⟨_, _, _, _⟩⟩ ⟨_, ⟨_, _, _, _⟩, ⟨_, _, _, _⟩⟩ ?_ ?_ ?_ ?_); (case hm => rfl); (case hle => (repeat' (first | exact u_nil | apply u_cons | apply u2_agg | exact u2_int | exact u1_int | exact u2_bool | exact u1_bool | exact u2_sli | exact u1_sli | exact u2_s0 | exact u1_s0))); all_goals (first | (intro u hu; cbv) | (first | assumption | (show bkTimes m x y = _; rw [hm_]; show bkTimes (Iv.mul x y) x y = _; rw [px, py]; exact PB.t)))) | (apply E_callX hE (k_sameT ⟨_, ⟨_, _, _, _⟩, ⟨_, _, _, _⟩⟩ ⟨_, ⟨_, _, _, _⟩, ⟨_, _, _, _⟩⟩ ⟨_, ⟨_, _, _, _⟩, ⟨_, _, _, _⟩⟩ ?_ ?_ ?_ ?_); (case hf => rfl); (case hc => (cbv <;> trivial)); (case hle => (repeat' (first | exact u_nil | apply u_cons | apply u2_agg | exact u2_int | exact u1_int | exact u2_bool | exact u1_bool | exact u2_sli | exact u1_sli | exact u2_s0 | exact u1_s0))); all_goals (first | (intro u hu; cbv) | (first | assumption | (show bkTimes m x y = _; rw [hm_]; show bkTimes (Iv.mul x y) x y = _; rw [px, py]; exact PB.t)))))
      | fail)
    subst hE; subst hr; simp [realE, ex, SB.val]
  · (first | (apply E_pcallX hE (k_noneP ⟨_, ⟨_, _, _, _⟩, ⟨_, _, _, _⟩⟩ ⟨_, ⟨_, _, _, _⟩, ⟨_, _, _, _⟩⟩ ⟨_, ⟨_, _, _, _⟩, ⟨_, _, _, _⟩⟩ ?_ ?_ ?_ ?_); (case hm => rfl); (case hle => (repeat' (first | exact u_nil | apply u_cons | apply u2_agg | exact u2_int | exact u1_int | exact u2_bool | exact u1_bool | exact u2_sli | exact u1_sli | exact u2_s0 | exact u1_s0))); all_goals (first | (intro u hu; cbv) | (first | exact fz | exact fx | exact fy | (show bkPlus z x y = _; rw [pz, px, py]; exact PB.p' ho)))) | (apply E_callX hE (k_noneP ⟨_, ⟨_, _, _, _⟩, ⟨_, _, _, _⟩⟩ ⟨_, ⟨_, _, _, _⟩, ⟨_, _, _, _⟩⟩ ⟨_, ⟨_, _, _, _⟩, ⟨_, _, _, _⟩⟩ ?_ ?_ ?_ ?_); (case hf => rfl); (case hc => (cbv <;> trivial)); (case hle => (repeat' (first | exact u_nil | apply u_cons | apply u2_agg | exact u2_int | exact u1_int | exact u2_bool | exact u1_bool | exact u2_sli | exact u1_sli | exact u2_s0 | exact u1_s0))); all_goals (first | (intro u hu; cbv) | (first | exact fz | exact fx | exact fy | (show bkPlus z x y = _; rw [pz, px, py]; exact PB.p' ho)))))
    (first | (apply E_pcallX hE (k_Of _ ?_ ?_); (case hm => rfl); (case hle => (repeat' (first | exact u_nil | apply u_cons | apply u2_agg | exact u2_int | exact u1_int | exact u2_bool | exact u1_bool | exact u2_sli | exact u1_sli | exact u2_s0 | exact u1_s0))); all_goals (first | (rintro nw ⟨hnw, onw⟩; cbv) | ((first | assumption | omega | exact And.left (by assumption) | exact And.right (by assumption))))) | (apply E_callX hE (k_Of _ ?_ ?_); (case hf => rfl); (case hc => (cbv <;> trivial)); (case hle => (repeat' (first | exact u_nil | apply u_cons | apply u2_agg | exact u2_int | exact u1_int | exact u2_bool | exact u1_bool | exact u2_sli | exact u1_sli | exact u2_s0 | exact u1_s0))); all_goals (first | (rintro nw ⟨hnw, onw⟩; cbv) | ((first | assumption | omega | exact And.left (by assumption) | exact And.right (by assumption))))))
    (first | (apply E_pcallX hE (k_pnt ⟨_, _, _, _⟩ ?_); (case hm => rfl); (case hle => (repeat' (first | exact u_nil | apply u_cons | apply u2_agg | exact u2_int | exact u1_int | exact u2_bool | exact u1_bool | exact u2_sli | exact u1_sli | exact u2_s0 | exact u1_s0))); all_goals (first | (rintro w ⟨hw, fw, ew⟩; cbv) | (exact ⟨_, s2, hnw⟩))) | (apply E_callX hE (k_pnt ⟨_, _, _, _⟩ ?_); (case hf => rfl); (case hc => (cbv <;> trivial)); (case hle => (repeat' (first | exact u_nil | apply u_cons | apply u2_agg | exact u2_int | exact u1_int | exact u2_bool | exact u1_bool | exact u2_sli | exact u1_sli | exact u2_s0 | exact u1_s0))); all_goals (first | (rintro w ⟨hw, fw, ew⟩; cbv) | (exact ⟨_, s2, hnw⟩))))
    have pw_ : w = pt (a - b + o) := by rw [hw]; show Iv.point nw = _; rw [hnw]; show Iv.point (Num.ofInt (E.bin .add .i64 (E.bin .sub .i64 a b) o)) = _; rw [pt_point s2, e2]
    (first | (apply E_pcallX hE (k_noneM ⟨_, ⟨_, _, _, _⟩, ⟨_, _, _, _⟩⟩ ⟨_, ⟨_, _, _, _⟩, ⟨_, _, _, _⟩⟩ ⟨_, ⟨_, _, _, _⟩, ⟨_, _, _, _⟩⟩ ?_ ?_ ?_ ?_); (case hm => rfl); (case hle => (repeat' (first | exact u_nil | apply u_cons | apply u2_agg | exact u2_int | exact u1_int | exact u2_bool | exact u1_bool | exact u2_sli | exact u1_sli | exact u2_s0 | exact u1_s0))); all_goals (first | (intro u hu; cbv) | (first | exact fw | exact fx | exact fy | (show bkMinus w x y = _; rw [pw_, px, py]; exact PB.m' ho)))) | (apply E_callX hE (k_noneM ⟨_, ⟨_, _, _, _⟩, ⟨_, _, _, _⟩⟩ ⟨_, ⟨_, _, _, _⟩, ⟨_, _, _, _⟩⟩ ⟨_, ⟨_, _, _, _⟩, ⟨_, _, _, _⟩⟩ ?_ ?_ ?_ ?_); (case hf => rfl); (case hc => (cbv <;> trivial)); (case hle => (repeat' (first | exact u_nil | apply u_cons | apply u2_agg | exact u2_int | exact u1_int | exact u2_bool | exact u1_bool | exact u2_sli | exact u1_sli | exact u2_s0 | exact u1_s0))); all_goals (first | (intro u hu; cbv) | (first | exact fw | exact fx | exact fy | (show bkMinus w x y = _; rw [pw_, px, py]; exact PB.m' ho)))))
    repeat' (first
      | (apply E_br_t hE; (case h => (subst hE; simp [realE, cmp_eql, ho, ex, ey, SB.val]; done)); cbv)
      | (apply E_br_f hE; (case h => (subst hE; simp [realE, cmp_eql, ho, ex, ey, SB.val]; done)); cbv)
      | (first | (apply E_pcallX hE (k_opMul ⟨_, ⟨_, _, _, _⟩, ⟨_, _, _, _⟩⟩ ?_ ⟨_, ⟨_, _, _, _⟩, ⟨_, _, _, _⟩⟩ ?_); (case hm => rfl); (case hle => (repeat' (first | exact u_nil | apply u_cons | apply u2_agg | exact u2_int | exact u1_int | exact u2_bool | exact u1_bool | exact u2_sli | exact u1_sli | exact u2_s0 | exact u1_s0))); all_goals (first | (rintro m ⟨hm_, fm⟩; cbv) | ((first | assumption | omega | exact And.left (by assumption) | exact And.right (by assumption))))) | (apply E_callX hE (k_opMul ⟨_, ⟨_, _, _, _⟩, ⟨_, _, _, _⟩⟩ ?_ ⟨_, ⟨_, _, _, _⟩, ⟨_, _, _, _⟩⟩ ?_); (case hf => rfl); (case hc => (cbv <;> trivial)); (case hle => (repeat' (first | exact u_nil | apply u_cons | apply u2_agg | exact u2_int | exact u1_int | exact u2_bool | exact u1_bool | exact u2_sli | exact u1_sli | exact u2_s0 | exact u1_s0))); all_goals (first | (rintro m ⟨hm_, fm⟩; cbv) | ((first | assumption | omega | exact And.left (by assumption) | exact And.right (by assumption))))))
      | (first | (apply E_pcallX hE (k_sameT ⟨_, ⟨_, _, _, _⟩, ⟨_, _, _, _⟩⟩ ⟨_, ⟨_, _, _, _⟩, ⟨_, _, _, _⟩⟩ ⟨_, ⟨_, _, _, _⟩, ⟨_, _, _, _⟩⟩ ?_ ?_ ?_ ?_); (case hm => rfl); (case hle => (repeat' (first | exact u_nil | apply u_cons | apply u2_agg | exact u2_int | exact u1_int | exact u2_bool | exact u1_bool | exact u2_sli | exact u1_sli | exact u2_s0 | exact u1_s0))); all_goals (first | (intro u hu; cbv) | (first | assumption | (show bkTimes m x y = _; rw [hm_]; show bkTimes (Iv.mul x y) x y = _; rw [px, py]; exact PB.t)))) | (apply E_callX hE (k_sameT ⟨_, ⟨_, _, _, _⟩, ⟨_, _, _, _⟩⟩ ⟨_, ⟨_, _, _, _⟩, ⟨_, _, _, _⟩⟩ ⟨_, ⟨_, _, _, _⟩, ⟨_, _, _, _⟩⟩ ?_ ?_ ?_ ?_); (case hf => rfl); (case hc => (cbv <;> trivial)); (case hle => (repeat' (first | exact u_nil | apply u_cons | apply u2_agg | exact u2_int | exact u1_int | exact u2_bool | exact u1_bool | exact u2_sli | exact u1_sli | exact u2_s0 | exact u1_s0))); all_goals (first | (intro u hu; cbv) | (first | assumption | (show bkTimes m x y = _; rw [hm_]; show bkTimes (Iv.mul x y) x y = _; rw [px, py]; exact PB.t)))))
      | fail)
    subst hE; subst hr; simp [realE, ex, SB.val]

end Go.Proofs.Ytincnfjihffllaa.Ev
