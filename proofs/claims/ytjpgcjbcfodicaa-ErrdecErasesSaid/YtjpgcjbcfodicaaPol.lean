/- Steps of the proof: lemmas for every input, without conditions but those that each states. -/
import Derived.Test.YtjpgcjbcfodicaaPoly
set_option linter.unusedSimpArgs false
set_option linter.unusedVariables false
namespace Go.Eng
/-- The sum of the first n. -/
def xsum : Nat → (Nat → UInt8) → UInt8
  | 0, _ => 0
  | n + 1, f => xsum n f ^^^ f n
theorem xsum_congr {n : Nat} {f g : Nat → UInt8} (h : ∀ i, i < n → f i = g i) : xsum n f = xsum n g := by
  induction n with
  | zero => rfl
  | succ n ih => rw [xsum, xsum, ih fun i hi => h i (by omega), h n (by omega)]
theorem xsum_zero (n : Nat) : xsum n (fun _ => 0) = 0 := by
  induction n with
  | zero => rfl
  | succ n ih => rw [xsum, ih]; rfl
theorem xsum_none {n : Nat} {f : Nat → UInt8} (h : ∀ i, i < n → f i = 0) : xsum n f = 0 := (xsum_congr h).trans (xsum_zero n)
theorem xor4 (a b c d : UInt8) : (a ^^^ b) ^^^ (c ^^^ d) = (a ^^^ c) ^^^ (b ^^^ d) := by
  rw [xor_assoc8, xor_assoc8, ← xor_assoc8 b c d, xor_comm8 b c, xor_assoc8 c b d]
theorem xsum_xor (n : Nat) (f g : Nat → UInt8) : xsum n (fun i => f i ^^^ g i) = xsum n f ^^^ xsum n g := by
  induction n with
  | zero => simp [xsum]
  | succ n ih => rw [xsum, xsum, xsum, ih, xor4]
theorem gmul_xsum (a : UInt8) (n : Nat) (f : Nat → UInt8) : gmul a (xsum n f) = xsum n fun i => gmul a (f i) := by
  induction n with
  | zero => exact gmul_zero a
  | succ n ih => rw [xsum, xsum, gmul_xor, ih]
theorem xsum_gmul (a : UInt8) (n : Nat) (f : Nat → UInt8) : gmul (xsum n f) a = xsum n fun i => gmul (f i) a := by
  rw [gmul_comm, gmul_xsum]
  exact xsum_congr fun i _ => gmul_comm _ _
theorem xsum_swap (n m : Nat) (f : Nat → Nat → UInt8) : xsum n (fun i => xsum m (f i)) = xsum m fun j => xsum n fun i => f i j := by
  induction n with
  | zero => exact (xsum_zero m).symm
  | succ n ih => rw [xsum, ih, ← xsum_xor]; rfl
theorem xsum_one {n : Nat} {f : Nat → UInt8} (i : Nat) (hi : i < n) (h : ∀ j, j < n → j ≠ i → f j = 0) : xsum n f = f i := by
  induction n with
  | zero => omega
  | succ n ih =>
    rw [xsum]
    by_cases e : i = n
    · subst e
      rw [xsum_none fun j hj => h j (by omega) (by omega), zero_xor8]
    · rw [ih (by omega) fun j hj q => h j (by omega) q, h n (by omega) (Ne.symm e), xor_zero8]
/-- More terms that are nought. -/
theorem xsum_more {n m : Nat} {f : Nat → UInt8} (hn : n ≤ m) (h : ∀ i, n ≤ i → i < m → f i = 0) : xsum m f = xsum n f := by
  induction m with
  | zero => obtain rfl : n = 0 := by omega
            rfl
  | succ m ih =>
    by_cases e : n = m + 1
    · rw [e]
    · rw [xsum, ih (by omega) fun i h1 h2 => h i h1 (by omega), h m (by omega) (by omega), xor_zero8]
theorem xsum_add (n m : Nat) (f : Nat → UInt8) : xsum (n + m) f = xsum n f ^^^ xsum m fun i => f (n + i) := by
  induction m with
  | zero => rw [Nat.add_zero]; exact (xor_zero8 _).symm
  | succ m ih => rw [← Nat.add_assoc, xsum, ih, xsum, xor_assoc8]
theorem xsum_rev (n : Nat) (f : Nat → UInt8) : xsum n f = xsum n fun i => f (n - 1 - i) := by
  induction n with
  | zero => rfl
  | succ n ih =>
    rw [xsum, Nat.add_comm n 1, xsum_add 1 n]
    rw [ih, xor_comm8]
    congr 1
    · show f n = 0 ^^^ f (1 + n - 1 - 0)
      rw [zero_xor8]; congr 1; omega
    · exact xsum_congr fun i hi => by congr 1; omega

/-! ### Coefficients -/
abbrev cf (p : List UInt8) (i : Nat) : UInt8 := p.getD i 0
theorem cf_ge {p : List UInt8} {i : Nat} (h : p.length ≤ i) : cf p i = 0 := by
  rw [cf, List.getD_eq_getElem?_getD, List.getElem?_eq_none h]; rfl
theorem cf_lt {p : List UInt8} {i : Nat} (h : i < p.length) : cf p i = p[i] := by
  rw [cf, List.getD_eq_getElem?_getD, List.getElem?_eq_getElem h]; rfl
theorem cf_snoc (l : List UInt8) (c : UInt8) (i : Nat) : cf (l ++ [c]) i = if i = l.length then c else cf l i := by
  by_cases h : i < l.length
  · rw [if_neg (by omega), cf_lt (by simp; omega), cf_lt h, List.getElem_append_left h]
  · by_cases e : i = l.length
    · subst e; rw [if_pos rfl, cf_lt (by simp)]; simp
    · rw [if_neg e, cf_ge (by simp; omega), cf_ge (by omega)]
theorem strip_cf : ∀ (n : Nat) (l : List UInt8) (i : Nat), l.length = n → cf (strip l) i = cf l i
  | 0, l, i, h => by
    have : l = [] := List.eq_nil_of_length_eq_zero h
    subst this; rfl
  | n + 1, l, i, h => by
    have hs := strip_snoc (l.take (l.length - 1)) (top l)
    have h0 : 0 < l.length := by omega
    rw [← snoc_top h0] at hs
    rw [hs]
    by_cases e : top l = 0
    · rw [if_pos e, strip_cf n _ i (by rw [List.length_take]; omega)]
      have hc := cf_snoc (l.take (l.length - 1)) (top l) i
      rw [← snoc_top h0] at hc
      rw [hc]
      split
      · rename_i q
        rw [q, e, cf_ge (Nat.le_refl _)]
      · rfl
    · rw [if_neg e]
theorem cf_strip (l : List UInt8) (i : Nat) : cf (strip l) i = cf l i := strip_cf _ l i rfl
/-- Without noughts on top. -/
def Nm (l : List UInt8) : Prop := strip l = l
theorem nm_strip (l : List UInt8) : Nm (strip l) := by
  rcases Nat.eq_zero_or_pos (strip l).length with e | e
  · rw [List.eq_nil_of_length_eq_zero e]; rfl
  · exact strip_of_top (strip_top _ l rfl e)
theorem nm_top {l : List UInt8} (h : Nm l) (h0 : l ≠ []) : cf l (l.length - 1) ≠ 0 := by
  have := strip_top _ l rfl (by rw [h]; exact List.length_pos_iff.2 h0)
  rw [h] at this
  exact this
theorem nm_of_top {l : List UInt8} (h : cf l (l.length - 1) ≠ 0) : Nm l := strip_of_top h
theorem nm_nil : Nm [] := rfl
/-- Lists of one length and of the same coefficients. -/
theorem cf_ext {p q : List UInt8} (hl : p.length = q.length) (h : ∀ i, i < p.length → cf p i = cf q i) : p = q := by
  apply List.ext_getElem hl
  intro i h1 h2
  have := h i h1
  rwa [cf_lt h1, cf_lt h2] at this
theorem nm_len_le {p : List UInt8} {n : Nat} (hp : Nm p) (h : ∀ i, n ≤ i → cf p i = 0) : p.length ≤ n := by
  by_cases e : p = []
  · simp [e]
  · have := nm_top hp e
    rcases Nat.lt_or_ge n p.length with q | q
    · exact absurd (h (p.length - 1) (by omega)) this
    · exact q
theorem nm_ext {p q : List UInt8} (hp : Nm p) (hq : Nm q) (h : ∀ i, cf p i = cf q i) : p = q := by
  have h1 : p.length ≤ q.length := nm_len_le hp fun i hi => by rw [h, cf_ge hi]
  have h2 : q.length ≤ p.length := nm_len_le hq fun i hi => by rw [← h, cf_ge hi]
  exact cf_ext (by omega) fun i _ => h i
theorem cf_foldl (ll : List (List UInt8)) (acc : List UInt8) (i : Nat) : cf (ll.foldl pxor acc) i = cf acc i ^^^ xsum ll.length fun a => cf (ll.getD a []) i := by
  induction ll generalizing acc with
  | nil => exact (xor_zero8 _).symm
  | cons l ll ih =>
    rw [List.foldl_cons, ih, cf, pxor_getD, List.length_cons, Nat.add_comm ll.length 1, xsum_add 1]
    show _ = _ ^^^ ((0 ^^^ cf l i) ^^^ _)
    rw [zero_xor8, xor_assoc8]
    congr 2
    exact xsum_congr fun a _ => by rw [Nat.add_comm 1 a]; rfl
theorem cf_mul (p q : List UInt8) (i : Nat) : cf (mulP p q) i = xsum q.length fun a => if i < a then 0 else gmul (cf p (i - a)) (cf q a) := by
  unfold mulP sumP
  rw [cf_strip, cf_foldl, cf_ge (by simp), zero_xor8]
  simp only [List.length_mapIdx]
  refine xsum_congr fun a ha => ?_
  rw [List.getD_eq_getElem?_getD, List.getElem?_mapIdx, List.getElem?_eq_getElem ha]
  simp only [Option.map_some, Option.getD_some]
  rw [cf, scaledP_getD, ← cf_lt ha]
theorem nm_mul (p q : List UInt8) : Nm (mulP p q) := nm_strip _
theorem mul_len {p q : List UInt8} (hp : Nm p) (hq : Nm q) (p0 : p ≠ []) (q0 : q ≠ []) : (mulP p q).length = p.length + q.length - 1 := by
  have hpl := List.length_pos_iff.2 p0
  have hql := List.length_pos_iff.2 q0
  have hi : ∀ i, p.length + q.length - 1 ≤ i → cf (mulP p q) i = 0 := fun i hi => by
    rw [cf_mul]
    refine xsum_none fun a ha => ?_
    split
    · rfl
    · rw [cf_ge (by omega), zero_gmul]
  have h1 := nm_len_le (nm_mul p q) hi
  have ht : cf (mulP p q) (p.length + q.length - 2) ≠ 0 := by
    rw [cf_mul, xsum_one (q.length - 1) (by omega) fun j hj ne => ?_]
    · rw [if_neg (by omega), show p.length + q.length - 2 - (q.length - 1) = p.length - 1 by omega]
      exact gmul_ne (nm_top hp p0) (nm_top hq q0)
    · rw [if_neg (by omega), cf_ge (by omega), zero_gmul]
  rcases Nat.lt_or_ge (p.length + q.length - 2) (mulP p q).length with q | q
  · omega
  · exact absurd (cf_ge q) ht
theorem cf_add (p q : List UInt8) (i : Nat) : cf (strip (pxor p q)) i = cf p i ^^^ cf q i := by rw [cf_strip, cf, pxor_getD]
/-- A longer one stays as long. -/
theorem add_len {p q : List UInt8} (hq : Nm q) (h : p.length < q.length) : (strip (pxor p q)).length = q.length := by
  have q0 : q ≠ [] := by intro e; subst e; simp at h
  have h1 := nm_len_le (nm_strip (pxor p q)) (n := q.length) fun i hi => by rw [cf_add, cf_ge hi, cf_ge (by omega)]; rfl
  have ht : cf (strip (pxor p q)) (q.length - 1) ≠ 0 := by
    rw [cf_add, cf_ge (by omega), zero_xor8]
    exact nm_top hq q0
  rcases Nat.lt_or_ge (q.length - 1) (strip (pxor p q)).length with c | c
  · omega
  · exact absurd (cf_ge c) ht
end Go.Eng
namespace Go.Eng
/-- A product's coefficient. -/
def mc (o b : List UInt8) (i : Nat) : UInt8 := xsum b.length fun a => if i < a then 0 else gmul (cf o (i - a)) (cf b a)
theorem cf_mul' (p q : List UInt8) (i : Nat) : cf (mulP p q) i = mc p q i := cf_mul p q i
theorem mc_congr {o o' b : List UInt8} (h : ∀ i, cf o i = cf o' i) (i : Nat) : mc o b i = mc o' b i := xsum_congr fun a _ => by rw [h]
theorem cf_set {o : List UInt8} {d : Nat} (hd : d < o.length) (c : UInt8) (i : Nat) : cf (o.set d c) i = if i = d then c else cf o i := by
  by_cases e : i = d
  · subst e; rw [if_pos rfl, cf_lt (by simpa using hd)]; simp
  · rw [if_neg e]
    simp only [cf, List.getD_eq_getElem?_getD]
    rw [List.getElem?_set_ne (Ne.symm e)]
theorem mc_set {o b : List UInt8} {d : Nat} (hd : d < o.length) (h0 : cf o d = 0) (c : UInt8) (i : Nat) : mc (o.set d c) b i = mc o b i ^^^ if i < d then 0 else gmul c (cf b (i - d)) := by
  have e1 : mc (o.set d c) b i = mc o b i ^^^ xsum b.length fun a => if i < a then 0 else if i - a = d then gmul c (cf b a) else 0 := by
    unfold mc
    rw [← xsum_xor]
    refine xsum_congr fun a _ => ?_
    rw [cf_set hd]
    by_cases h1 : i < a
    · rw [if_pos h1, if_pos h1, if_pos h1]; rfl
    · rw [if_neg h1, if_neg h1, if_neg h1]
      by_cases h2 : i - a = d
      · rw [if_pos h2, if_pos h2, h2, h0, zero_gmul, zero_xor8]
      · rw [if_neg h2, if_neg h2, xor_zero8]
  rw [e1]
  congr 1
  by_cases h1 : i < d
  · rw [if_pos h1]
    refine xsum_none fun a _ => ?_
    split
    · rfl
    · rw [if_neg (by omega)]
  · rw [if_neg h1]
    by_cases h2 : i - d < b.length
    · rw [xsum_one (i - d) h2 fun j _ ne => ?_]
      · rw [if_neg (by omega), if_pos (by omega)]
      · split
        · rfl
        · rw [if_neg (by omega)]
    · rw [cf_ge (p := b) (by omega), gmul_zero]
      refine xsum_none fun a ha => ?_
      split
      · rfl
      · rw [if_neg (by omega)]
theorem cf_pxor (p q : List UInt8) (i : Nat) : cf (pxor p q) i = cf p i ^^^ cf q i := pxor_getD p q i
theorem cf_scaled (p : List UInt8) (c : UInt8) (n i : Nat) : cf (scaledP p c n) i = if i < n then 0 else gmul (cf p (i - n)) c := scaledP_getD p c n i
theorem top_cf (l : List UInt8) : top l = cf l (l.length - 1) := rfl
theorem divL_spec : ∀ (n : Nat) (l o b : List UInt8), l.length < n → Nm l → Nm b → b ≠ [] → (∀ d, d + b.length ≤ l.length → d < o.length ∧ cf o d = 0) →
    Nm (divL n l o b).2 ∧ (divL n l o b).2.length < b.length ∧ (∀ i, mc (divL n l o b).1 b i ^^^ cf (divL n l o b).2 i = mc o b i ^^^ cf l i) ∧
      (∀ d, l.length < d + b.length → cf (divL n l o b).1 d = cf o d) ∧ (b.length ≤ l.length → cf (divL n l o b).1 (l.length - b.length) ≠ 0)
  | 0, l, o, b, hn, _, _, _, _ => absurd hn (by omega)
  | n + 1, l, o, b, hn, hl, hb, b0, ho => by
    have hbl := List.length_pos_iff.2 b0
    have hbt : top b ≠ 0 := nm_top hb b0
    by_cases e : b.length ≤ l.length
    · have hd := ho (l.length - b.length) (by omega)
      have hlt := divS_lt hbl e hbt
      have l0 : l ≠ [] := List.length_pos_iff.1 (by omega)
      have ih := divL_spec n (divS l b) (o.set (l.length - b.length) (divC l b)) b (by omega) (nm_strip _) hb b0 (fun d hd2 => by
        rw [List.length_set]
        obtain ⟨h1, h2⟩ := ho d (by omega)
        refine ⟨h1, ?_⟩
        rw [cf_set hd.1, if_neg (by omega)]
        exact h2)
      rw [divL, if_pos e]
      obtain ⟨i1, i2, i3, i4, i5⟩ := ih
      refine ⟨i1, i2, fun i => ?_, fun d hd2 => ?_, fun _ => ?_⟩
      · rw [i3, mc_set hd.1 hd.2, divS, cf_strip, cf_pxor, cf_scaled, xor_assoc8]
        congr 1
        rw [xor_comm8 (cf l i), ← xor_assoc8]
        by_cases q : i < l.length - b.length
        · rw [if_pos q, if_pos q, xor_self8, zero_xor8]
        · rw [if_neg q, if_neg q, gmul_comm, xor_self8, zero_xor8]
      · rw [i4 d (by omega), cf_set hd.1, if_neg (by omega)]
      · rw [i4 _ (by omega), cf_set hd.1, if_pos rfl]
        exact gmul_ne (nm_top hl l0) (ginv_ne hbt)
    · rw [divL, if_neg e]
      exact ⟨hl, by show l.length < b.length; omega, fun _ => rfl, fun _ _ => rfl, fun q => absurd q e⟩
theorem cf_rep (n i : Nat) : cf (List.replicate n (0 : UInt8)) i = 0 := by
  by_cases h : i < n
  · rw [cf_lt (by simpa using h)]; simp
  · rw [cf_ge (by simp; omega)]
/-- Division with a rest. -/
theorem divP_spec {p q : List UInt8} (hq : strip q ≠ []) : Nm (divP p q).1 ∧ Nm (divP p q).2 ∧ (divP p q).2.length < (strip q).length ∧ (∀ i, cf p i = mc (divP p q).1 (strip q) i ^^^ cf (divP p q).2 i) ∧
    ((strip q).length ≤ (strip p).length → (divP p q).1.length = (strip p).length - (strip q).length + 1) := by
  have hbl := List.length_pos_iff.2 hq
  obtain ⟨i1, i2, i3, i4, i5⟩ := divL_spec ((strip p).length + 1) (strip p) (List.replicate (strip p).length 0) (strip q) (by omega) (nm_strip _) (nm_strip _) hq (fun d hd => ⟨by simp; omega, cf_rep _ _⟩)
  refine ⟨nm_strip _, i1, i2, fun i => ?_, fun h => ?_⟩
  · have := i3 i
    rw [show mc (List.replicate (strip p).length 0) (strip q) i = 0 from xsum_none fun a _ => by rw [cf_rep, zero_gmul]; simp, zero_xor8, cf_strip] at this
    rw [← this]
    congr 1
    exact mc_congr (fun i => (cf_strip _ _).symm) i
  · have hz : ∀ i, (strip p).length - (strip q).length + 1 ≤ i → cf (divP p q).1 i = 0 := fun i hi => by
      show cf (strip _) i = 0
      rw [cf_strip, i4 i (by omega), cf_rep]
    have h1 := nm_len_le (nm_strip _) hz
    have h2 := i5 h
    rcases Nat.lt_or_ge ((strip p).length - (strip q).length) (divP p q).1.length with c | c
    · have h3 : (divP p q).1.length ≤ (strip p).length - (strip q).length + 1 := h1
      omega
    · have h3 : cf (divP p q).1 ((strip p).length - (strip q).length) = 0 := cf_ge c
      have h4 : cf (divP p q).1 ((strip p).length - (strip q).length) = _ := cf_strip _ _
      rw [h4] at h3
      exact absurd h3 h2
end Go.Eng
