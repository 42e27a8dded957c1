/- Steps of the proof: lemmas for every input, without conditions but those that each states. -/
import Derived.Test.YtjpgcjbcfodicaaInv
import Derived.Test.YtjpgcjbcfodicaaCode
set_option linter.unusedSimpArgs false
set_option linter.unusedVariables false
namespace Go.Eng
/-- A row times a column. -/
def rxu (n : Nat) (W : Nat → Nat → UInt8) (u : Nat → UInt8) (r : Nat) : UInt8 := xsum (2 * n) fun j => gmul (W r j) (u j)
def Zer (n : Nat) (W : Nat → Nat → UInt8) (u : Nat → UInt8) : Prop := ∀ r, r < n → rxu n W u r = 0
theorem rxu_add (n : Nat) (W : Nat → Nat → UInt8) (r0 r1 : Nat) (k : UInt8) (u : Nat → UInt8) (r : Nat) : rxu n (addM W r0 r1 k (2 * n)) u r = if r = r0 then rxu n W u r0 ^^^ gmul k (rxu n W u r1) else rxu n W u r := by
  unfold rxu
  by_cases c : r = r0
  · subst c
    rw [if_pos rfl, gmul_xsum, ← xsum_xor]
    refine xsum_congr fun j hj => ?_
    rw [addM, if_pos ⟨rfl, hj⟩, xor_gmul]
    congr 1
    ac_rfl
  · rw [if_neg c]
    refine xsum_congr fun j hj => ?_
    rw [addM, if_neg (fun z => c z.1)]
theorem zer_add {n : Nat} {W : Nat → Nat → UInt8} {r0 r1 : Nat} (k : UInt8) (h1 : r1 < n) (h0 : r0 < n) (hne : r0 ≠ r1) (u : Nat → UInt8) : Zer n (addM W r0 r1 k (2 * n)) u ↔ Zer n W u := by
  constructor
  · intro z r hr
    have z1 := z r1 h1
    rw [rxu_add, if_neg (Ne.symm hne)] at z1
    have := z r hr
    rw [rxu_add] at this
    by_cases c : r = r0
    · subst c
      rw [if_pos rfl, z1, gmul_zero, xor_zero8] at this
      exact this
    · rwa [if_neg c] at this
  · intro z r hr
    rw [rxu_add]
    by_cases c : r = r0
    · rw [if_pos c, z r0 h0, z r1 h1, gmul_zero]; rfl
    · rw [if_neg c]; exact z r hr
theorem rxu_mul (n : Nat) (W : Nat → Nat → UInt8) (c : Nat) (x : UInt8) (u : Nat → UInt8) (r : Nat) : rxu n (mulM W c x (2 * n)) u r = if r = c then gmul x (rxu n W u c) else rxu n W u r := by
  unfold rxu
  by_cases e : r = c
  · subst e
    rw [if_pos rfl, gmul_xsum]
    refine xsum_congr fun j hj => ?_
    rw [mulM, if_pos ⟨rfl, hj⟩, gmul_assoc]
  · rw [if_neg e]
    refine xsum_congr fun j hj => ?_
    rw [mulM, if_neg (fun z => e z.1)]
theorem zer_mul {n : Nat} {W : Nat → Nat → UInt8} {c : Nat} {x : UInt8} (hx : x ≠ 0) (hc : c < n) (u : Nat → UInt8) : Zer n (mulM W c x (2 * n)) u ↔ Zer n W u := by
  constructor
  · intro z r hr
    have := z r hr
    rw [rxu_mul] at this
    by_cases e : r = c
    · subst e
      rw [if_pos rfl] at this
      rcases gmul_eq_zero this with q | q
      · exact absurd q hx
      · exact q
    · rwa [if_neg e] at this
  · intro z r hr
    rw [rxu_mul]
    by_cases e : r = c
    · rw [if_pos e, z c hc, gmul_zero]
    · rw [if_neg e]; exact z r hr
theorem elimM_at (W : Nat → Nat → UInt8) (c L : Nat) (hc : c < L) : ∀ i r j, elimM W c L i r j = if r < i ∧ r ≠ c ∧ j < L then W r j ^^^ gmul (W c j) (W r c) else W r j
  | 0, r, j => by rw [elimM, if_neg (by omega)]
  | i + 1, r, j => by
    rw [elimM]
    by_cases e : i ≠ c
    · rw [if_pos e, addM]
      have e1 : elimM W c L i i c = W i c := by rw [elimM_at W c L hc i i c, if_neg (by omega)]
      have e2 : elimM W c L i c j = W c j := by rw [elimM_at W c L hc i c j, if_neg (by omega)]
      have e3 : elimM W c L i i j = W i j := by rw [elimM_at W c L hc i i j, if_neg (by omega)]
      by_cases q : r = i ∧ j < L
      · obtain ⟨rfl, q2⟩ := q
        rw [if_pos ⟨rfl, q2⟩, if_pos ⟨by omega, e, q2⟩, e1, e2, e3]
      · rw [if_neg q, elimM_at W c L hc i r j]
        by_cases q3 : r < i ∧ r ≠ c ∧ j < L
        · rw [if_pos q3, if_pos ⟨by omega, q3.2⟩]
        · rw [if_neg q3, if_neg (fun z => by
            rcases Nat.lt_or_ge r i with a | a
            · exact q3 ⟨a, z.2⟩
            · exact q ⟨by omega, z.2.2⟩)]
    · rw [if_neg e, elimM_at W c L hc i r j]
      have : i = c := by omega
      by_cases q3 : r < i ∧ r ≠ c ∧ j < L
      · rw [if_pos q3, if_pos ⟨by omega, q3.2⟩]
      · rw [if_neg q3, if_neg (fun z => q3 ⟨by omega, z.2⟩)]
theorem zer_elim {n : Nat} {W : Nat → Nat → UInt8} {c : Nat} (hc : c < n) (u : Nat → UInt8) : ∀ i, i ≤ n → (Zer n (elimM W c (2 * n) i) u ↔ Zer n W u)
  | 0, _ => Iff.rfl
  | i + 1, h => by
    rw [elimM]
    by_cases e : i ≠ c
    · rw [if_pos e, zer_add _ hc (by omega) e]
      exact zer_elim hc u i (by omega)
    · rw [if_neg e]
      exact zer_elim hc u i (by omega)
theorem pivI_some {W : Nat → Nat → UInt8} {c n : Nat} : ∀ f p q, pivI W c n f p = some q → p ≤ q ∧ q < n ∧ W q c ≠ 0 ∧ ∀ i, p ≤ i → i < q → W i c = 0
  | 0, p, q, h => by cases h
  | f + 1, p, q, h => by
    rw [pivI] at h
    split at h
    · split at h
      · rename_i hp hz
        obtain ⟨a, b, d, e⟩ := pivI_some f (p + 1) q h
        refine ⟨by omega, b, d, fun i h1 h2 => ?_⟩
        rcases Nat.eq_or_lt_of_le h1 with r | r
        · rw [← r]; exact hz
        · exact e i r h2
      · rename_i hp hz
        cases h
        exact ⟨Nat.le_refl _, hp, hz, fun i h1 h2 => by omega⟩
    · cases h
theorem pivI_none {W : Nat → Nat → UInt8} {c n : Nat} : ∀ f p, pivI W c n f p = none → n ≤ p + f → ∀ i, p ≤ i → i < n → W i c = 0
  | 0, p, h, hf, i, h1, h2 => by omega
  | f + 1, p, h, hf, i, h1, h2 => by
    rw [pivI, if_pos (by omega)] at h
    split at h
    · rename_i hz
      rcases Nat.eq_or_lt_of_le h1 with r | r
      · rw [← r]; exact hz
      · exact pivI_none f (p + 1) h (by omega) i r h2
    · cases h
/-- The first c columns are those of the matrix that changes nothing. -/
def UnitM (n c : Nat) (W : Nat → Nat → UInt8) : Prop := ∀ r j, r < n → j < c → W r j = if r = j then 1 else 0
theorem colM_unit {n c p : Nat} {W : Nat → Nat → UInt8} (hU : UnitM n c W) (hc : c < n) (hp : pivI W c n (n - c) c = some p) : UnitM n (c + 1) (colM W c p n) ∧ ∀ u, Zer n (colM W c p n) u ↔ Zer n W u := by
  obtain ⟨p1, p2, p3, p4⟩ := pivI_some _ _ _ hp
  unfold colM
  dsimp only
  have h1 : UnitM n c (if p ≠ c then addM W c p 1 (2 * n) else W) ∧ (if p ≠ c then addM W c p 1 (2 * n) else W) c c ≠ 0 ∧ ∀ u, Zer n (if p ≠ c then addM W c p 1 (2 * n) else W) u ↔ Zer n W u := by
    by_cases e : p ≠ c
    · rw [if_pos e]
      refine ⟨fun r j hr hj => ?_, ?_, fun u => zer_add 1 p2 hc (Ne.symm e) u⟩
      · rw [addM]
        by_cases q : r = c
        · subst q
          rw [if_pos ⟨rfl, by omega⟩, hU r j hr hj, hU p j p2 hj, if_neg (by omega), if_neg (by omega), zero_gmul]; rfl
        · rw [if_neg (fun z => q z.1)]; exact hU r j hr hj
      · rw [addM, if_pos ⟨rfl, by omega⟩, p4 c (Nat.le_refl _) (by omega), zero_xor8, gmul_one]
        exact p3
    · rw [if_neg e]
      have : p = c := by omega
      subst this
      exact ⟨hU, p3, fun u => Iff.rfl⟩
  revert h1
  generalize (if p ≠ c then addM W c p 1 (2 * n) else W) = W1
  rintro ⟨u1, n1, z1⟩
  have h2 : UnitM n c (mulM W1 c (ginv (W1 c c)) (2 * n)) ∧ mulM W1 c (ginv (W1 c c)) (2 * n) c c = 1 ∧ ∀ u, Zer n (mulM W1 c (ginv (W1 c c)) (2 * n)) u ↔ Zer n W u := by
    refine ⟨fun r j hr hj => ?_, ?_, fun u => (zer_mul (ginv_ne n1) hc u).trans (z1 u)⟩
    · rw [mulM]
      by_cases q : r = c
      · subst q
        rw [if_pos ⟨rfl, by omega⟩, u1 r j hr hj, if_neg (by omega), gmul_zero]
      · rw [if_neg (fun z => q z.1)]; exact u1 r j hr hj
    · rw [mulM, if_pos ⟨rfl, by omega⟩, gmul_comm, ginv_mul n1]
  revert h2
  generalize mulM W1 c (ginv (W1 c c)) (2 * n) = W2
  rintro ⟨u2, n2, z2⟩
  refine ⟨fun r j hr hj => ?_, fun u => (zer_elim hc u n (Nat.le_refl _)).trans (z2 u)⟩
  rw [elimM_at W2 c (2 * n) (by omega)]
  by_cases q : r = c
  · subst q
    rw [if_neg (fun z => z.2.1 rfl)]
    rcases Nat.lt_or_ge j r with a | a
    · exact u2 r j hr a
    · obtain rfl : j = r := by omega
      rw [n2, if_pos rfl]
  · rw [if_pos ⟨hr, q, by omega⟩]
    rcases Nat.lt_or_ge j c with a | a
    · rw [u2 r j hr a, u2 c j hc a, if_neg (show ¬ c = j by omega), zero_gmul, xor_zero8]
    · obtain rfl : j = c := by omega
      rw [n2, one_gmul, xor_self8, if_neg q]
/-- A matrix that takes nothing but nought to nought. -/
def Inj (n : Nat) (A : Nat → Nat → UInt8) : Prop := ∀ x : Nat → UInt8, (∀ r, r < n → (xsum n fun j => gmul (A r j) (x j)) = 0) → ∀ j, j < n → x j = 0
theorem rxu_w0 {n : Nat} (A : Nat → Nat → UInt8) (u : Nat → UInt8) {r : Nat} (hr : r < n) : rxu n (w0M A n) u r = (xsum n fun j => gmul (A r j) (u j)) ^^^ u (n + r) := by
  unfold rxu
  rw [show 2 * n = n + n by omega, xsum_add]
  congr 1
  · exact xsum_congr fun j hj => by rw [w0M, if_pos hj]
  · rw [xsum_one r hr fun j hj hne => by rw [w0M, if_neg (by omega), if_neg (by omega), zero_gmul]]
    rw [w0M, if_neg (by omega), if_pos rfl, one_gmul]
theorem invI_ok {n : Nat} {A : Nat → Nat → UInt8} (hA : Inj n A) : ∀ c, c ≤ n → ∃ W, invI A n c = some W ∧ UnitM n c W ∧ ∀ u, Zer n W u ↔ Zer n (w0M A n) u
  | 0, _ => ⟨_, rfl, fun r j hr hj => by omega, fun u => Iff.rfl⟩
  | c + 1, h => by
    obtain ⟨W, e, hU, hZ⟩ := invI_ok hA c (by omega)
    cases hp : pivI W c n (n - c) c with
    | some p =>
      obtain ⟨a, b⟩ := colM_unit hU (by omega) hp
      exact ⟨colM W c p n, by rw [invI, e]; dsimp only; rw [hp], a, fun u => (b u).trans (hZ u)⟩
    | none =>
      exfalso
      have hz := pivI_none _ _ hp (by omega)
      have hu : Zer n W (fun j => if j < c then W j c else if j = c then 1 else 0) := by
        intro r hr
        unfold rxu
        have e1 : (xsum (2 * n) fun j => gmul (W r j) (if j < c then W j c else if j = c then 1 else 0)) = xsum (c + 1) fun j => gmul (W r j) (if j < c then W j c else if j = c then 1 else 0) :=
          xsum_more (by omega) fun i h1 _ => by rw [if_neg (by omega), if_neg (by omega), gmul_zero]
        rw [e1, xsum, if_neg (by omega), if_pos rfl, gmul_one]
        rcases Nat.lt_or_ge r c with a | a
        · rw [xsum_one r a fun j hj hne => by rw [hU r j hr hj, if_neg (Ne.symm hne), zero_gmul]]
          rw [if_pos a, hU r r hr a, if_pos rfl, one_gmul, xor_self8]
        · rw [xsum_none fun j hj => by rw [hU r j hr hj, if_neg (by omega), zero_gmul], hz r a hr]; rfl
      have := (hZ _).1 hu
      have h0 := hA (fun j => if j < c then W j c else if j = c then 1 else 0) (fun r hr => by
        have q := this r hr
        rw [rxu_w0 A _ hr] at q
        rw [if_neg (by omega), if_neg (by omega), xor_zero8] at q
        exact q) c (by omega)
      rw [if_neg (by omega), if_pos rfl] at h0
      exact absurd h0 (by decide)
/-- The inverse takes back what the matrix does. -/
theorem invI_back {n : Nat} {A : Nat → Nat → UInt8} (hA : Inj n A) : ∃ W, invI A n n = some W ∧ ∀ x : Nat → UInt8, ∀ r, r < n → (xsum n fun c => gmul (W r (n + c)) (xsum n fun j => gmul (A c j) (x j))) = x r := by
  obtain ⟨W, e, hU, hZ⟩ := invI_ok hA n (Nat.le_refl _)
  refine ⟨W, e, fun x r hr => ?_⟩
  have hu : Zer n (w0M A n) (fun j => if j < n then x j else xsum n fun i => gmul (A (j - n) i) (x i)) := by
    intro q hq
    rw [rxu_w0 A _ hq, if_neg (by omega), Nat.add_sub_cancel_left]
    have : (xsum n fun j => gmul (A q j) (if j < n then x j else xsum n fun i => gmul (A (j - n) i) (x i))) = xsum n fun i => gmul (A q i) (x i) := xsum_congr fun j hj => by rw [if_pos hj]
    rw [this, xor_self8]
  have := (hZ _).2 hu r hr
  unfold rxu at this
  rw [show 2 * n = n + n by omega, xsum_add] at this
  have e1 : (xsum n fun j => gmul (W r j) (if j < n then x j else xsum n fun i => gmul (A (j - n) i) (x i))) = x r := by
    rw [xsum_one r hr fun j hj hne => by rw [hU r j hr hj, if_neg (Ne.symm hne), zero_gmul]]
    rw [if_pos hr, hU r r hr hr, if_pos rfl, one_gmul]
  have e2 : (xsum n fun i => gmul (W r (n + i)) (if n + i < n then x (n + i) else xsum n fun i_1 => gmul (A (n + i - n) i_1) (x i_1))) = xsum n fun c => gmul (W r (n + c)) (xsum n fun j => gmul (A c j) (x j)) := xsum_congr fun j hj => by rw [if_neg (by omega), Nat.add_sub_cancel_left]
  rw [e1, e2] at this
  exact (xor_eq_zero8.1 this).symm
end Go.Eng
