/- Steps of the proof: lemmas for every input, without conditions but those that each states. -/
import Derived.Test.YtjpgcjbcfodicaaPol
import Derived.Test.YtjpgcjbcfodicaaSyn
import Derived.Test.YtjpgcjbcfodicaaWord2
set_option linter.unusedSimpArgs false
set_option linter.unusedVariables false
namespace Go.Eng
instance : Std.Associative gmul := ⟨gmul_assoc⟩
instance : Std.Commutative gmul := ⟨gmul_comm⟩
theorem ginv_zero : ginv 0 = 0 := by simp [ginv]
theorem ginv_uniq {a b : UInt8} (ha : a ≠ 0) (h : gmul a b = 1) : b = ginv a := gmul_cancel ha (h.trans (ginv_mul ha).symm)
theorem gmul_ginv (a b : UInt8) : ginv (gmul a b) = gmul (ginv a) (ginv b) := by
  by_cases ha : a = 0
  · subst ha; simp [zero_gmul, ginv_zero]
  by_cases hb : b = 0
  · subst hb; simp [gmul_zero, ginv_zero]
  refine (ginv_uniq (gmul_ne ha hb) ?_).symm
  have : gmul (gmul a b) (gmul (ginv a) (ginv b)) = gmul (gmul a (ginv a)) (gmul b (ginv b)) := by ac_rfl
  rw [this, ginv_mul ha, ginv_mul hb, gmul_one]
/-- A sum over a list. -/
def lsum (f : UInt8 → UInt8) : List UInt8 → UInt8
  | [] => 0
  | a :: l => f a ^^^ lsum f l
theorem lsum_congr {f g : UInt8 → UInt8} : ∀ {l : List UInt8}, (∀ a ∈ l, f a = g a) → lsum f l = lsum g l
  | [], _ => rfl
  | a :: l, h => by rw [lsum, lsum, h a List.mem_cons_self, lsum_congr fun b hb => h b (List.mem_cons_of_mem _ hb)]
theorem lsum_xor (f g : UInt8 → UInt8) : ∀ l : List UInt8, lsum (fun a => f a ^^^ g a) l = lsum f l ^^^ lsum g l
  | [] => (xor_self8 0).symm
  | a :: l => by rw [lsum, lsum, lsum, lsum_xor f g l, xor4]
theorem gmul_lsum (c : UInt8) (f : UInt8 → UInt8) : ∀ l : List UInt8, gmul c (lsum f l) = lsum (fun a => gmul c (f a)) l
  | [] => gmul_zero c
  | a :: l => by rw [lsum, lsum, gmul_xor, gmul_lsum c f l]
/-- The product of t's distances to all others. -/
def den (t : UInt8) : List UInt8 → UInt8
  | [] => 1
  | s :: l => if s = t then den t l else gmul (t ^^^ s) (den t l)
theorem den_ne (t : UInt8) : ∀ l : List UInt8, den t l ≠ 0
  | [] => by show (1 : UInt8) ≠ 0; decide
  | s :: l => by
    rw [den]
    split
    · exact den_ne t l
    · rename_i h
      exact gmul_ne (fun e => h (xor_eq_zero8.1 e).symm) (den_ne t l)
theorem den_self (a : UInt8) (l : List UInt8) : den a (a :: l) = den a l := by rw [den, if_pos rfl]
theorem den_cons {t a : UInt8} (h : t ≠ a) (l : List UInt8) : den t (a :: l) = gmul (t ^^^ a) (den t l) := by rw [den, if_neg (Ne.symm h)]
/-- A divided difference. -/
def DD (T : List UInt8) (f : UInt8 → UInt8) : UInt8 := lsum (fun t => gmul (f t) (ginv (den t T))) T
theorem inv_xor {t a b : UInt8} (ha : t ≠ a) (hb : t ≠ b) : gmul (a ^^^ b) (ginv (gmul (t ^^^ a) (t ^^^ b))) = ginv (t ^^^ a) ^^^ ginv (t ^^^ b) := by
  have na : t ^^^ a ≠ 0 := fun e => ha (xor_eq_zero8.1 e)
  have nb : t ^^^ b ≠ 0 := fun e => hb (xor_eq_zero8.1 e)
  have e : a ^^^ b = (t ^^^ b) ^^^ (t ^^^ a) := by
    have : (t ^^^ b) ^^^ (t ^^^ a) = (t ^^^ t) ^^^ (a ^^^ b) := by rw [xor4, xor_comm8 b a]
    rw [this, xor_self8, zero_xor8]
  rw [e, gmul_ginv, xor_gmul]
  have e1 : gmul (t ^^^ b) (gmul (ginv (t ^^^ a)) (ginv (t ^^^ b))) = gmul (ginv (t ^^^ a)) (gmul (t ^^^ b) (ginv (t ^^^ b))) := by ac_rfl
  have e2 : gmul (t ^^^ a) (gmul (ginv (t ^^^ a)) (ginv (t ^^^ b))) = gmul (gmul (t ^^^ a) (ginv (t ^^^ a))) (ginv (t ^^^ b)) := by ac_rfl
  rw [e1, e2, ginv_mul na, ginv_mul nb, gmul_one, one_gmul]
theorem DD_two {a b : UInt8} {T : List UInt8} (f : UInt8 → UInt8) (hab : a ≠ b) (ha : a ∉ T) (hb : b ∉ T) : gmul (a ^^^ b) (DD (a :: b :: T) f) = DD (a :: T) f ^^^ DD (b :: T) f := by
  have nab : a ^^^ b ≠ 0 := fun e => hab (xor_eq_zero8.1 e)
  unfold DD
  rw [lsum, lsum, lsum, lsum, gmul_xor, gmul_xor, gmul_lsum, xor4 (gmul (f a) _), ← lsum_xor, den_self, den_self, den_cons hab, den_cons hab.symm, den_self, ← xor_assoc8]
  congr 1
  · congr 1
    · rw [gmul_ginv]
      have : gmul (a ^^^ b) (gmul (f a) (gmul (ginv (a ^^^ b)) (ginv (den a T)))) = gmul (gmul (a ^^^ b) (ginv (a ^^^ b))) (gmul (f a) (ginv (den a T))) := by ac_rfl
      rw [this, ginv_mul nab, one_gmul]
    · rw [gmul_ginv, xor_comm8 b a]
      have : gmul (a ^^^ b) (gmul (f b) (gmul (ginv (a ^^^ b)) (ginv (den b T)))) = gmul (gmul (a ^^^ b) (ginv (a ^^^ b))) (gmul (f b) (ginv (den b T))) := by ac_rfl
      rw [this, ginv_mul nab, one_gmul]
  · refine lsum_congr fun t ht => ?_
    have ta : t ≠ a := fun e => ha (e ▸ ht)
    have tb : t ≠ b := fun e => hb (e ▸ ht)
    rw [den_cons ta, den_cons tb, den_cons ta, ← gmul_assoc (t ^^^ a), gmul_ginv (gmul (t ^^^ a) (t ^^^ b)), gmul_ginv (t ^^^ a) (den t T), gmul_ginv (t ^^^ b) (den t T), ← gmul_xor, ← xor_gmul, ← inv_xor ta tb]
    ac_rfl
theorem DD_up {a : UInt8} {T : List UInt8} (f : UInt8 → UInt8) (ha : a ∉ T) : DD (a :: T) (fun t => gmul (f t) t) = gmul a (DD (a :: T) f) ^^^ DD T f := by
  unfold DD
  rw [lsum, lsum, gmul_xor, gmul_lsum, den_self, xor_assoc8, ← lsum_xor]
  dsimp only
  congr 1
  · ac_rfl
  · refine lsum_congr fun t ht => ?_
    have ta : t ≠ a := fun e => ha (e ▸ ht)
    have na : t ^^^ a ≠ 0 := fun e => ta (xor_eq_zero8.1 e)
    rw [den_cons ta, gmul_ginv]
    have e : ginv (den t T) = gmul (t ^^^ a) (gmul (ginv (t ^^^ a)) (ginv (den t T))) := by rw [← gmul_assoc, ginv_mul na, one_gmul]
    rw [e, ← e]
    generalize gmul (ginv (t ^^^ a)) (ginv (den t T)) = X at e ⊢
    rw [e, xor_gmul, gmul_xor]
    have e2 : gmul a (gmul (f t) X) = gmul (f t) (gmul a X) := by ac_rfl
    rw [e2, ← xor_assoc8, xor_comm8 (gmul (f t) (gmul a X)), xor_assoc8, xor_self8, xor_zero8, gmul_assoc]
theorem DD_one (a : UInt8) (f : UInt8 → UInt8) : DD [a] f = f a := by
  unfold DD
  rw [lsum, lsum, den_self, den, xor_zero8]
  have : ginv 1 = 1 := (ginv_uniq (by decide) (gmul_one 1)).symm
  rw [this, gmul_one]
/-- t to the l-th. -/
def apw (t : UInt8) : Nat → UInt8
  | 0 => 1
  | l + 1 => gmul (apw t l) t
theorem DD_pow : ∀ (n : Nat) (T : List UInt8), T.length = n + 1 → T.Nodup → (∀ l, l < n → DD T (apw · l) = 0) ∧ DD T (apw · n) = 1
  | 0, T, hl, _ => by
    match T, hl with
    | [a], _ => exact ⟨fun l h => absurd h (by omega), DD_one a _⟩
  | n + 1, T, hl, hn => by
    match T, hl, hn with
    | a :: b :: T, hl, hn =>
      obtain ⟨h1, h2⟩ := List.nodup_cons.1 hn
      obtain ⟨h3, h4⟩ := List.nodup_cons.1 h2
      have hab : a ≠ b := fun e => h1 (e ▸ List.mem_cons_self)
      have haT : a ∉ T := fun e => h1 (List.mem_cons_of_mem _ e)
      obtain ⟨a1, a2⟩ := DD_pow n (a :: T) (by simp at hl ⊢; omega) (List.nodup_cons.2 ⟨haT, h4⟩)
      obtain ⟨b1, b2⟩ := DD_pow n (b :: T) (by simp at hl ⊢; omega) h2
      have low : ∀ l, l < n + 1 → DD (a :: b :: T) (apw · l) = 0 := fun l hl' => by
        have := DD_two (apw · l) hab haT h3
        have e : DD (a :: T) (apw · l) ^^^ DD (b :: T) (apw · l) = 0 := by
          rcases Nat.lt_or_ge l n with q | q
          · rw [a1 l q, b1 l q]; rfl
          · obtain rfl : l = n := by omega
            rw [a2, b2]; rfl
        rw [e] at this
        rcases gmul_eq_zero this with q | q
        · exact absurd (xor_eq_zero8.1 q) hab
        · exact q
      refine ⟨low, ?_⟩
      have := DD_up (apw · n) h1
      rw [low n (by omega), b2, gmul_zero, zero_xor8] at this
      exact this
end Go.Eng
namespace Go.Eng
abbrev X8 (i : Nat) : UInt8 := UInt8.ofNat i
theorem X8_inj {i j : Nat} (hi : i < 256) (hj : j < 256) (h : X8 i = X8 j) : i = j := by
  have := congrArg UInt8.toNat h
  rw [UInt8.toNat_ofNat', UInt8.toNat_ofNat', Nat.mod_eq_of_lt hi, Nat.mod_eq_of_lt hj] at this
  exact this
theorem X8_xor (i j : Nat) : X8 (i ^^^ j) = X8 i ^^^ X8 j := by
  apply UInt8.toNat.inj
  rw [UInt8.toNat_xor, UInt8.toNat_ofNat', UInt8.toNat_ofNat', UInt8.toNat_ofNat', Nat.xor_mod_two_pow (n := 8)]
theorem itm_apw (x a : UInt8) : ∀ l, itm x a l = gmul x (apw a l)
  | 0 => (gmul_one x).symm
  | l + 1 => by rw [itm, itm_apw x a l, apw, gmul_assoc]
theorem den_snoc (t s : UInt8) : ∀ l : List UInt8, den t (l ++ [s]) = if s = t then den t l else gmul (den t l) (t ^^^ s)
  | [] => by
    show den t [s] = _
    rw [den, den]
    split
    · rfl
    · exact gmul_comm _ _
  | a :: l => by
    rw [List.cons_append, den, den, den_snoc t s l]
    split <;> split <;> simp [gmul_assoc]
theorem lsum_append (f : UInt8 → UInt8) : ∀ l k : List UInt8, lsum f (l ++ k) = lsum f l ^^^ lsum f k
  | [], k => (zero_xor8 _).symm
  | a :: l, k => by rw [List.cons_append, lsum, lsum, lsum_append f l k, xor_assoc8]
theorem lsum_range (f : UInt8 → UInt8) (g : Nat → UInt8) (n : Nat) : lsum f ((List.range n).map g) = xsum n fun i => f (g i) := by
  induction n with
  | zero => rfl
  | succ n ih => rw [List.range_succ, List.map_append, lsum_append, ih, xsum, List.map_singleton, lsum, lsum, xor_zero8]
/-- The parity points. -/
def pts (k m : Nat) : List UInt8 := (List.range m).map fun n => X8 (k + n)
theorem pts_nodup {k m : Nat} (h : k + m ≤ 256) : (pts k m).Nodup := by
  unfold pts List.Nodup
  rw [List.pairwise_map]
  refine List.pairwise_lt_range.imp_of_mem fun ha hb q e => ?_
  rw [List.mem_range] at ha hb
  have := X8_inj (by omega) (by omega) e
  omega
theorem wpI_den {k i : Nat} : ∀ m, k + m ≤ 256 → i < 256 → wpI k i m = den (X8 i) (pts k m)
  | 0, _, _ => rfl
  | m + 1, h, hi => by
    have ih := wpI_den (k := k) (i := i) m (by omega) hi
    have e : pts k (m + 1) = pts k m ++ [X8 (k + m)] := by unfold pts; rw [List.range_succ, List.map_append]; rfl
    rw [wpI, e, den_snoc, ih]
    by_cases c : k + m = i
    · subst c
      simp
    · rw [if_pos c, if_neg (fun q => c (X8_inj (by omega) hi q))]
      rw [show UInt8.ofNat ((k + m) ^^^ i) = X8 ((k + m) ^^^ i) from rfl, X8_xor, xor_comm8]
theorem pts_mem {k m : Nat} {x : UInt8} (h : x ∈ pts k m) : ∃ n, n < m ∧ x = X8 (k + n) := by
  obtain ⟨n, hn, e⟩ := List.mem_map.1 h
  exact ⟨n, List.mem_range.1 hn, e.symm⟩
/-- A code word's bytes. -/
def cw (k : Nat) (d : Nat → UInt8) (i : Nat) : UInt8 := if i < k then d i else xsum k fun j => gmul (par k (i - k) j) (d j)
/-- A word's syndromes. -/
def syn (k m : Nat) (w : Nat → UInt8) (l : Nat) : UInt8 := xsum (k + m) fun i => gmul (gmul (w i) (wgt k m i)) (apw (X8 i) l)
theorem syn_xor (k m : Nat) (w u : Nat → UInt8) (l : Nat) : syn k m (fun i => w i ^^^ u i) l = syn k m w l ^^^ syn k m u l := by
  unfold syn
  rw [← xsum_xor]
  exact xsum_congr fun i _ => by rw [xor_gmul, xor_gmul]
theorem key_zero {k m j l : Nat} (hkm : k + m ≤ 256) (hj : j < k) (hl : l < m) : gmul (wgt k m j) (apw (X8 j) l) ^^^ xsum m (fun i => gmul (gmul (par k i j) (wgt k m (k + i))) (apw (X8 (k + i)) l)) = 0 := by
  have hn : X8 j ∉ pts k m := fun e => by
    obtain ⟨n, hn, q⟩ := pts_mem e
    have := X8_inj (by omega) (by omega) q
    omega
  have := (DD_pow m (X8 j :: pts k m) (by simp [pts]) (List.nodup_cons.2 ⟨hn, pts_nodup hkm⟩)).1 l hl
  unfold DD at this
  rw [lsum, den_self] at this
  rw [← this]
  congr 1
  · unfold wgt
    rw [wpI_den m hkm (by omega), gmul_comm]
  · unfold pts
    rw [lsum_range]
    refine xsum_congr fun i hi => ?_
    have hne : X8 (k + i) ≠ X8 j := fun q => by
      have := X8_inj (by omega) (by omega) q
      omega
    rw [den_cons hne, gmul_ginv]
    unfold wgt
    rw [wpI_den m hkm (by omega), show par k i j = ginv (X8 (k + i) ^^^ X8 j) by unfold par btw; rw [← X8_xor]]
    unfold pts
    ac_rfl
theorem syn_cw {k m l : Nat} (d : Nat → UInt8) (hkm : k + m ≤ 256) (hl : l < m) : syn k m (cw k d) l = 0 := by
  unfold syn
  rw [xsum_add]
  have e1 : (xsum k fun i => gmul (gmul (cw k d i) (wgt k m i)) (apw (X8 i) l)) = xsum k fun j => gmul (d j) (gmul (wgt k m j) (apw (X8 j) l)) := by
    refine xsum_congr fun i hi => ?_
    rw [cw, if_pos hi, gmul_assoc]
  have e2 : (xsum m fun i => gmul (gmul (cw k d (k + i)) (wgt k m (k + i))) (apw (X8 (k + i)) l)) = xsum k fun j => gmul (d j) (xsum m fun i => gmul (gmul (par k i j) (wgt k m (k + i))) (apw (X8 (k + i)) l)) := by
    have : (xsum m fun i => gmul (gmul (cw k d (k + i)) (wgt k m (k + i))) (apw (X8 (k + i)) l)) = xsum m fun i => xsum k fun j => gmul (d j) (gmul (gmul (par k i j) (wgt k m (k + i))) (apw (X8 (k + i)) l)) := by
      refine xsum_congr fun i hi => ?_
      rw [cw, if_neg (by omega), Nat.add_sub_cancel_left, gmul_assoc, xsum_gmul]
      refine xsum_congr fun j _ => ?_
      ac_rfl
    rw [this, xsum_swap]
    exact xsum_congr fun j _ => (gmul_xsum _ _ _).symm
  rw [e1, e2, ← xsum_xor]
  refine xsum_none fun j hj => ?_
  rw [← gmul_xor, key_zero hkm hj hl, gmul_zero]
/-- A polynomial's value. -/
theorem evalP_xsum (x : UInt8) : ∀ p : List UInt8, evalP p x = xsum p.length fun i => gmul (cf p i) (apw x i)
  | [] => rfl
  | c :: p => by
    have e : evalP (c :: p) x = gmul (evalP p x) x ^^^ c := rfl
    rw [e, evalP_xsum x p, List.length_cons, Nat.add_comm, xsum_add, xsum_gmul]
    rw [xor_comm8]
    congr 1
    · show c = xsum 1 _
      rw [xsum, xsum, zero_xor8]
      show c = gmul c 1
      rw [gmul_one]
    · refine xsum_congr fun i _ => ?_
      rw [Nat.add_comm 1 i]
      show _ = gmul (cf p i) (gmul (apw x i) x)
      rw [gmul_assoc]
/-- Sums with a polynomial of few coefficients come to nought too. -/
theorem syn_dual {k m : Nat} {w : Nat → UInt8} (h : ∀ l, l < m → syn k m w l = 0) (f : List UInt8) (hf : f.length ≤ m) : (xsum (k + m) fun i => gmul (gmul (w i) (wgt k m i)) (evalP f (X8 i))) = 0 := by
  have e : (xsum (k + m) fun i => gmul (gmul (w i) (wgt k m i)) (evalP f (X8 i))) = xsum (k + m) fun i => xsum f.length fun l => gmul (cf f l) (gmul (gmul (w i) (wgt k m i)) (apw (X8 i) l)) := by
    refine xsum_congr fun i _ => ?_
    rw [evalP_xsum, gmul_xsum]
    refine xsum_congr fun l _ => ?_
    ac_rfl
  rw [e, xsum_swap]
  refine xsum_none fun l hl => ?_
  rw [← gmul_xsum]
  have := h l (by omega)
  unfold syn at this
  rw [this, gmul_zero]
end Go.Eng
namespace Go.Eng
theorem evalP_n (p : List UInt8) (x : UInt8) {n : Nat} (h : p.length ≤ n) : evalP p x = xsum n fun i => gmul (cf p i) (apw x i) := by
  rw [evalP_xsum, xsum_more h fun i h1 _ => by rw [cf_ge h1, zero_gmul]]
theorem xsum_head (n : Nat) (f : Nat → UInt8) : xsum (n + 1) f = f 0 ^^^ xsum n fun i => f (i + 1) := by
  rw [Nat.add_comm, xsum_add, xsum, xsum, zero_xor8]
  congr 1
  exact xsum_congr fun i _ => by rw [Nat.add_comm]
theorem cf_lin (o : List UInt8) (a : UInt8) (i : Nat) : cf (mulP o [a, 1]) i = gmul (cf o i) a ^^^ if i = 0 then 0 else cf o (i - 1) := by
  rw [cf_mul]
  show xsum 2 _ = _
  rw [xsum, xsum, xsum, zero_xor8]
  congr 1
  by_cases c : i = 0
  · subst c; rfl
  · rw [if_neg (by omega), if_neg c]
    show gmul _ 1 = _
    rw [gmul_one]
theorem lin_len (o : List UInt8) (a : UInt8) : (mulP o [a, 1]).length ≤ o.length + 1 := by
  refine nm_len_le (nm_mul _ _) fun i hi => ?_
  rw [cf_lin, cf_ge (by omega), zero_gmul, if_neg (by omega), cf_ge (by omega), xor_self8]
theorem eval_lin (o : List UInt8) (a x : UInt8) : evalP (mulP o [a, 1]) x = gmul (x ^^^ a) (evalP o x) := by
  rw [evalP_n _ x (lin_len o a), xsum_head, cf_lin, if_pos rfl, xor_zero8]
  have e : (xsum o.length fun i => gmul (cf (mulP o [a, 1]) (i + 1)) (apw x (i + 1))) = (xsum o.length fun i => gmul a (gmul (cf o (i + 1)) (apw x (i + 1)))) ^^^ gmul x (evalP o x) := by
    rw [evalP_xsum, gmul_xsum, ← xsum_xor]
    refine xsum_congr fun i _ => ?_
    rw [cf_lin, if_neg (by omega), Nat.add_sub_cancel, xor_gmul]
    congr 1
    · ac_rfl
    · show gmul _ (gmul _ _) = _
      ac_rfl
  rw [e, ← gmul_xsum, ← xor_assoc8]
  have e2 : gmul (gmul (cf o 0) a) (apw x 0) ^^^ gmul a (xsum o.length fun i => gmul (cf o (i + 1)) (apw x (i + 1))) = gmul a (evalP o x) := by
    rw [evalP_n o x (Nat.le_succ _), xsum_head, gmul_xor]
    congr 1
    ac_rfl
  rw [e2, xor_comm8, xor_gmul]
theorem cf_deriv (p : List UInt8) (j : Nat) : cf (derivP p) j = if j % 2 = 0 then cf p (j + 1) else 0 := by
  unfold derivP
  rw [cf_strip]
  unfold derivR
  by_cases h : j < p.length
  · rw [cf_lt (by simpa using h)]
    simp [cf]
  · rw [cf_ge (by simp; omega)]
    split
    · rw [cf_ge (by omega)]
    · rfl
theorem deriv_len (p : List UInt8) : (derivP p).length ≤ p.length := nm_len_le (nm_strip _) fun i hi => by
  rw [cf_deriv]
  split
  · rw [cf_ge (by omega)]
  · rfl
theorem deriv_n (p : List UInt8) (x : UInt8) {n : Nat} (h : p.length ≤ n) : evalP (derivP p) x = xsum n fun j => if j % 2 = 0 then gmul (cf p (j + 1)) (apw x j) else 0 := by
  rw [evalP_n _ x (Nat.le_trans (deriv_len p) h)]
  refine xsum_congr fun j _ => ?_
  rw [cf_deriv]
  split
  · rfl
  · exact zero_gmul _
theorem even_odd (o : List UInt8) (x : UInt8) {n : Nat} (h : o.length ≤ n) : (xsum n fun j => if j % 2 = 0 then gmul (cf o j) (apw x j) else 0) = evalP o x ^^^ gmul x (evalP (derivP o) x) := by
  have e : (xsum n fun j => if j % 2 = 0 then 0 else gmul (cf o j) (apw x j)) = gmul x (evalP (derivP o) x) := by
    have : (xsum (n + 1) fun j => if j % 2 = 0 then 0 else gmul (cf o j) (apw x j)) = xsum n fun j => if j % 2 = 0 then 0 else gmul (cf o j) (apw x j) := xsum_more (Nat.le_succ _) fun i h1 _ => by
      rw [cf_ge (by omega), zero_gmul]; split <;> rfl
    rw [← this, xsum_head, if_pos rfl, zero_xor8, deriv_n o x h, gmul_xsum]
    refine xsum_congr fun j _ => ?_
    by_cases c : j % 2 = 0
    · rw [if_neg (by omega), if_pos c]
      show gmul _ (gmul _ _) = _
      ac_rfl
    · rw [if_pos (by omega), if_neg c, gmul_zero]
  rw [← e, evalP_n o x h, ← xsum_xor]
  refine xsum_congr fun j _ => ?_
  by_cases c : j % 2 = 0
  · rw [if_pos c, if_pos c, xor_zero8]
  · rw [if_neg c, if_neg c, xor_self8]
theorem deriv_lin (o : List UInt8) (a x : UInt8) : evalP (derivP (mulP o [a, 1])) x = gmul (x ^^^ a) (evalP (derivP o) x) ^^^ evalP o x := by
  rw [deriv_n _ x (lin_len o a)]
  have e : (xsum (o.length + 1) fun j => if j % 2 = 0 then gmul (cf (mulP o [a, 1]) (j + 1)) (apw x j) else 0) = gmul a (evalP (derivP o) x) ^^^ (evalP o x ^^^ gmul x (evalP (derivP o) x)) := by
    rw [← even_odd o x (Nat.le_succ _), deriv_n o x (Nat.le_succ _), gmul_xsum, ← xsum_xor]
    refine xsum_congr fun j _ => ?_
    by_cases c : j % 2 = 0
    · rw [if_pos c, if_pos c, if_pos c, cf_lin, if_neg (by omega), Nat.add_sub_cancel, xor_gmul]
      congr 1
      ac_rfl
    · rw [if_neg c, if_neg c, if_neg c, gmul_zero, xor_zero8]
  rw [e, xor_gmul, xor_comm8 (evalP o x), ← xor_assoc8, xor_comm8 (gmul a _)]
theorem locP_snoc (l : List UInt8) (a : UInt8) : locP (l ++ [a]) = mulP (locP l) [a, 1] := by
  unfold locP
  rw [List.foldl_append]; rfl
theorem snoc_ind {P : List UInt8 → Prop} (h0 : P []) (h1 : ∀ l a, P l → P (l ++ [a])) : ∀ (n : Nat) (l : List UInt8), l.length = n → P l
  | 0, l, e => by rw [List.eq_nil_of_length_eq_zero e]; exact h0
  | n + 1, l, e => by
    have hne : l ≠ [] := by intro q; subst q; cases e
    have := h1 l.dropLast (l.getLast hne) (snoc_ind h0 h1 n l.dropLast (by rw [List.length_dropLast]; omega))
    rwa [List.dropLast_concat_getLast] at this
theorem loc_root (x : UInt8) (l : List UInt8) : evalP (locP l) x = 0 ↔ x ∈ l := by
  refine snoc_ind (P := fun l => evalP (locP l) x = 0 ↔ x ∈ l) ?_ ?_ _ l rfl
  · constructor
    · intro h
      have : evalP (locP []) x = 1 := by
        show evalP [1] x = 1
        show gmul 0 x ^^^ 1 = 1
        rw [zero_gmul, zero_xor8]
      rw [this] at h
      exact absurd h (by decide)
    · intro h; cases h
  · intro l a ih
    rw [locP_snoc, eval_lin]
    constructor
    · intro h
      rcases gmul_eq_zero h with q | q
      · exact List.mem_append_right _ (by rw [xor_eq_zero8.1 q]; exact List.mem_singleton.2 rfl)
      · exact List.mem_append_left _ (ih.1 q)
    · intro h
      rcases List.mem_append.1 h with q | q
      · rw [ih.2 q, gmul_zero]
      · rw [List.mem_singleton.1 q, xor_self8, zero_gmul]
theorem loc_simple {x : UInt8} (l : List UInt8) (hn : l.Nodup) (hx : x ∈ l) : evalP (derivP (locP l)) x ≠ 0 := by
  revert hn hx
  refine snoc_ind (P := fun l => l.Nodup → x ∈ l → evalP (derivP (locP l)) x ≠ 0) ?_ ?_ _ l rfl
  · intro _ h; cases h
  · intro l a ih hn hx
    have hn' : l.Nodup ∧ a ∉ l := by
      have := List.nodup_append.1 hn
      exact ⟨this.1, fun h => this.2.2 a h a (List.mem_singleton.2 rfl) rfl⟩
    rw [locP_snoc, deriv_lin]
    by_cases c : x = a
    · subst c
      rw [xor_self8, zero_gmul, zero_xor8]
      exact fun h => hn'.2 ((loc_root x l).1 h)
    · have hx' : x ∈ l := by
        rcases List.mem_append.1 hx with q | q
        · exact q
        · exact absurd (List.mem_singleton.1 q) c
      rw [(loc_root x l).2 hx', xor_zero8]
      exact gmul_ne (fun e => c (xor_eq_zero8.1 e)) (ih hn'.1 hx')
end Go.Eng
namespace Go.Eng
/-- A polynomial's later coefficients, at x. -/
def hrn (g : List UInt8) (M : Nat) (x : UInt8) (t : Nat) : UInt8 := xsum M fun a => gmul (cf g (t + a)) (apw x a)
theorem hrn_step (g : List UInt8) (M : Nat) (x : UInt8) (t : Nat) (h : g.length ≤ M) (hM : 0 < M) : hrn g M x t = cf g t ^^^ gmul x (hrn g M x (t + 1)) := by
  unfold hrn
  obtain ⟨N, rfl⟩ : ∃ N, M = N + 1 := ⟨M - 1, by omega⟩
  rw [xsum_head]
  congr 1
  · exact gmul_one _
  · rw [xsum, cf_ge (by omega), zero_gmul, xor_zero8, gmul_xsum]
    refine xsum_congr fun i _ => ?_
    rw [show t + (i + 1) = t + 1 + i by omega]
    show gmul _ (gmul _ _) = _
    ac_rfl
theorem hrn_zero (g : List UInt8) (M : Nat) (x : UInt8) (h : g.length ≤ M) : hrn g M x 0 = evalP g x := by
  rw [evalP_n g x h]
  exact xsum_congr fun i _ => by rw [Nat.zero_add]
theorem hrn_top (g : List UInt8) (M : Nat) (x : UInt8) {t : Nat} (h : g.length ≤ t) : hrn g M x t = 0 := xsum_none fun i _ => by rw [cf_ge (by omega), zero_gmul]
theorem hrn_tel (g : List UInt8) (M : Nat) (x z : UInt8) (h : g.length ≤ M) (hM : 0 < M) : ∀ n, gmul (x ^^^ z) (xsum n fun t => gmul (hrn g M x (t + 1)) (apw z t)) = hrn g M x 0 ^^^ gmul (hrn g M x n) (apw z n) ^^^ xsum n fun b => gmul (cf g b) (apw z b)
  | 0 => by
    show gmul _ 0 = hrn g M x 0 ^^^ gmul (hrn g M x 0) 1 ^^^ 0
    rw [gmul_zero, gmul_one, xor_self8]; rfl
  | n + 1 => by
    rw [xsum, xsum, gmul_xor, hrn_tel g M x z h hM n]
    have e : gmul (x ^^^ z) (gmul (hrn g M x (n + 1)) (apw z n)) = gmul (hrn g M x n) (apw z n) ^^^ (gmul (cf g n) (apw z n) ^^^ gmul (hrn g M x (n + 1)) (apw z (n + 1))) := by
      rw [hrn_step g M x n h hM, xor_gmul, xor_gmul]
      have e1 : gmul x (gmul (hrn g M x (n + 1)) (apw z n)) = gmul (gmul x (hrn g M x (n + 1))) (apw z n) := by ac_rfl
      have e2 : gmul z (gmul (hrn g M x (n + 1)) (apw z n)) = gmul (hrn g M x (n + 1)) (apw z (n + 1)) := by
        show _ = gmul _ (gmul _ _)
        ac_rfl
      rw [e1, e2]
      generalize gmul (cf g n) (apw z n) = A
      generalize gmul (gmul x (hrn g M x (n + 1))) (apw z n) = B
      generalize gmul (hrn g M x (n + 1)) (apw z (n + 1)) = C
      rw [xor_comm8 A B, xor_assoc8, ← xor_assoc8 A A, xor_self8, zero_xor8]
    rw [e]
    generalize hrn g M x 0 = A
    generalize gmul (hrn g M x n) (apw z n) = B
    generalize (xsum n fun b => gmul (cf g b) (apw z b)) = D
    generalize gmul (cf g n) (apw z n) = E
    generalize gmul (hrn g M x (n + 1)) (apw z (n + 1)) = G
    have : A ^^^ B ^^^ D ^^^ (B ^^^ (E ^^^ G)) = (B ^^^ B) ^^^ (A ^^^ G ^^^ (D ^^^ E)) := by ac_rfl
    rw [this, xor_self8, zero_xor8]
theorem hrn_two {g : List UInt8} {M n : Nat} {x z : UInt8} (h : g.length ≤ M) (hM : 0 < M) (hn : g.length ≤ n) (hx : evalP g x = 0) (hz : evalP g z = 0) (hne : x ≠ z) : (xsum n fun t => gmul (hrn g M x (t + 1)) (apw z t)) = 0 := by
  have := hrn_tel g M x z h hM n
  rw [hrn_zero g M x h, hx, hrn_top g M x hn, zero_gmul, ← evalP_n g z hn, hz] at this
  rcases gmul_eq_zero this with q | q
  · exact absurd (xor_eq_zero8.1 q) hne
  · exact q
theorem hrn_sq (g : List UInt8) (M : Nat) (x : UInt8) (h : g.length ≤ M) (hM : 0 < M) : ∀ n, (xsum n fun t => gmul (hrn g M x (t + 1)) (apw x t)) = (xsum n fun t => if t % 2 = 0 then gmul (cf g (t + 1)) (apw x t) else 0) ^^^ if n % 2 = 1 then gmul (hrn g M x (n + 1)) (apw x n) else 0
  | 0 => by rw [if_neg (by decide), xor_zero8]; rfl
  | n + 1 => by
    rw [xsum, xsum, hrn_sq g M x h hM n]
    by_cases c : n % 2 = 0
    · rw [if_neg (by omega), if_pos c, if_pos (show (n + 1) % 2 = 1 by omega), xor_zero8, hrn_step g M x (n + 1) h hM, xor_gmul, xor_assoc8]
      congr 2
      show _ = gmul _ (gmul _ _)
      ac_rfl
    · rw [if_pos (by omega), if_neg c, if_neg (by omega), xor_zero8, xor_zero8, xor_assoc8, xor_self8, xor_zero8]
theorem hrn_one {g : List UInt8} {M n : Nat} {x : UInt8} (h : g.length ≤ M) (hM : 0 < M) (hn : g.length ≤ n) : (xsum n fun t => gmul (hrn g M x (t + 1)) (apw x t)) = evalP (derivP g) x := by
  rw [hrn_sq g M x h hM n, deriv_n g x hn, hrn_top g M x (by omega), zero_gmul]
  split <;> exact xor_zero8 _
/-- The syndromes as they are reckoned. -/
theorem synI_get (k m : Nat) (w : List UInt8) {l : Nat} (hl : l < m) : ∀ n, cf (synI k m w n) l = xsum n fun i => gmul (gmul (cf w i) (wgt k m i)) (apw (X8 i) l)
  | 0 => by
    show cf (List.replicate m 0) l = 0
    rw [cf_lt (by simpa using hl)]; simp
  | n + 1 => by
    have h1 := synI_len k m w n
    have h2 := synI_len k m w (n + 1)
    rw [xsum, ← synI_get k m w hl n, cf_lt (by omega), cf_lt (by omega)]
    simp only [synI, xorL, List.getElem_zipWith, List.getElem_map, List.getElem_range]
    rw [itm_apw]
theorem synP_get (k m : Nat) (w : List UInt8) {l : Nat} (hl : l < m) : cf (synP k m w) l = syn k m (cf w) l := synI_get k m w hl _
theorem cf_rev {s : List UInt8} {a : Nat} (h : a < s.length) : cf s.reverse a = cf s (s.length - 1 - a) := by
  rw [cf_lt (by simpa using h), cf_lt (by omega), List.getElem_reverse]
/-- A product with syndromes. -/
theorem cf_key {k m : Nat} {s : List UInt8} {E : Nat → UInt8} (hs : s.length = m) (hE : ∀ l, l < m → cf s l = syn k m E l) (g : List UInt8) (i : Nat) : cf (mulP g s.reverse) i = xsum (k + m) fun j => gmul (gmul (E j) (wgt k m j)) (xsum m fun a => if i < a then 0 else gmul (cf g (i - a)) (apw (X8 j) (m - 1 - a))) := by
  rw [cf_mul, List.length_reverse, hs]
  have e : (xsum m fun a => if i < a then 0 else gmul (cf g (i - a)) (cf s.reverse a)) = xsum m fun a => xsum (k + m) fun j => gmul (gmul (E j) (wgt k m j)) (if i < a then 0 else gmul (cf g (i - a)) (apw (X8 j) (m - 1 - a))) := by
    refine xsum_congr fun a ha => ?_
    by_cases c : i < a
    · rw [if_pos c]
      exact (xsum_none fun j _ => by rw [if_pos c, gmul_zero]).symm
    · rw [if_neg c, cf_rev (by omega), hs, hE _ (by omega)]
      unfold syn
      rw [gmul_xsum]
      refine xsum_congr fun j _ => ?_
      rw [if_neg c]
      ac_rfl
  rw [e, xsum_swap]
  exact xsum_congr fun j _ => (gmul_xsum _ _ _).symm
theorem apw_add (x : UInt8) (a : Nat) : ∀ b, apw x (a + b) = gmul (apw x a) (apw x b)
  | 0 => (gmul_one _).symm
  | b + 1 => by
    show gmul (apw x (a + b)) x = gmul (apw x a) (gmul (apw x b) x)
    rw [apw_add x a b, gmul_assoc]
/-- Below m: the polynomial's value is a factor. -/
theorem key_low {g : List UInt8} {m i : Nat} (x : UInt8) (h : i < m) (hg : g.length ≤ i + 1) : (xsum m fun a => if i < a then 0 else gmul (cf g (i - a)) (apw x (m - 1 - a))) = gmul (apw x (m - 1 - i)) (evalP g x) := by
  rw [xsum_more (n := i + 1) h (fun a h1 _ => by rw [if_pos (by omega)]), xsum_rev, evalP_n g x hg, gmul_xsum]
  refine xsum_congr fun b hb => ?_
  rw [if_neg (by omega), show i - (i + 1 - 1 - b) = b by omega, show m - 1 - (i + 1 - 1 - b) = (m - 1 - i) + b by omega, apw_add]
  ac_rfl
/-- From m on. -/
theorem key_high {g : List UInt8} {m : Nat} (x : UInt8) (t : Nat) (hg : g.length ≤ m + 1) : (xsum m fun a => if m + t < a then 0 else gmul (cf g (m + t - a)) (apw x (m - 1 - a))) = hrn g (m + 1) x (t + 1) := by
  unfold hrn
  rw [xsum, cf_ge (by omega), zero_gmul, xor_zero8, xsum_rev]
  refine xsum_congr fun a ha => ?_
  rw [if_neg (by omega), show m + t - (m - 1 - a) = t + 1 + a by omega, show m - 1 - (m - 1 - a) = a by omega]
theorem knI_mem {ms : List Bool} {n i : Nat} (hn : n ≤ 256) (hi : i < n) : X8 i ∈ knI ms n ↔ ms.getD i false = true := by
  unfold knI
  rw [List.mem_map]
  constructor
  · rintro ⟨q, h1, h2⟩
    rw [List.mem_filter, List.mem_range] at h1
    have := X8_inj (by omega) (by omega) h2
    subst this
    exact h1.2
  · intro h
    exact ⟨i, by rw [List.mem_filter, List.mem_range]; exact ⟨hi, h⟩, rfl⟩
theorem knI_nodup {ms : List Bool} {n : Nat} (hn : n ≤ 256) : (knI ms n).Nodup := by
  unfold knI List.Nodup
  rw [List.pairwise_map]
  refine (List.pairwise_lt_range.filter _).imp_of_mem fun ha hb q e => ?_
  rw [List.mem_filter, List.mem_range] at ha hb
  have := X8_inj (by omega) (by omega) e
  omega
theorem wgt_ne {k m i : Nat} (h : k + m ≤ 256) (hi : i < 256) : wgt k m i ≠ 0 := by
  unfold wgt
  rw [wpI_den m h hi]
  exact ginv_ne (den_ne _ _)
/-- What stands at the missing places. -/
def gone (w : List UInt8) (ms : List Bool) (i : Nat) : UInt8 := if ms.getD i false = true then cf w i else 0
theorem cf_erI (w : List UInt8) (ms : List Bool) (i : Nat) : cf (erI w ms w.length) i = cf w i ^^^ gone w ms i := by
  unfold gone
  by_cases h : i < w.length
  · rw [cf_lt (by rw [erI_len]; exact h)]
    unfold erI
    rw [List.getElem_mapIdx]
    by_cases c : ms.getD i false = true
    · rw [if_pos ⟨h, c⟩, if_pos c, cf_lt h, xor_self8]
    · rw [if_neg (fun q => c q.2), if_neg c, cf_lt h, xor_zero8]
  · rw [cf_ge (by rw [erI_len]; omega), cf_ge (by omega)]
    split <;> rfl
theorem solve_low {s g : List UInt8} {e : Nat} (hg : g.length = e + 1) (he : e ≤ s.length) (hlow : ∀ i, e ≤ i → i < s.length → cf (mulP g s.reverse) i = 0) : solveP s g = some ([1], strip ((mulP g s.reverse).drop s.length)) := by
  unfold solveP
  dsimp only
  have hh : (strip ((mulP g s.reverse).take s.length)).length ≤ e := nm_len_le (nm_strip _) fun i hi => by
    rw [cf_strip]
    by_cases c : i < s.length
    · have : cf ((mulP g s.reverse).take s.length) i = cf (mulP g s.reverse) i := by
        simp only [cf, List.getD_eq_getElem?_getD, List.getElem?_take, if_pos c]
      rw [this, hlow i hi c]
    · rw [cf_ge (by rw [List.length_take]; omega)]
  have e1 : solveL s.length (g.length - 1) (s.length + 2) (List.replicate s.length 0 ++ [1]) (strip ((mulP g s.reverse).take s.length)) [] [1] = some [1] := by
    rw [solveL, if_neg (by simp; omega), if_pos (by simp; omega)]
  rw [e1]
  dsimp only
  have e2 : mulP [1] [ginv (top [1])] = [1] := by decide +kernel
  rw [e2]
  have e3 : mulP [1] (mulP g s.reverse) = mulP g s.reverse := by
    refine nm_ext (nm_mul _ _) (nm_mul _ _) fun i => ?_
    rw [cf_mul]
    by_cases c : i < (mulP g s.reverse).length
    · rw [xsum_one i c fun j _ hj => ?_]
      · rw [if_neg (by omega), Nat.sub_self]
        exact one_gmul _
      · split
        · rfl
        · rw [cf_ge (by simp; omega), zero_gmul]
    · rw [cf_ge (by omega)]
      refine xsum_none fun j hj => ?_
      split
      · rfl
      · rw [cf_ge (by simp; omega), zero_gmul]
  rw [e3]
theorem word_back {k m : Nat} (hkm : k + m ≤ 256) {w : List UInt8} {ms : List Bool} (hw : w.length = k + m) (hK : (knI ms (k + m)).length ≤ m) (hsyn : ∀ l, l < m → syn k m (cf w) l = 0) : wordP k m w ms = some (w, []) := by
  have hsl := synP_len k m (erI w ms (k + m))
  have hE : ∀ l, l < m → cf (synP k m (erI w ms (k + m))) l = syn k m (gone w ms) l := fun l hl => by
    rw [synP_get k m _ hl]
    have : cf (erI w ms (k + m)) = fun i => cf w i ^^^ gone w ms i := by
      funext i
      rw [← hw, cf_erI]
    rw [this, syn_xor, hsyn l hl, zero_xor8]
  obtain ⟨g1, g2⟩ := locP_nm (knI ms (k + m))
  have hroot : ∀ j, j < k + m → ms.getD j false = true → evalP (locP (knI ms (k + m))) (X8 j) = 0 := fun j hj h => (loc_root _ _).2 ((knI_mem hkm hj).2 h)
  have hlow : ∀ i, (knI ms (k + m)).length ≤ i → i < (synP k m (erI w ms (k + m))).length → cf (mulP (locP (knI ms (k + m))) (synP k m (erI w ms (k + m))).reverse) i = 0 := fun i h1 h2 => by
    rw [cf_key hsl hE]
    refine xsum_none fun j hj => ?_
    rw [key_low _ (by omega) (by omega)]
    by_cases c : ms.getD j false = true
    · rw [hroot j hj c, gmul_zero, gmul_zero]
    · have : gone w ms j = 0 := if_neg c
      rw [this, zero_gmul, zero_gmul]
  unfold wordP
  rw [if_neg (by omega), solve_low g2 (by rw [hsl]; exact hK) hlow]
  dsimp only
  have e1 : mulP [1] (locP (knI ms (k + m))) = locP (knI ms (k + m)) := by
    refine nm_ext (nm_mul _ _) g1 fun i => ?_
    rw [cf_mul]
    by_cases c : i < (locP (knI ms (k + m))).length
    · rw [xsum_one i c fun j _ hj => ?_]
      · rw [if_neg (by omega), Nat.sub_self]
        exact one_gmul _
      · split
        · rfl
        · rw [cf_ge (by simp; omega), zero_gmul]
    · rw [cf_ge (p := locP (knI ms (k + m))) (by omega)]
      refine xsum_none fun j hj => ?_
      split
      · rfl
      · rw [cf_ge (by simp; omega), zero_gmul]
  rw [e1]
  have hev : ∀ i, i < k + m → ms.getD i false = true → evalP (strip ((mulP (locP (knI ms (k + m))) (synP k m (erI w ms (k + m))).reverse).drop (synP k m (erI w ms (k + m))).length)) (X8 i) = gmul (gmul (cf w i) (wgt k m i)) (evalP (derivP (locP (knI ms (k + m)))) (X8 i)) := by
    intro i hi hm
    revert hroot
    generalize hg : locP (knI ms (k + m)) = g at *
    intro hroot
    generalize ho : strip ((mulP g (synP k m (erI w ms (k + m))).reverse).drop (synP k m (erI w ms (k + m))).length) = o
    have hco : ∀ t, cf o t = xsum (k + m) fun j => gmul (gmul (gone w ms j) (wgt k m j)) (hrn g (m + 1) (X8 j) (t + 1)) := fun t => by
      rw [← ho, cf_strip, hsl]
      have : cf ((mulP g (synP k m (erI w ms (k + m))).reverse).drop m) t = cf (mulP g (synP k m (erI w ms (k + m))).reverse) (m + t) := by
        simp only [cf, List.getD_eq_getElem?_getD, List.getElem?_drop]
      rw [this, cf_key hsl hE]
      exact xsum_congr fun j _ => by rw [key_high _ _ (by omega)]
    rw [evalP_n o (X8 i) (Nat.le_add_right o.length g.length)]
    have e2 : (xsum (o.length + g.length) fun t => gmul (cf o t) (apw (X8 i) t)) = xsum (k + m) fun j => gmul (gmul (gone w ms j) (wgt k m j)) (xsum (o.length + g.length) fun t => gmul (hrn g (m + 1) (X8 j) (t + 1)) (apw (X8 i) t)) := by
      have : (xsum (o.length + g.length) fun t => gmul (cf o t) (apw (X8 i) t)) = xsum (o.length + g.length) fun t => xsum (k + m) fun j => gmul (gmul (gone w ms j) (wgt k m j)) (gmul (hrn g (m + 1) (X8 j) (t + 1)) (apw (X8 i) t)) := by
        refine xsum_congr fun t _ => ?_
        rw [hco t, xsum_gmul]
        exact xsum_congr fun j _ => gmul_assoc _ _ _
      rw [this, xsum_swap]
      exact xsum_congr fun j _ => (gmul_xsum _ _ _).symm
    rw [e2, xsum_one i hi fun j hj hne => ?_]
    · rw [hrn_one (by omega) (by omega) (by omega)]
      rw [show gone w ms i = cf w i from if_pos hm]
    · by_cases c : ms.getD j false = true
      · rw [hrn_two (by omega) (by omega) (by omega) (hroot j hj c) (hroot i hi hm) (fun e => hne (X8_inj (by omega) (by omega) e)), gmul_zero]
      · rw [show gone w ms j = 0 from if_neg c, zero_gmul, zero_gmul]
  revert hev
  generalize strip ((mulP (locP (knI ms (k + m))) (synP k m (erI w ms (k + m))).reverse).drop (synP k m (erI w ms (k + m))).length) = o
  intro hev
  have hwd : ∀ n, n ≤ k + m → (wdI k m ms (locP (knI ms (k + m))) (derivP (locP (knI ms (k + m)))) o (erI w ms (k + m)) n).1.length = k + m ∧
      (∀ q, q < k + m → cf (wdI k m ms (locP (knI ms (k + m))) (derivP (locP (knI ms (k + m)))) o (erI w ms (k + m)) n).1 q = if n ≤ q ∧ ms.getD q false = true then 0 else cf w q) ∧
      (wdI k m ms (locP (knI ms (k + m))) (derivP (locP (knI ms (k + m)))) o (erI w ms (k + m)) n).2.1 = [] ∧ (wdI k m ms (locP (knI ms (k + m))) (derivP (locP (knI ms (k + m)))) o (erI w ms (k + m)) n).2.2 = (knI ms n).length := by
    intro n
    induction n with
    | zero =>
      intro _
      refine ⟨by show (erI w ms (k + m)).length = _; rw [erI_len, hw], fun q hq => ?_, rfl, rfl⟩
      show cf (erI w ms (k + m)) q = _
      rw [← hw, cf_erI, gone]
      by_cases c : ms.getD q false = true
      · rw [if_pos c, if_pos ⟨Nat.zero_le _, c⟩, xor_self8]
      · rw [if_neg c, if_neg (fun z => c z.2), xor_zero8]
    | succ n ih =>
      intro hn
      obtain ⟨i1, i2, i3, i4⟩ := ih (by omega)
      rw [wdI]
      revert i1 i2 i3 i4
      generalize wdI k m ms (locP (knI ms (k + m))) (derivP (locP (knI ms (k + m)))) o (erI w ms (k + m)) n = r
      intro i1 i2 i3 i4
      rw [knI_succ]
      by_cases c : ms.getD n false = true
      · rw [if_neg (by rw [Decidable.not_not]; exact hroot n (by omega) c), if_pos c, if_pos c]
        refine ⟨by rw [List.length_set]; exact i1, fun q hq => ?_, i3, by dsimp only; rw [List.length_append, i4]; rfl⟩
        dsimp only
        rw [cf_set (by omega)]
        by_cases e : q = n
        · subst e
          rw [if_pos rfl, if_neg (by omega), show r.1.getD q 0 = cf r.1 q from rfl, i2 q hq, if_pos ⟨Nat.le_refl _, c⟩, zero_xor8, hev q hq c]
          have d1 := loc_simple _ (knI_nodup hkm) ((knI_mem hkm hq).2 c)
          have d2 := wgt_ne (k := k) hkm (show q < 256 by omega)
          have : gmul (gmul (gmul (cf w q) (wgt k m q)) (evalP (derivP (locP (knI ms (k + m)))) (X8 q))) (ginv (gmul (evalP (derivP (locP (knI ms (k + m)))) (X8 q)) (wgt k m q))) = gmul (cf w q) (gmul (gmul (evalP (derivP (locP (knI ms (k + m)))) (X8 q)) (wgt k m q)) (ginv (gmul (evalP (derivP (locP (knI ms (k + m)))) (X8 q)) (wgt k m q)))) := by ac_rfl
          rw [this, ginv_mul (gmul_ne d1 d2), gmul_one]
        · rw [if_neg e, i2 q hq]
          by_cases d : n ≤ q ∧ ms.getD q false = true
          · rw [if_pos d, if_pos ⟨by omega, d.2⟩]
          · rw [if_neg d, if_neg (fun z => d ⟨by omega, z.2⟩)]
      · have hne : evalP (locP (knI ms (k + m))) (UInt8.ofNat n) ≠ 0 := fun z => c ((knI_mem hkm (by omega)).1 ((loc_root _ _).1 z))
        rw [if_pos hne, if_neg c]
        refine ⟨i1, fun q hq => ?_, i3, i4⟩
        rw [i2 q hq]
        by_cases e : q = n
        · subst e
          rw [if_neg (fun z => c z.2), if_neg (fun z => c z.2)]
        · by_cases d : n ≤ q ∧ ms.getD q false = true
          · rw [if_pos d, if_pos ⟨by omega, d.2⟩]
          · rw [if_neg d, if_neg (fun z => d ⟨by omega, z.2⟩)]
  obtain ⟨w1, w2, w3, w4⟩ := hwd (k + m) (Nat.le_refl _)
  revert w1 w2 w3 w4
  generalize wdI k m ms (locP (knI ms (k + m))) (derivP (locP (knI ms (k + m)))) o (erI w ms (k + m)) (k + m) = r
  intro w1 w2 w3 w4
  have hr : r.1 = w := cf_ext (by omega) fun i hi => by rw [w2 i (by omega), if_neg (by omega)]
  have hz : (synP k m r.1).any (· != 0) = false := by
    rw [List.any_eq_false]
    intro x hx
    obtain ⟨l, hl, rfl⟩ := List.getElem_of_mem hx
    have hl' : l < m := by rw [synP_len] at hl; exact hl
    have h1 := synP_get k m r.1 hl'
    rw [cf_lt hl] at h1
    have h2 : syn k m (cf r.1) l = 0 := by rw [hr]; exact hsyn l hl'
    rw [h2] at h1
    simp [h1]
  rw [hz, if_neg (by simp; omega), w3, hr]
end Go.Eng
