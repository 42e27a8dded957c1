/- Steps of the proof: lemmas for every input, without conditions but those that each states. -/
import Derived.Test.YtjpgcjbcfodicaaMat
set_option linter.unusedSimpArgs false
set_option linter.unusedVariables false
namespace Go.Eng
/-- A matrix beside the one that changes nothing. -/
def w0M (A : Nat → Nat → UInt8) (n : Nat) : Nat → Nat → UInt8 := fun r c => if c < n then A r c else if c = n + r then 1 else 0
/-- The first row from p on that has a number in the column c. -/
def pivI (W : Nat → Nat → UInt8) (c n : Nat) : Nat → Nat → Option Nat
  | 0, _ => none
  | f + 1, p => if p < n then (if W p c = 0 then pivI W c n f (p + 1) else some p) else none
def mulM (W : Nat → Nat → UInt8) (c : Nat) (x : UInt8) (i : Nat) : Nat → Nat → UInt8 := fun r j => if r = c ∧ j < i then gmul x (W c j) else W r j
def elimM (W : Nat → Nat → UInt8) (c L : Nat) : Nat → (Nat → Nat → UInt8)
  | 0 => W
  | r + 1 => if r ≠ c then addM (elimM W c L r) r c (elimM W c L r r c) L else elimM W c L r
/-- One column's step. -/
def colM (W : Nat → Nat → UInt8) (c p n : Nat) : Nat → Nat → UInt8 :=
  let W1 := if p ≠ c then addM W c p 1 (2 * n) else W
  let W2 := mulM W1 c (ginv (W1 c c)) (2 * n)
  elimM W2 c (2 * n) n
def invI (A : Nat → Nat → UInt8) (n : Nat) : Nat → Option (Nat → Nat → UInt8)
  | 0 => some (w0M A n)
  | c + 1 => match invI A n c with
    | none => none
    | some W => match pivI W c n (n - c) c with
      | none => none
      | some p => some (colM W c p n)
end Go.Eng
namespace Go.Eng
structure InvQ (h : Heap) (base b4 b7 n : Nat) (w : Value) (k : Heap) (M : Nat → Nat → UInt8) : Prop where
  X : Ext h k
  B4 : Blk k b4 zMat t_api_Matrix
  B7 : Blk k b7 (mat3 n (2 * n : Nat) w) t_api_Matrix
  O : OB t_uint8 k base w (matL M n (2 * n))
  hb : h.size ≤ base
variable {h : Heap} {base b4 b7 n : Nat} {w : Value} {k : Heap} {M : Nat → Nat → UInt8}
theorem InvQ.ext (q : InvQ h base b4 b7 n w k M) {k' : Heap} (x : Ext k k') : InvQ h base b4 b7 n w k' M := ⟨q.X.trans x, q.B4.ext x, q.B7.ext x, q.O.ext x, q.hb⟩
theorem InvQ.own (q : InvQ h base b4 b7 n w k M) {k' : Heap} {M' : Nat → Nat → UInt8} (o : OB t_uint8 k' base w (matL M' n (2 * n))) (x : Keeps (fun b => w.ownBlock ≠ some b) k k') : InvQ h base b4 b7 n w k' M' :=
  ⟨q.X.own q.O.1 q.hb x, q.B4.keep x (fun e => q.O.ne_blk q.B4 (by decide) e), q.B7.keep x (fun e => q.O.ne_blk q.B7 (by decide) e), o, q.hb⟩
theorem InvQ.upd (q : InvQ h base b4 b7 n w k M) {k' : Heap} {M' : Nat → Nat → UInt8} {g : Nat} (o : OB t_uint8 k' base w (matL M' n (2 * n))) (hg : w.ownBlock = some g) (u : Upd g k k') : InvQ h base b4 b7 n w k' M' :=
  q.own o ⟨by rw [u.1]; exact Nat.le_refl _, fun b _ e => u.2 b (fun e2 => e (e2 ▸ hg))⟩
theorem InvQ.upd2 (q : InvQ h base b4 b7 n w k M) {k' : Heap} {g : Nat} (u : Upd g k k') (h1 : h.size ≤ g) (h2 : b4 ≠ g) (h3 : b7 ≠ g) (h4 : w.ownBlock ≠ some g) : InvQ h base b4 b7 n w k' M :=
  ⟨q.X.upd u (.inl h1), q.B4.upd u h2, q.B7.upd u h3, q.O.upd u h4, q.hb⟩
theorem InvQ.formc (q : InvQ h base b4 b7 n w k M) : ∃ A cap, w = .slice A (n * (2 * n)) cap ∧ n * (2 * n) ≤ cap := by
  have := q.O.formc
  rwa [matL_len] at this
theorem pivI_step {W : Nat → Nat → UInt8} {c n p p0 : Nat} (e : pivI W c n (n - p) p = some p0) : p < n ∧ (W p c = 0 → pivI W c n (n - (p + 1)) (p + 1) = some p0) ∧ (W p c ≠ 0 → p = p0) := by
  rcases Nat.lt_or_ge p n with hp | hp
  · obtain ⟨f, hf⟩ : ∃ f, n - p = f + 1 := ⟨n - p - 1, by omega⟩
    rw [hf, pivI, if_pos hp] at e
    refine ⟨hp, fun z => ?_, fun z => ?_⟩
    · rw [if_pos z] at e
      rw [show n - (p + 1) = f by omega]; exact e
    · rw [if_neg z] at e; exact Option.some.inj e
  · rw [show n - p = 0 by omega, pivI] at e; cases e
theorem invI_step {A : Nat → Nat → UInt8} {n c : Nat} {M W : Nat → Nat → UInt8} (e : invI A n n = some W) (hc : c < n) (h : invI A n c = some M) : ∃ p, pivI M c n (n - c) c = some p ∧ invI A n (c + 1) = some (colM M c p n) := by
  have dn : ∀ d, invI A n (n - d) ≠ none := by
    intro d
    induction d with
    | zero => rw [Nat.sub_zero, e]; simp
    | succ d ih =>
      intro z
      apply ih
      rcases Nat.lt_or_ge d n with q | q
      · rw [show n - d = (n - (d + 1)) + 1 by omega, invI, z]
      · rw [show n - d = n - (d + 1) by omega]; exact z
  have := dn (n - (c + 1))
  rw [show n - (n - (c + 1)) = c + 1 by omega] at this
  rw [invI, h] at this ⊢
  dsimp only at this ⊢
  cases z : pivI M c n (n - c) c with
  | none => rw [z] at this; exact absurd rfl this
  | some p => exact ⟨p, rfl, rfl⟩
theorem mulM_zero (W : Nat → Nat → UInt8) (c : Nat) (x : UInt8) : mulM W c x 0 = W := by funext r j; simp [mulM]
def outM (W : Nat → Nat → UInt8) (n i : Nat) : Nat → Nat → UInt8 := fun r c => if r < i then W r (n + c) else 0
def w1M (A : Nat → Nat → UInt8) (n i : Nat) : Nat → Nat → UInt8 := fun r c => if r < i then w0M A n r c else 0
end Go.Eng
set_option maxHeartbeats 1000000
namespace Go.Eng
theorem matrix_Invert_spec {S S' : Nat → Prop} {h : Heap} {f n : Nat} {ua : Value} {A W : Nat → Nat → UInt8} (F : Fld S h f) (hS : ∀ i, S i → i < h.size) (B : Bytes S' h ua (matL A n n)) (hn0 : 0 < n) (hn : n ≤ 256) (hW : invI A n n = some W) :
    Spec PP f_matrix_Invert #[ptr f, .agg (mat3 n n ua).toArray] h (fun v h' => Ext h h' ∧ ∃ u, v = .tuple #[.agg (mat3 n n u).toArray, vI 0] ∧ OB t_uint8 h' h.size u (matL (fun r c => W r (n + c)) n n)) := by
  have hml := matL_len A n n
  have hnn : n * n ≤ 256 * 256 := Nat.mul_le_mul hn hn
  refine Spec.bodyR (C := c_matrix_Invert) [(0, ptr f), (1, .agg (mat3 n n ua).toArray)] h_matrix_Invert rfl rfl rfl ⟨rfl, rfl, trivial⟩ rfl ?_
  refine WC.seq (WC.region ?_)
  refine WR.stepL (Runs.bxA _ rfl) rfl ?_
  rintro _ h1 ⟨b3, rfl, hb3, B3, X1⟩
  refine WR.stepL (Runs.alA (z := zMat)) rfl ?_
  rintro _ h2 ⟨b4, rfl, hb4, B4, X2⟩
  refine WR.sL rfl rfl (WR.nil ?_)
  have X02 := X1.trans X2
  refine WC.scope ?_
  refine WC.seq (WC.block ?_)
  refine WC.seq (WC.region ?_)
  refine WR.s rfl rfl ?_
  refine WR.v (RunsV.eqNil rfl rfl) rfl ?_
  refine WR.s rfl rfl (WR.nil ?_)
  refine WC.ff rfl rfl ?_
  refine WC.seq (WC.region ?_)
  refine WR.v (RunsV.ldW (B3.ext X2) rfl rfl) rfl ?_
  refine WR.callT (matrix_Check_spec n n (B.ext X02) hn hn hml) rfl rfl rfl ?_
  rintro _ h3 ⟨rfl, X3⟩
  have B33 := (B3.ext X2).ext X3
  have B43 := B4.ext X3
  iterate 2 refine WR.s rfl rfl ?_
  refine WG.start rfl rfl ?_
  refine WG.v rfl (fun e => RunsV.fa0 rfl) rfl rfl ?_
  refine WG.v rfl (fun e => RunsV.ldF (v := vI n) B33 rfl rfl) rfl rfl ?_
  refine WG.v rfl (fun e => RunsV.fa0 rfl) rfl rfl ?_
  refine WG.v rfl (fun e => RunsV.ldF (v := vI n) B33 rfl rfl) rfl rfl ?_
  refine WG.s rfl rfl rfl rfl ?_
  refine WG.or rfl rfl ?_
  refine WR.s rfl rfl (WR.nil ?_)
  refine WC.ff rfl (by simp) (WC.skip ?_)
  have X03 := X02.trans X3
  refine WC.seq (WC.region ?_)
  refine WR.v (RunsV.fa0 rfl) rfl ?_
  refine WR.v (RunsV.ldF (v := vI n) B33 rfl rfl) rfl ?_
  refine WR.sL rfl rfl (WR.nil ?_)
  refine WC.seq (WC.region ?_)
  iterate 2 refine WR.s rfl rfl ?_
  refine WR.v (RunsV.to (v' := vI ((2 * n : Nat))) (RunsV.mul rfl rfl (by omega)) (by simp)) rfl ?_
  refine WR.callT (matrix_empty_spec n (2 * n) (by omega) (by omega)) rfl rfl rfl ?_
  rintro _ h4 ⟨w, rfl, Ow, X4⟩
  refine WR.stepL (Runs.alA (z := zMat)) rfl ?_
  rintro _ h5 ⟨b7, rfl, hb7, B7, X5⟩
  refine WR.stepU (RunsU.stW (vs := mat3 n (2 * n : Nat) w) B7 rfl rfl rfl rfl (mat3_one Ow.1.one)) ?_
  rintro h6 ⟨B76, U6⟩
  have X46 : Ext h4 h6 := X5.upd U6 (.inl hb7)
  have X36 := X4.trans X46
  have X06 := X03.trans X36
  have hs03 := X03.size
  have hs1 := X1.size
  have hs2 := X2.size
  have hs3 := X3.size
  have Q6 : InvQ h h3.size b4 b7 n w h6 (fun _ _ => 0) := ⟨X06, B43.ext X36, B76, Ow.ext X46, by omega⟩
  have B36 := B33.ext X36
  have hd : b3 < h3.size := B33.lt
  have hd4 : h.size ≤ b4 := by omega
  clear B3 B4 B7 B33 B43 B76 X4 X5 U6 X46 X36 X06 Ow
  refine WR.nil ?_
  refine WC.seq (WC.seq (WC.region ?_))
  iterate 2 refine WR.sL rfl rfl ?_
  refine WR.nil ?_
  refine WC.block ?_
  refine WC.loop (σ := Nat) (fun i => [(0, ptr f), (3, ptr b3), (4, ptr b4), (6, vI n), (7, ptr b7), (41, vI n), (42, vI i)]) (fun i h' => i ≤ n ∧ InvQ h h3.size b4 b7 n w h' (w1M A n i) ∧ Blk h' b3 (mat3 n n ua) t_api_Matrix) (fun i => n - i) 0 (fun _ => rfl)
    ⟨rfl, rfl, rfl, rfl, rfl, rfl, rfl, trivial⟩ ⟨by omega, by rw [show w1M A n 0 = fun _ _ => 0 by funext r c; simp [w1M]]; exact Q6, B36⟩ ?_
  clear Q6 B36
  rintro i k1 ⟨hi, Q, C3⟩
  have hfw := Q.formc
  have ho : w.ownBlock ≠ some b3 := fun e => by
    have := (Q.O.1.blk e).1
    omega
  refine WC.seq (WC.region ?_)
  refine WR.s rfl rfl (WR.nil ?_)
  refine WC.seq ?_
  refine WC.itep rfl (fun e => ?_) (fun e => ?_)
  · have hi' : i < n := by omega
    have hrow : (i + 1) * (2 * n) ≤ n * (2 * n) := Nat.mul_le_mul_right _ (by omega)
    have hrow2 : (i + 1) * n ≤ n * n := Nat.mul_le_mul_right _ (by omega)
    have e1 : (i + 1) * (2 * n) = i * (2 * n) + 2 * n := Nat.succ_mul _ _
    have hnn2 : n * (2 * n) ≤ 256 * 512 := Nat.mul_le_mul hn (by omega)
    have B1 := B.ext Q.X
    refine WC.skip ?_
    refine WC.seq (WC.block ?_)
    refine WC.seq (WC.region ?_)
    refine WR.s rfl rfl ?_
    refine WR.sL rfl rfl (WR.nil ?_)
    refine WC.seq ?_
    refine WC.drawF 6 [(1,0),(0,1),(1,3),(0,4),(2,2),(2,5),(3,6)] (fun h' => Ext k1 h') (by decide +kernel) (fun _ _ _ _ _ _ q => q) (Ext.refl _) ?_
    refine WF.q rfl (fun h' s => RunsV.ldW (Q.B7.ext s) rfl rfl) rfl ?_
    refine WF.s rfl rfl rfl ?_
    refine WF.q rfl (fun h' s => RunsV.ldW (C3.ext s) rfl rfl) rfl ?_
    refine WF.s rfl rfl rfl ?_
    refine WF.call true rfl (matrix_row_spec n (2 * n) i (n * (2 * n)) hfw hrow (by omega) (by omega) (by omega)) rfl rfl rfl rfl (fun _ s v h' q => s.trans q.2) ?_
    rintro _ k2 ⟨rfl, X2⟩
    refine WF.call true rfl (matrix_row_spec n n i (n * n) (by have := Bytes.formc B1; rwa [hml] at this) hrow2 (by omega) (by omega) (by omega)) rfl rfl rfl rfl (fun _ s v h' q => s.trans q.2) ?_
    rintro _ k3 ⟨rfl, X3⟩
    have X13 := X2.trans X3
    have Q3 := Q.ext X13
    refine WF.ef false rfl (Runs.copyO Q3.O.1 (bytes_row (B1.ext X13) hi') hn0 (by omega) (by rw [matL_len]; omega) rfl rfl (bcells_one _)) rfl (fun q => (nomatch q)) ?_
    rintro _ k4 ⟨rfl, O4, g, hg, hg2, hgv, U4⟩
    refine WF.nil ?_
    rw [bcells_take, bcells_drop, ← bcells_append, ← bcells_append, matL_row _ hi' (by omega)] at O4
    have Q4 : InvQ h h3.size b4 b7 n w k4 (rowM (w1M A n i) i (A i) n) := Q3.upd ⟨by rw [matL_len]; rw [matL_len] at O4; exact O4, by rw [matL_len]; omega⟩ hgv U4
    have C34 : Blk k4 b3 (mat3 n n ua) t_api_Matrix := (C3.ext X13).upd U4 (fun q => ho (q ▸ hgv))
    refine WC.region ?_
    refine WR.v (RunsV.ldW Q4.B7 rfl rfl) rfl ?_
    refine WR.s rfl rfl ?_
    refine WR.callT (matrix_row_spec n (2 * n) i (n * (2 * n)) hfw hrow (by omega) (by omega) (by omega)) rfl rfl rfl ?_
    rintro _ k5 ⟨rfl, X5⟩
    have Q5 := Q4.ext X5
    iterate 2 refine WR.s rfl rfl ?_
    refine WR.v (RunsV.to (v' := vI ((n + i : Nat))) (RunsV.add rfl rfl (by omega)) (by simp)) rfl ?_
    have hml5 := matL_len (rowM (w1M A n i) i (A i) n) n (2 * n)
    have q0 : eptr (rowv w (2 * n) i) (n + i) = eptr w (i * (2 * n) + (n + i)) := eptr_sub Q5.O.1 (by rw [hml5]; exact hrow) (by omega)
    have S5 : Has (rowv w (2 * n) i) (2 * n) := by
      have Q' := Sl.sub (Q5.O.1.sl Q5.O.2) (show i * (2 * n) ≤ (i + 1) * (2 * n) by omega) (by rw [hml5]; exact hrow)
      have e2 : (i + 1) * (2 * n) - i * (2 * n) = 2 * n := by omega
      have := Q'.has (by omega)
      rwa [e2] at this
    refine WR.v (RunsV.to (v' := eptr w (i * (2 * n) + (n + i))) (RunsV.ix S5 (n + i) (by omega) rfl rfl rfl) q0) rfl ?_
    refine WR.stepU (RunsU.stO Q5.O.1 (by omega) rfl rfl rfl) ?_
    rintro k6 ⟨O6, g6, hg6, hg62, hgv6, U6⟩
    refine WR.nil ?_
    refine WC.region ?_
    refine WR.v (RunsV.add rfl rfl (by omega)) rfl ?_
    refine WR.sL rfl rfl (WR.nil ?_)
    have O6' := OB.set (show Own k6 h3.size t_uint8 1 w _ ((bcells (matL (rowM (w1M A n i) i (A i) n) n (2 * n))).set (i * (2 * n) + (n + i)) (vB 1)) from O6) Q5.O.2
    rw [matL_set _ hi' (by omega), matL_congr (B := w1M A n (i + 1)) (fun r c _ hc => by
      unfold updM rowM w1M w0M
      by_cases e2 : r = i
      · subst e2
        by_cases e3 : c = n + r
        · subst e3; simp; intro q; omega
        · by_cases e4 : c < n
          · simp [e3, e4]
          · simp [e3, e4]
      · by_cases e3 : r < i
        · simp [e2, e3, show r < i + 1 by omega]
        · simp [e2, e3, show ¬ r < i + 1 by omega])] at O6'
    have Q6 := Q5.upd O6' hgv6 U6
    exact ⟨i + 1, ⟨rfl, rfl, rfl, rfl, rfl, rfl, rfl, trivial⟩, ⟨hi', Q6, (C34.ext X5).upd U6 (fun q => ho (q ▸ hgv6))⟩, by dsimp only; omega⟩
  · refine WC.exit (exit_hit ?_)
    obtain rfl : i = n := by omega
    have Q0 : InvQ h h3.size b4 b7 i w k1 (w0M A i) := Q.own (by rw [matL_congr (B := w1M A i i) (fun r c hr _ => by simp [w1M, hr])]; exact Q.O) (Keeps.refl _ _)
    have hA : invI A i 0 = some (w0M A i) := rfl
    clear Q C3 ho
    refine WC.seq (WC.label ?_)
    refine WC.seq (WC.seq (WC.region ?_))
    iterate 2 refine WR.sL rfl rfl ?_
    refine WR.nil ?_
    refine WC.block ?_
    refine WC.loop (σ := Nat) (fun c => [(0, ptr f), (4, ptr b4), (6, vI i), (7, ptr b7), (60, vI i), (61, vI c)]) (fun c h' => c ≤ i ∧ ∃ M, invI A i c = some M ∧ InvQ h h3.size b4 b7 i w h' M) (fun c => i - c) 0 (fun _ => rfl)
      ⟨rfl, rfl, rfl, rfl, rfl, rfl, trivial⟩ ⟨by omega, _, hA, Q0⟩ ?_
    clear Q0 hA
    rintro c k2 ⟨hc, M, hM, Q⟩
    refine WC.seq (WC.region ?_)
    refine WR.s rfl rfl (WR.nil ?_)
    refine WC.seq ?_
    refine WC.itep rfl (fun e => ?_) (fun e => ?_)
    · have hc' : c < i := by omega
      obtain ⟨p0, hp0, hM'⟩ := invI_step hW hc' hM
      have hrow : ∀ r, r < i → (r + 1) * (2 * i) ≤ i * (2 * i) := fun r hr => Nat.mul_le_mul_right _ (by omega)
      have e1 : ∀ r, (r + 1) * (2 * i) = r * (2 * i) + 2 * i := fun r => Nat.succ_mul _ _
      have hnn2 : i * (2 * i) ≤ 256 * 512 := Nat.mul_le_mul hn (by omega)
      have RS : ∀ {k : Heap} (r : Nat), r < i → Spec PP f_matrix_row #[.agg (mat3 i (2 * i : Nat) w).toArray, vI r] k (fun v h' => v = rowv w (2 * i) r ∧ Ext k h') := fun r hr => matrix_row_spec i (2 * i) r (i * (2 * i)) hfw (hrow r hr) (by omega) (by omega) (by omega)
      have QO : ∀ {k : Heap} {M : Nat → Nat → UInt8}, InvQ h h3.size b4 b7 i w k M → ∀ r j, r < i → j < 2 * i → eptr (rowv w (2 * i) r) j = eptr w (r * (2 * i) + j) := fun q r j hr hj => eptr_sub q.O.1 (by rw [matL_len]; exact hrow r hr) (by rw [e1 r]; omega)
      have QH : ∀ {k : Heap} {M : Nat → Nat → UInt8}, InvQ h h3.size b4 b7 i w k M → ∀ r, r < i → Has (rowv w (2 * i) r) (2 * i) := fun q r hr => by
        have Q' := Sl.sub (q.O.1.sl q.O.2) (show r * (2 * i) ≤ (r + 1) * (2 * i) by rw [e1 r]; omega) (by rw [matL_len]; exact hrow r hr)
        have e2 : (r + 1) * (2 * i) - r * (2 * i) = 2 * i := by rw [e1 r]; omega
        have := Q'.has (by omega)
        rwa [e2] at this
      have QC : ∀ (M : Nat → Nat → UInt8) (r j : Nat), r < i → j < 2 * i → (bcells (matL M i (2 * i)))[r * (2 * i) + j]? = some (vB (M r j)) := fun M r j hr hj => by
        rw [bcells, List.getElem?_map, matL_get _ hr hj]; rfl
      have QF : ∀ r, ∃ A cap, rowv w (2 * i) r = .slice A (2 * i) cap := fun r => by
        obtain ⟨A', cap, e, _⟩ := hfw
        rw [e]
        exact ⟨_, _, by simp only [rowv, subv]; rw [show (r + 1) * (2 * i) - r * (2 * i) = 2 * i by rw [e1 r]; omega]⟩
      have PL : ∀ r j, r < i → j < 2 * i → r * (2 * i) + j < i * (2 * i) := fun r j hr hj => place_lt hr hj
      refine WC.skip ?_
      refine WC.seq (WC.block ?_)
      refine WC.seq (WC.region ?_)
      refine WR.s rfl rfl ?_
      refine WR.sL rfl rfl (WR.nil ?_)
      refine WC.seq (WC.seq (WC.region ?_))
      refine WR.s rfl rfl ?_
      refine WR.sL rfl rfl (WR.nil ?_)
      refine WC.block ?_
      refine WC.loop (σ := Nat) (fun p => [(0, ptr f), (4, ptr b4), (6, vI i), (7, ptr b7), (9, vI c), (10, vI p), (60, vI i), (61, vI c)]) (fun p h' => pivI M c i (i - p) p = some p0 ∧ c ≤ p ∧ InvQ h h3.size b4 b7 i w h' M) (fun p => i - p) c (fun _ => rfl)
        ⟨rfl, rfl, rfl, rfl, rfl, rfl, rfl, rfl, trivial⟩ ⟨hp0, by omega, Q⟩ ?_
      clear Q
      rintro p k3 ⟨hp, hcp, Q⟩
      obtain ⟨hpi, hz, hnz⟩ := pivI_step hp
      refine WC.seq (WC.seq (WC.region ?_))
      iterate 3 refine WR.s rfl rfl ?_
      refine WR.nil ?_
      refine WC.tt rfl (by simp; omega) ?_
      refine WC.skip ?_
      refine WC.seq (WC.block ?_)
      refine WC.seq (WC.seq (WC.region ?_))
      refine WR.v (RunsV.ldW Q.B7 rfl rfl) rfl ?_
      refine WR.s rfl rfl ?_
      refine WR.callT (RS p hpi) rfl rfl rfl ?_
      rintro _ k4 ⟨rfl, X4⟩
      have Q4 := Q.ext X4
      refine WR.s rfl rfl ?_
      refine WR.v (RunsV.to (v' := eptr w (p * (2 * i) + c)) (RunsV.ix (QH Q4 p hpi) c (by omega) rfl rfl rfl) (QO Q4 p c hpi (by omega))) rfl ?_
      refine WR.v (RunsV.ldO Q4.O.1 (by rw [matL_len, Nat.mul_one]; exact PL p c hpi (by omega)) rfl rfl (QC M p c hpi (by omega))) rfl ?_
      refine WR.s rfl rfl (WR.nil ?_)
      by_cases z : M p c = 0
      · refine WC.tt rfl (by rw [z]; rfl) ?_
        refine WC.exit (exit_hit ?_)
        refine WC.region ?_
        refine WR.s rfl rfl ?_
        refine WR.v (RunsV.add rfl rfl (by omega)) rfl ?_
        refine WR.sL rfl rfl (WR.nil ?_)
        exact ⟨p + 1, ⟨rfl, rfl, rfl, rfl, rfl, rfl, rfl, rfl, trivial⟩, ⟨hz z, by omega, Q4⟩, by dsimp only; omega⟩
      · have ez := hnz z
        subst ez
        refine WC.ff rfl (by have : ¬ (M p c).toNat = 0 := fun q => z (UInt8.toNat_inj.1 q); simp; omega) (WC.skip ?_)
        refine WC.seq (WC.region ?_)
        refine WR.v (RunsV.ldW Q4.B7 rfl rfl) rfl ?_
        refine WR.s rfl rfl ?_
        refine WR.callT (RS c hc') rfl rfl rfl ?_
        rintro _ k5 ⟨rfl, X5⟩
        have Q5 := Q4.ext X5
        refine WR.sL rfl rfl (WR.nil ?_)
        refine WC.cut (σ := Unit) (fun _ => [(0, ptr f), (4, ptr b4), (6, vI i), (7, ptr b7), (9, vI c), (11, rowv w (2 * i) c), (60, vI i), (61, vI c)])
          (fun _ h' => InvQ h h3.size b4 b7 i w h' (if p ≠ c then addM M c p 1 (2 * i) else M)) (fun _ => rfl) ?_ ?_
        · refine WC.seq (WC.region ?_)
          iterate 3 refine WR.s rfl rfl ?_
          refine WR.nil ?_
          refine WC.itep rfl (fun e => ?_) (fun e => ?_)
          · have hne : p ≠ c := by intro q; subst q; simp at e
            refine WC.region ?_
            iterate 2 refine WR.s rfl rfl ?_
            refine WR.v (RunsV.ldW Q5.B7 rfl rfl) rfl ?_
            refine WR.s rfl rfl ?_
            refine WR.callT (RS p hpi) rfl rfl rfl ?_
            rintro _ k6 ⟨rfl, X6⟩
            have Q6 := Q5.ext X6
            refine WR.callT (matrix_adds_spec (F.ext Q6.X) (fun i s => by have := hS i s; omega) 1 Q6.O hc' hpi (Ne.symm hne) (by omega) (by omega)) rfl rfl rfl ?_
            rintro _ k7 ⟨rfl, O7, K7⟩
            refine WR.nil ?_
            exact ⟨(), ⟨rfl, rfl, rfl, rfl, rfl, rfl, rfl, rfl, trivial⟩, by rw [if_pos hne]; exact Q6.own O7 K7⟩
          · have hne : p = c := by have : ((p : Int) = c) := by simpa using e
                                   omega
            refine WC.skip ?_
            exact ⟨(), ⟨rfl, rfl, rfl, rfl, rfl, rfl, rfl, rfl, trivial⟩, by rw [if_neg (by simpa using hne)]; exact Q5⟩
        rintro _ k6 Q6
        revert Q6
        generalize hW1 : (if p ≠ c then addM M c p 1 (2 * i) else M) = W1
        intro Q6
        have hM2 : invI A i (c + 1) = some (elimM (mulM W1 c (ginv (W1 c c)) (2 * i)) c (2 * i) i) := by
          rw [hM', ← hW1]; rfl
        refine WC.seq (WC.region ?_)
        iterate 3 refine WR.s rfl rfl ?_
        refine WR.v (RunsV.to (v' := eptr w (c * (2 * i) + c)) (RunsV.ix (QH Q6 c hc') c (by omega) rfl rfl rfl) (QO Q6 c c hc' (by omega))) rfl ?_
        refine WR.v (RunsV.ldO Q6.O.1 (by rw [matL_len, Nat.mul_one]; exact PL c c hc' (by omega)) rfl rfl (QC W1 c c hc' (by omega))) rfl ?_
        refine WR.callT (gf_Field_Inv_spec (F.ext Q6.X) (W1 c c)) rfl rfl rfl ?_
        rintro _ _ ⟨rfl, rfl⟩
        iterate 3 refine WR.s rfl rfl ?_
        refine WR.sL rfl rfl ?_
        refine WR.s rfl rfl (WR.nil ?_)
        refine WC.cut (σ := Unit) (fun _ => [(0, ptr f), (4, ptr b4), (6, vI i), (7, ptr b7), (9, vI c), (11, rowv w (2 * i) c), (60, vI i), (61, vI c)])
          (fun _ h' => InvQ h h3.size b4 b7 i w h' (mulM W1 c (ginv (W1 c c)) (2 * i))) (fun _ => rfl) ?_ ?_
        · refine WC.seq (WC.region ?_)
          refine WR.sL rfl rfl ?_
          refine WR.vL (RunsV.lenF (QF c) rfl) rfl ?_
          refine WR.sL rfl rfl (WR.nil ?_)
          refine WC.block ?_
          refine WC.loop (σ := Nat) (fun j => [(0, ptr f), (4, ptr b4), (6, vI i), (7, ptr b7), (9, vI c), (11, rowv w (2 * i) c), (12, vB (ginv (W1 c c))), (60, vI i), (61, vI c), (98, rowv w (2 * i) c), (99, vI (2 * i : Nat)), (100, vI j)])
            (fun j h' => j ≤ 2 * i ∧ InvQ h h3.size b4 b7 i w h' (mulM W1 c (ginv (W1 c c)) j)) (fun j => 2 * i - j) 0 (fun _ => rfl)
            ⟨rfl, rfl, rfl, rfl, rfl, rfl, rfl, rfl, rfl, rfl, rfl, rfl, trivial⟩ ⟨by omega, by rw [mulM_zero]; exact Q6⟩ ?_
          clear Q6
          rintro j k7 ⟨hj, Q7⟩
          refine WC.seq (WC.region ?_)
          refine WR.s rfl rfl (WR.nil ?_)
          refine WC.seq ?_
          refine WC.itep rfl (fun e => ?_) (fun e => ?_)
          · have hj' : j < 2 * i := by omega
            refine WC.skip ?_
            refine WC.seq (WC.block ?_)
            refine WC.seq (WC.region ?_)
            refine WR.s rfl rfl ?_
            refine WR.v (RunsV.to (v' := eptr w (c * (2 * i) + j)) (RunsV.ix (QH Q7 c hc') j hj' rfl rfl rfl) (QO Q7 c j hc' hj')) rfl ?_
            refine WR.v (RunsV.ldO Q7.O.1 (by rw [matL_len, Nat.mul_one]; exact PL c j hc' hj') rfl rfl (QC _ c j hc' hj')) rfl ?_
            iterate 2 refine WR.sL rfl rfl ?_
            refine WR.nil ?_
            refine WC.region ?_
            iterate 5 refine WR.s rfl rfl ?_
            refine WR.callT (gf_Field_Mul_spec (F.ext Q7.X) (ginv (W1 c c)) (mulM W1 c (ginv (W1 c c)) j c j)) rfl rfl rfl ?_
            rintro _ _ ⟨rfl, rfl⟩
            refine WR.v (RunsV.to (v' := eptr w (c * (2 * i) + j)) (RunsV.ix (QH Q7 c hc') j hj' rfl rfl rfl) (QO Q7 c j hc' hj')) rfl ?_
            refine WR.stepU (RunsU.stO Q7.O.1 (by rw [matL_len]; exact PL c j hc' hj') rfl rfl rfl) ?_
            rintro k8 ⟨O8, g8, hg8, hg82, hgv8, U8⟩
            refine WR.nil ?_
            refine WC.region ?_
            refine WR.v (RunsV.add rfl rfl (by omega)) rfl ?_
            refine WR.sL rfl rfl (WR.nil ?_)
            have O8' := OB.set O8 Q7.O.2
            rw [matL_set _ hc' hj', matL_congr (B := mulM W1 c (ginv (W1 c c)) (j + 1)) (fun r y _ hy => by
              unfold updM mulM
              by_cases e2 : r = c
              · subst e2
                by_cases e3 : y = j
                · subst e3; simp
                · by_cases e4 : y < j
                  · simp [e3, e4, show y < j + 1 by omega]
                  · simp [e3, e4, show ¬ y < j + 1 by omega]
              · simp [e2])] at O8'
            exact ⟨j + 1, ⟨rfl, rfl, rfl, rfl, rfl, rfl, rfl, rfl, rfl, rfl, rfl, rfl, trivial⟩, ⟨hj', Q7.upd O8' hgv8 U8⟩, by dsimp only; omega⟩
          · refine WC.exit (exit_hit ?_)
            obtain rfl : j = 2 * i := by omega
            exact ⟨(), ⟨rfl, rfl, rfl, rfl, rfl, rfl, rfl, rfl, trivial⟩, Q7⟩
        rintro _ k7 Q7
        revert Q7 hM2
        generalize (mulM W1 c (ginv (W1 c c)) (2 * i)) = W2
        intro hM2 Q7
        refine WC.seq ?_
        refine WC.seq (WC.region ?_)
        iterate 2 refine WR.sL rfl rfl ?_
        refine WR.nil ?_
        refine WC.block ?_
        refine WC.loop (σ := Nat) (fun r => [(0, ptr f), (4, ptr b4), (6, vI i), (7, ptr b7), (9, vI c), (11, rowv w (2 * i) c), (60, vI i), (61, vI c), (113, vI i), (114, vI r)])
          (fun r h' => r ≤ i ∧ InvQ h h3.size b4 b7 i w h' (elimM W2 c (2 * i) r)) (fun r => i - r) 0 (fun _ => rfl)
          ⟨rfl, rfl, rfl, rfl, rfl, rfl, rfl, rfl, rfl, rfl, trivial⟩ ⟨by omega, Q7⟩ ?_
        clear Q7
        rintro r k8 ⟨hr, Q8⟩
        refine WC.seq (WC.region ?_)
        refine WR.s rfl rfl (WR.nil ?_)
        refine WC.seq ?_
        refine WC.itep rfl (fun e => ?_) (fun e => ?_)
        · have hr' : r < i := by omega
          refine WC.skip ?_
          refine WC.cut (σ := Unit) (fun _ => [(0, ptr f), (4, ptr b4), (6, vI i), (7, ptr b7), (9, vI c), (11, rowv w (2 * i) c), (60, vI i), (61, vI c), (113, vI i), (114, vI r)])
            (fun _ h' => InvQ h h3.size b4 b7 i w h' (elimM W2 c (2 * i) (r + 1))) (fun _ => rfl) ?_ ?_
          · refine WC.block ?_
            refine WC.seq (WC.region ?_)
            refine WR.s rfl rfl ?_
            refine WR.sL rfl rfl (WR.nil ?_)
            refine WC.seq (WC.region ?_)
            iterate 3 refine WR.s rfl rfl ?_
            refine WR.nil ?_
            refine WC.itep rfl (fun e => ?_) (fun e => ?_)
            · have hne : r ≠ c := by intro q; subst q; simp at e
              refine WC.drawF 11 [(0,0),(1,1),(0,2),(0,4),(1,5),(0,6),(0,8),(2,3),(2,7),(0,9),(1,10),(3,11)] (fun h' => Ext k8 h') (by decide +kernel) (fun _ _ _ _ _ _ q => q) (Ext.refl _) ?_
              refine WF.s rfl rfl rfl ?_
              refine WF.q rfl (fun h' s => RunsV.ldW (Q8.B7.ext s) rfl rfl) rfl ?_
              refine WF.s rfl rfl rfl ?_
              refine WF.s rfl rfl rfl ?_
              refine WF.q rfl (fun h' s => RunsV.ldW (Q8.B7.ext s) rfl rfl) rfl ?_
              refine WF.s rfl rfl rfl ?_
              refine WF.s rfl rfl rfl ?_
              refine WF.call true rfl (RS r hr') rfl rfl rfl rfl (fun _ s v h' q => s.trans q.2) ?_
              rintro _ k9 ⟨rfl, X9⟩
              refine WF.call true rfl (RS r hr') rfl rfl rfl rfl (fun _ s v h' q => s.trans q.2) ?_
              rintro _ k10 ⟨rfl, X10⟩
              have X810 := X9.trans X10
              have Q10 := Q8.ext X810
              refine WF.v rfl (fun _ => RunsV.to (v' := eptr w (r * (2 * i) + c)) (RunsV.ix (QH Q10 r hr') c (by omega) rfl rfl rfl) (QO Q10 r c hr' (by omega))) rfl ?_
              refine WF.q rfl (fun h' s => RunsV.ldO (Q8.O.ext s).1 (by rw [matL_len, Nat.mul_one]; exact PL r c hr' (by omega)) rfl rfl (QC _ r c hr' (by omega))) rfl ?_
              refine WF.call false rfl (matrix_adds_spec (F.ext Q10.X) (fun i s => by have := hS i s; omega) (elimM W2 c (2 * i) r r c) Q10.O hr' hc' hne (by omega) (by omega)) rfl rfl rfl rfl (fun q => (nomatch q)) ?_
              rintro _ k11 ⟨rfl, O11, K11⟩
              refine WF.nil ?_
              refine ⟨(), ⟨rfl, rfl, rfl, rfl, rfl, rfl, rfl, rfl, rfl, rfl, trivial⟩, ?_⟩
              rw [show elimM W2 c (2 * i) (r + 1) = addM (elimM W2 c (2 * i) r) r c (elimM W2 c (2 * i) r r c) (2 * i) by rw [elimM, if_pos hne]]
              exact Q10.own O11 K11
            · have hne : r = c := by have : ((r : Int) = c) := by simpa using e
                                     omega
              refine WC.skip ?_
              refine ⟨(), ⟨rfl, rfl, rfl, rfl, rfl, rfl, rfl, rfl, rfl, rfl, trivial⟩, ?_⟩
              rw [show elimM W2 c (2 * i) (r + 1) = elimM W2 c (2 * i) r by rw [elimM, if_neg (by simpa using hne)]]
              exact Q8
          rintro _ k9 Q9
          refine WC.region ?_
          refine WR.v (RunsV.add rfl rfl (by omega)) rfl ?_
          refine WR.sL rfl rfl (WR.nil ?_)
          exact ⟨r + 1, ⟨rfl, rfl, rfl, rfl, rfl, rfl, rfl, rfl, rfl, rfl, trivial⟩, ⟨hr', Q9⟩, by dsimp only; omega⟩
        · refine WC.exit (exit_hit ?_)
          obtain rfl : r = i := by omega
          refine WC.exit (exit_miss (by decide) (exit_miss (by decide) (exit_hit ?_)))
          refine WC.region ?_
          refine WR.v (RunsV.add rfl rfl (by omega)) rfl ?_
          refine WR.sL rfl rfl (WR.nil ?_)
          exact ⟨c + 1, ⟨rfl, rfl, rfl, rfl, rfl, rfl, trivial⟩, ⟨hc', _, hM2, Q8⟩, by dsimp only; omega⟩
    · refine WC.exit (exit_hit ?_)
      obtain rfl : c = i := by omega
      have eW : M = W := Option.some.inj (hM.symm.trans hW)
      subst eW
      clear hM hW
      have hnn' : c * (2 * c) ≤ 256 * 512 := Nat.mul_le_mul hn (by omega)
      refine WC.seq (WC.region ?_)
      iterate 2 refine WR.s rfl rfl ?_
      refine WR.callT (matrix_empty_spec c c (by omega) (by omega)) rfl rfl rfl ?_
      rintro _ k3 ⟨x, rfl, Ox, X3⟩
      refine WR.stepL (Runs.alA (z := zMat)) rfl ?_
      rintro _ k4 ⟨b17, rfl, hb17, B17, X4⟩
      refine WR.stepU (RunsU.stW (vs := mat3 c c x) B17 rfl rfl rfl rfl (mat3_one Ox.1.one)) ?_
      rintro k5 ⟨B175, U5⟩
      have X35 : Ext k3 k5 := X4.upd U5 (.inl hb17)
      have Q5 := Q.ext (X3.trans X35)
      have Ox5 := Ox.ext X35
      have hk2 : h.size ≤ k2.size := Q.X.size
      have hk3 := X3.size
      have hk5 := X35.size
      have hwk : ∀ b, w.ownBlock = some b → b < k2.size := fun b e => (Q.O.1.blk e).2
      clear X3 X4 U5 B17
      refine WR.nil ?_
      refine WC.seq (WC.seq (WC.region ?_))
      iterate 2 refine WR.sL rfl rfl ?_
      refine WR.nil ?_
      refine WC.block ?_
      refine WC.loop (σ := Nat) (fun i => [(4, ptr b4), (6, vI c), (7, ptr b7), (17, ptr b17), (138, vI c), (139, vI i)])
        (fun i h' => i ≤ c ∧ InvQ h h3.size b4 b7 c w h' M ∧ Blk h' b17 (mat3 c c x) t_api_Matrix ∧ OB t_uint8 h' k2.size x (matL (outM M c i) c c) ∧ k2.size ≤ h'.size) (fun i => c - i) 0 (fun _ => rfl)
        ⟨rfl, rfl, rfl, rfl, rfl, rfl, trivial⟩ ⟨by omega, Q5, B175, by rw [show outM M c 0 = fun _ _ => 0 by funext r y; simp [outM]]; exact Ox5, by omega⟩ ?_
      clear Q Q5 B175 Ox5 Ox
      rintro r k6 ⟨hr, Q, B, O, hk6⟩
      have hml6 := matL_len (outM M c r) c c
      refine WC.seq (WC.region ?_)
      refine WR.s rfl rfl (WR.nil ?_)
      refine WC.seq ?_
      refine WC.itep rfl (fun e => ?_) (fun e => ?_)
      · have hr' : r < c := by omega
        have hrow : (r + 1) * (2 * c) ≤ c * (2 * c) := Nat.mul_le_mul_right _ (by omega)
        have hrow2 : (r + 1) * c ≤ c * c := Nat.mul_le_mul_right _ (by omega)
        have e1 : (r + 1) * (2 * c) = r * (2 * c) + 2 * c := Nat.succ_mul _ _
        have e2 : (r + 1) * c = r * c + c := Nat.succ_mul _ _
        refine WC.skip ?_
        refine WC.seq (WC.block ?_)
        refine WC.seq (WC.region ?_)
        refine WR.s rfl rfl ?_
        refine WR.sL rfl rfl (WR.nil ?_)
        refine WC.drawF 8 [(1,0),(0,1),(1,3),(0,4),(0,6),(2,2),(2,5),(0,7),(3,8)] (fun h' => Ext k6 h') (by decide +kernel) (fun _ _ _ _ _ _ q => q) (Ext.refl _) ?_
        refine WF.q rfl (fun h' s => RunsV.ldW (B.ext s) rfl rfl) rfl ?_
        refine WF.s rfl rfl rfl ?_
        refine WF.q rfl (fun h' s => RunsV.ldW (Q.B7.ext s) rfl rfl) rfl ?_
        refine WF.s rfl rfl rfl ?_
        refine WF.s rfl rfl rfl ?_
        refine WF.call true rfl (matrix_row_spec c c r (c * c) (by have := O.formc; rwa [hml6] at this) hrow2 (by omega) (by omega) (by omega)) rfl rfl rfl rfl (fun _ s v h' q => s.trans q.2) ?_
        rintro _ k7 ⟨rfl, X7⟩
        refine WF.call true rfl (matrix_row_spec c (2 * c) r (c * (2 * c)) hfw hrow (by omega) (by omega) (by omega)) rfl rfl rfl rfl (fun _ s v h' q => s.trans q.2) ?_
        rintro _ k8 ⟨rfl, X8⟩
        have X68 := X7.trans X8
        have Q8 := Q.ext X68
        have O8 := O.ext X68
        have B8 := B.ext X68
        refine WF.v rfl (fun _ => RunsV.subL (n := 2 * c) c rfl rfl (by
          obtain ⟨A', cap, e, _⟩ := hfw
          rw [e]
          exact ⟨_, _, by simp only [rowv, subv]; rw [show (r + 1) * (2 * c) - r * (2 * c) = 2 * c by omega]⟩) rfl (by omega)) rfl ?_
        have SB : Sl (fun b => w.ownBlock = some b) k8 1 (subv 1 (rowv w (2 * c) r) c (2 * c)) c (bcells ((List.range c).map fun y => M r (c + y))) := by
          have := Sl.sub (bytes_row (Q8.O.1.sl Q8.O.2) hr') (l := c) (hi := 2 * c) (by omega) (by omega)
          rw [show 2 * c - c = c by omega, Nat.mul_one, bcells_drop, bcells_take] at this
          have e3 : (((List.range (2 * c)).map (M r)).drop c).take c = (List.range c).map fun y => M r (c + y) := by
            apply List.ext_getElem?
            intro y
            rw [List.getElem?_take]
            by_cases hy : y < c
            · rw [if_pos hy, List.getElem?_drop]
              simp [hy, show c + y < 2 * c by omega]
            · rw [if_neg hy, List.getElem?_eq_none (by simp; omega)]
          rwa [e3] at this
        refine WF.ef false rfl (Runs.copyO O8.1 SB hn0 (by omega) (by rw [hml6]; omega) rfl rfl (bcells_one _)) rfl (fun q => (nomatch q)) ?_
        rintro _ k9 ⟨rfl, O9, g, hg, hg2, hgv, U9⟩
        refine WF.nil ?_
        refine WC.region ?_
        refine WR.v (RunsV.add rfl rfl (by omega)) rfl ?_
        refine WR.sL rfl rfl (WR.nil ?_)
        rw [bcells_take, bcells_drop, ← bcells_append, ← bcells_append, matL_row _ hr' (by omega), hml6] at O9
        refine ⟨r + 1, ⟨rfl, rfl, rfl, rfl, rfl, rfl, trivial⟩, ⟨hr', Q8.upd2 U9 (by omega) (fun e => O8.ne_blk Q8.B4 (by decide) (e ▸ hgv)) (fun e => O8.ne_blk Q8.B7 (by decide) (e ▸ hgv)) (fun e => by have := hwk g e; omega), B8.upd U9 (fun e => O8.ne_blk B8 (by decide) (e ▸ hgv)), ?_, ?_⟩, by dsimp only; omega⟩
        · rw [matL_congr (B := rowM (outM M c r) r (fun y => M r (c + y)) c) (fun r' y _ hy => by
            unfold outM rowM
            by_cases e3 : r' = r
            · subst e3
              simp [hy]
            · by_cases e4 : r' < r
              · simp [e3, e4, show r' < r + 1 by omega]
              · simp [e3, e4, show ¬ r' < r + 1 by omega])]
          exact ⟨by rw [matL_len]; exact O9, by rw [matL_len]; omega⟩
        · have := X68.size; rw [U9.1]; omega
      · refine WC.exit (exit_hit ?_)
        obtain rfl : r = c := by omega
        refine WC.seq (WC.region ?_)
        refine WR.v (RunsV.ldW B rfl rfl) rfl ?_
        refine WR.stepU (RunsU.stW (vs := mat3 r r x) Q.B4 rfl rfl rfl rfl (mat3_one O.1.one)) ?_
        rintro k7 ⟨B47, U7⟩
        refine WR.sL rfl rfl (WR.nil ?_)
        refine WC.ret ?_
        refine ⟨[_, _], ⟨⟨b4, _, _, rfl, B47, rfl, 3, inferInstance, rfl⟩, rfl, rfl⟩, Q.X.upd U7 (.inl hd4), x, rfl, ?_⟩
        have := (show OB t_uint8 k7 k2.size x _ from ⟨O.1.upd U7 (fun q => O.ne_blk Q.B4 (by decide) q), O.2⟩).rebase (base' := h.size) (by omega)
        rw [matL_congr (B := outM M r r) (fun r' y hr' _ => by simp [outM, hr'])]
        exact this
end Go.Eng
