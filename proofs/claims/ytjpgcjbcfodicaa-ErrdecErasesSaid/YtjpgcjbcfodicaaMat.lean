/- Steps of the proof: lemmas for every input, without conditions but those that each states. -/
import Derived.Test.YtjpgcjbcfodicaaShards
import Derived.Test.YtjpgcjbcfodicaaEngC
set_option linter.unusedSimpArgs false
set_option linter.unusedVariables false
namespace Go.Eng
theorem matL_at (A : Nat → Nat → UInt8) {rows cols p : Nat} (hp : p < rows * cols) : (matL A rows cols)[p]? = some (A (p / cols) (p % cols)) := by
  have hc : 0 < cols := by
    rcases Nat.eq_zero_or_pos cols with e | e
    · subst e; simp at hp
    · exact e
  have h1 : p / cols < rows := Nat.div_lt_of_lt_mul (by rw [Nat.mul_comm]; exact hp)
  have h2 := matL_get A h1 (Nat.mod_lt p hc)
  rwa [Nat.div_add_mod'] at h2
theorem matL_congr {A B : Nat → Nat → UInt8} {rows cols : Nat} (h : ∀ r c, r < rows → c < cols → A r c = B r c) : matL A rows cols = matL B rows cols := by
  apply List.ext_getElem?
  intro p
  by_cases hp : p < rows * cols
  · have hc : 0 < cols := by
      rcases Nat.eq_zero_or_pos cols with e | e
      · subst e; simp at hp
      · exact e
    rw [matL_at A hp, matL_at B hp, h _ _ (Nat.div_lt_of_lt_mul (by rw [Nat.mul_comm]; exact hp)) (Nat.mod_lt p hc)]
  · rw [List.getElem?_eq_none (by rw [matL_len]; omega), List.getElem?_eq_none (by rw [matL_len]; omega)]
theorem place_inj {r r' c c' L : Nat} (h : r * L + c = r' * L + c') (hc : c < L) (hc' : c' < L) : r = r' ∧ c = c' := by
  have h1 : (r * L + c) / L = r := by rw [Nat.mul_comm, Nat.mul_add_div (by omega), Nat.div_eq_of_lt hc]; rfl
  have h2 : (r' * L + c') / L = r' := by rw [Nat.mul_comm, Nat.mul_add_div (by omega), Nat.div_eq_of_lt hc']; rfl
  have : r = r' := by rw [← h1, ← h2, h]
  subst this
  exact ⟨rfl, by omega⟩
theorem place_lt {r c rows cols : Nat} (hr : r < rows) (hc : c < cols) : r * cols + c < rows * cols := by
  have : (r + 1) * cols ≤ rows * cols := Nat.mul_le_mul_right _ hr
  rw [Nat.succ_mul] at this
  omega
def updM (A : Nat → Nat → UInt8) (r c : Nat) (v : UInt8) : Nat → Nat → UInt8 := fun r' c' => if r' = r ∧ c' = c then v else A r' c'
theorem matL_set (A : Nat → Nat → UInt8) {rows cols r c : Nat} (hr : r < rows) (hc : c < cols) (v : UInt8) : (matL A rows cols).set (r * cols + c) v = matL (updM A r c v) rows cols := by
  apply List.ext_getElem?
  intro p
  by_cases hp : p < rows * cols
  · rw [matL_at _ hp, List.getElem?_set, matL_len]
    have hm := Nat.mod_lt p (show 0 < cols by omega)
    have hdm := Nat.div_add_mod' p cols
    by_cases e : r * cols + c = p
    · rw [if_pos e, if_pos (place_lt hr hc)]
      obtain ⟨e1, e2⟩ := place_inj (e.trans hdm.symm) hc hm
      simp [updM, ← e1, ← e2]
    · rw [if_neg e, matL_at _ hp]
      have : ¬ (p / cols = r ∧ p % cols = c) := fun ⟨e1, e2⟩ => e (by rw [← e1, ← e2]; exact hdm)
      simp [updM, this]
  · rw [List.getElem?_eq_none (by rw [List.length_set, matL_len]; omega), List.getElem?_eq_none (by rw [matL_len]; omega)]
theorem cauchy_one_spec {h : Heap} (a b : Nat) : Spec PP f_cauchy_one #[vI a, vI b] h (fun v h' => v = vB (if a = b then 1 else 0) ∧ h' = h) := by
  refine Spec.body (C := c_cauchy_one) [(0, vI a), (1, vI b)] h_cauchy_one rfl rfl rfl ⟨rfl, rfl, trivial⟩ rfl ?_
  refine WC.seq (WC.region ?_)
  refine WR.sL rfl rfl (WR.nil ?_)
  refine WC.seq (WC.seq (WC.region ?_))
  iterate 3 refine WR.s rfl rfl ?_
  refine WR.nil ?_
  refine WC.itep rfl (fun e => ?_) (fun e => ?_)
  · refine WC.seq (WC.region ?_)
    refine WR.sL rfl rfl (WR.nil ?_)
    exact WC.ret ⟨_, rfl, by rw [if_pos (by omega)]; rfl, rfl⟩
  · refine WC.skip ?_
    refine WC.seq (WC.region ?_)
    refine WR.sL rfl rfl (WR.nil ?_)
    exact WC.ret ⟨_, rfl, by rw [if_neg (by omega)]; rfl, rfl⟩
/-- The matrix that makes all shards. -/
def genM (k : Nat) (r c : Nat) : UInt8 := if r < k then (if r = c then 1 else 0) else btw r c
theorem cauchy_Generator_1_spec {S : Nat → Prop} {h : Heap} {b bf bk : Nat} (F : Fld S h b) (Bf : Box h bf t_ptr_gf_Field (ptr b)) (k r c : Nat) (Bk : Box h bk t_int (vI k)) (h1 : r < 256) (h2 : c < 256) :
    Spec PP f_cauchy_Generator_1 #[vI r, vI c, ptr bk, ptr bf] h (fun v h' => v = vB (genM k r c) ∧ h' = h) := by
  refine Spec.body (C := c_cauchy_Generator_1) [(0, vI r), (1, vI c), (2, ptr bk), (3, ptr bf)] h_cauchy_Generator_1 rfl rfl rfl ⟨rfl, rfl, rfl, rfl, trivial⟩ rfl ?_
  refine WC.seq (WC.region ?_)
  refine WR.sL rfl rfl (WR.nil ?_)
  refine WC.seq (WC.seq (WC.region ?_))
  refine WR.s rfl rfl ?_
  refine WR.v (RunsV.ldB Bk rfl) rfl ?_
  refine WR.s rfl rfl (WR.nil ?_)
  refine WC.itep rfl (fun e => ?_) (fun e => ?_)
  · refine WC.seq (WC.region ?_)
    iterate 2 refine WR.s rfl rfl ?_
    refine WR.callT (cauchy_one_spec r c) rfl rfl rfl ?_
    rintro _ _ ⟨rfl, rfl⟩
    refine WR.sL rfl rfl (WR.nil ?_)
    refine WC.ret ⟨_, rfl, ?_, rfl⟩
    unfold genM
    rw [if_pos (show r < k by omega)]
    rfl
  · refine WC.skip ?_
    refine WC.seq (WC.region ?_)
    refine WR.v (RunsV.ldB Bf rfl) rfl ?_
    iterate 2 refine WR.s rfl rfl ?_
    refine WR.callT (cauchy_between_spec F r c h1 h2) rfl rfl rfl ?_
    rintro _ _ ⟨rfl, rfl⟩
    refine WR.sL rfl rfl (WR.nil ?_)
    refine WC.ret ⟨_, rfl, ?_, rfl⟩
    unfold genM
    rw [if_neg (show ¬ r < k by omega)]
    rfl
theorem cauchy_Generator_spec {S : Nat → Prop} {h : Heap} {b : Nat} (F : Fld S h b) (k m : Nat) (hk : 1 ≤ k) (hkm : k + m ≤ 256) :
    Spec PP f_cauchy_Generator #[ptr b, vI k, vI m] h (fun v h' => Ext h h' ∧ ∃ u, v = .tuple #[.agg (mat3 ((k + m : Nat)) k u).toArray, vI 0] ∧ OB t_uint8 h' h.size u (matL (genM k) (k + m) k)) := by
  refine Spec.bodyR (C := c_cauchy_Generator) [(0, ptr b), (1, vI k), (2, vI m)] h_cauchy_Generator rfl rfl rfl ⟨rfl, rfl, rfl, trivial⟩ rfl ?_
  refine WC.seq (WC.region ?_)
  refine WR.stepL (Runs.bx rfl rfl) rfl ?_
  rintro _ h1 ⟨bf, rfl, hbf, Bf, X1⟩
  refine WR.stepL (Runs.bx rfl rfl) rfl ?_
  rintro _ h2 ⟨bk, rfl, hbk, Bk, X2⟩
  refine WR.stepL (Runs.alA (z := zMat)) rfl ?_
  rintro _ h3 ⟨b1, rfl, hb1, B1, X3⟩
  refine WR.sL rfl rfl (WR.nil ?_)
  refine WC.seq (WC.region ?_)
  have Bf3 := (Bf.ext X2).ext X3
  have Bk3 := Bk.ext X3
  have X : Ext h h3 := (X1.trans X2).trans X3
  have F3 := F.ext X
  have e0 : chk k m = 0 := chk_iff.2 (by omega)
  refine WR.v (RunsV.ldB Bf3 rfl) rfl ?_
  refine WR.v (RunsV.ldB Bk3 rfl) rfl ?_
  refine WR.s rfl rfl ?_
  refine WR.v (RunsV.ldB Bk3 rfl) rfl ?_
  refine WR.s rfl rfl ?_
  refine WR.v (RunsV.to (v' := vI ((k + m : Nat))) (RunsV.add rfl rfl (by omega)) (by simp)) rfl ?_
  refine WR.v (RunsV.ldB Bk3 rfl) rfl ?_
  refine WR.s rfl rfl ?_
  refine WR.callT (cauchy_made_spec F3 k m ((k + m : Nat)) k (k + m) k (fun e => by omega) f_cauchy_Generator_1 #[ptr bk, ptr bf] (genM k) ?_) rfl rfl rfl ?_
  · intro e h' X' r c hr hc
    exact cauchy_Generator_1_spec (F3.ext X') (Bf3.ext X') k r c (Bk3.ext X') (by omega) (by omega)
  rintro v h4 ⟨X4, q⟩
  have hs1 := X1.size
  have hs2 := X2.size
  have B4 := B1.ext X4
  rcases q with ⟨e, rfl⟩ | ⟨e, u, rfl, O⟩
  · exact absurd e0 e
  · iterate 2 refine WR.s rfl rfl ?_
    refine WR.stepU (RunsU.stW (vs := mat3 ((k + m : Nat)) k u) B4 rfl rfl rfl rfl (mat3_one O.1.one)) ?_
    rintro h5 ⟨B5, U5⟩
    refine WR.sL rfl rfl (WR.nil ?_)
    have O5 : OB t_uint8 h5 h3.size u (matL (genM k) (k + m) k) := ⟨O.1.upd U5 (fun q => O.ne_blk B4 (by decide) q), O.2⟩
    exact WC.ret ⟨[_, _], ⟨⟨b1, _, _, rfl, B5, rfl, 3, inferInstance, rfl⟩, rfl, rfl⟩, (X.trans X4).upd U5 (.inl (by omega)), u, rfl, O5.rebase X.size⟩
theorem matrix_Check_1_spec {h : Heap} (a : Int) : Spec PP f_matrix_Check_1 #[vI a] h (fun v h' => v = vb (decide (0 ≤ a) && decide (a ≤ 256)) ∧ h' = h) := by
  refine Spec.body (C := c_matrix_Check_1) [(0, vI a)] h_matrix_Check_1 rfl rfl rfl ⟨rfl, trivial⟩ rfl ?_
  refine WC.seq (WC.region ?_)
  refine WR.sL rfl rfl (WR.nil ?_)
  refine WC.seq (WC.region ?_)
  iterate 3 refine WR.s rfl rfl ?_
  refine WG.start rfl rfl ?_
  iterate 2 refine WG.s rfl rfl rfl rfl ?_
  refine WG.and rfl rfl ?_
  refine WR.sL rfl rfl (WR.nil ?_)
  exact WC.ret ⟨_, rfl, rfl, rfl⟩
/-- A matrix that may be passes. -/
theorem matrix_Check_spec {S : Nat → Prop} {h : Heap} (R L : Nat) {u : Value} {l : List UInt8} (B : Bytes S h u l) (hR : R ≤ 256) (hL : L ≤ 256) (hl : l.length = R * L) : Spec PP f_matrix_Check #[.agg (mat3 R L u).toArray] h (fun v h' => v = vI 0 ∧ Ext h h') := by
  refine Spec.body (C := c_matrix_Check) [(0, .agg (mat3 R L u).toArray)] h_matrix_Check rfl rfl rfl ⟨rfl, trivial⟩ rfl ?_
  refine WC.seq (WC.region ?_)
  refine WR.stepL (Runs.bxA _ rfl) rfl ?_
  rintro _ h1 ⟨b1, rfl, hb1, B1, X1⟩
  refine WR.sL rfl rfl (WR.nil ?_)
  refine WC.seq (WC.region ?_)
  refine WR.sL rfl rfl (WR.nil ?_)
  have hRL : R * L ≤ 256 * 256 := Nat.mul_le_mul hR hL
  refine WC.seq (WC.seq (WC.region ?_))
  refine WR.s rfl rfl ?_
  refine WR.v (RunsV.fa0 rfl) rfl ?_
  refine WR.v (RunsV.ldF (v := vI R) B1 rfl rfl) rfl ?_
  refine WR.callT (matrix_Check_1_spec R) rfl rfl rfl ?_
  rintro _ h1 ⟨rfl, rfl⟩
  iterate 2 refine WR.s rfl rfl ?_
  refine WG.start rfl rfl ?_
  refine WG.s rfl rfl rfl rfl ?_
  refine WG.v rfl (fun e => RunsV.fa0 rfl) rfl rfl ?_
  refine WG.v rfl (fun e => RunsV.ldF (v := vI L) B1 rfl rfl) rfl rfl ?_
  refine WG.call rfl (fun _ => matrix_Check_1_spec L) rfl rfl rfl rfl rfl ?_
  refine WG.s rfl rfl rfl rfl ?_
  refine WG.or rfl rfl ?_
  refine WR.s rfl rfl ?_
  refine WG.start rfl rfl ?_
  refine WG.v rfl (fun e => RunsV.fa0 rfl) rfl rfl ?_
  refine WG.v rfl (fun e => RunsV.ldF (v := u) B1 rfl rfl) rfl rfl ?_
  refine WG.v rfl (fun e => RunsV.lenSl (B.ext X1) rfl) rfl rfl ?_
  refine WG.v rfl (fun e => RunsV.fa0 rfl) rfl rfl ?_
  refine WG.v rfl (fun e => RunsV.ldF (v := vI R) B1 rfl rfl) rfl rfl ?_
  refine WG.v rfl (fun e => RunsV.fa0 rfl) rfl rfl ?_
  refine WG.v rfl (fun e => RunsV.ldF (v := vI L) B1 rfl rfl) rfl rfl ?_
  refine WG.v rfl (fun e => RunsV.to (v' := vI ((R * L : Nat))) (RunsV.mul rfl rfl (by rw [← Int.natCast_mul]; omega)) (by simp)) rfl rfl ?_
  refine WG.s rfl rfl rfl rfl ?_
  refine WG.or rfl rfl (WR.nil ?_)
  refine WC.ff rfl (by simp [hl]; omega) (WC.skip ?_)
  refine WC.seq (WC.region ?_)
  refine WR.sL rfl rfl (WR.nil ?_)
  exact WC.ret ⟨_, rfl, rfl, X1⟩
end Go.Eng
namespace Go.Eng
theorem matL_zero (rows cols : Nat) : matL (fun _ _ => 0) rows cols = List.replicate (rows * cols) 0 := by
  apply List.ext_getElem?
  intro p
  by_cases hp : p < rows * cols
  · rw [matL_at _ hp]; simp [hp]
  · rw [List.getElem?_eq_none (by rw [matL_len]; omega), List.getElem?_eq_none (by simp; omega)]
theorem matrix_empty_spec {h : Heap} (R L : Nat) (hR : R ≤ 100000) (hL : L ≤ 100000) : Spec PP f_matrix_empty #[vI R, vI L] h (fun v h' => ∃ u, v = .agg (mat3 R L u).toArray ∧ OB t_uint8 h' h.size u (matL (fun _ _ => 0) R L) ∧ Ext h h') := by
  have hRL : R * L ≤ 100000 * 100000 := Nat.mul_le_mul hR hL
  refine Spec.bodyR (C := c_matrix_empty) [(0, vI R), (1, vI L)] h_matrix_empty rfl rfl rfl ⟨rfl, rfl, trivial⟩ rfl ?_
  refine WC.seq (WC.region ?_)
  refine WR.stepL (Runs.alA (z := zMat)) rfl ?_
  rintro _ h1 ⟨b1, rfl, hb1, B1, X1⟩
  refine WR.nil ?_
  refine WC.seq (WC.region ?_)
  iterate 4 refine WR.s rfl rfl ?_
  refine WR.v (RunsV.to (v' := vI ((R * L : Nat))) (RunsV.mul rfl rfl (by rw [← Int.natCast_mul]; omega)) (by simp)) rfl ?_
  refine WR.stepT (Runs.mk rfl (R * L) rfl rfl (by omega) (by omega)) rfl ?_
  rintro u h2 ⟨O2, hu, X2⟩
  refine WR.v (RunsV.build (mat3 R L u).toArray rfl (by obtain ⟨A, cap, rfl⟩ := O2.form; rfl)) rfl ?_
  have B2 := B1.ext X2
  refine WR.stepU (RunsU.stW (vs := mat3 R L u) B2 rfl rfl rfl rfl (mat3_one O2.one)) ?_
  rintro h3 ⟨B3, U3⟩
  refine WR.nil ?_
  have OO : OB t_uint8 h2 h1.size u (matL (fun _ _ => 0) R L) := ⟨by rw [matL_len, matL_zero, ← bcells_rep]; exact O2, by rw [matL_len]; omega⟩
  exact WC.ret ⟨[_], ⟨⟨b1, _, _, rfl, B3, rfl, 3, inferInstance, rfl⟩, rfl⟩, u, rfl, (show OB t_uint8 h3 h1.size u _ from ⟨OO.1.upd U3 (fun q => OO.ne_blk B2 (by decide) q), OO.2⟩).rebase X1.size, (X1.trans X2).upd U3 (.inl hb1)⟩
/-- A row's place in a matrix. -/
abbrev rowv (u : Value) (L r : Nat) : Value := subv 1 u (r * L) ((r + 1) * L)
theorem matrix_row_spec {h : Heap} (R : Int) (L r n : Nat) {u : Value} (hf : ∃ A cap, u = .slice A n cap ∧ n ≤ cap) (hr : (r + 1) * L ≤ n) (hn : n ≤ 100000000) (hL : L ≤ 100000) (hr2 : r ≤ 100000) : Spec PP f_matrix_row #[.agg (mat3 R L u).toArray, vI r] h (fun v h' => v = rowv u L r ∧ Ext h h') := by
  obtain ⟨A, cap, hu, hcap⟩ := hf
  have u1 : oneCell u = true := by rw [hu]; rfl
  have hrL : r * L ≤ n := by rw [Nat.succ_mul] at hr; omega
  refine Spec.body (C := c_matrix_row) [(0, .agg (mat3 R L u).toArray), (1, vI r)] h_matrix_row rfl rfl rfl ⟨rfl, rfl, trivial⟩ rfl ?_
  refine WC.seq (WC.region ?_)
  refine WR.stepL (Runs.bxA _ rfl) rfl ?_
  rintro _ h1 ⟨b1, rfl, hb1, B1, X1⟩
  refine WR.sL rfl rfl (WR.nil ?_)
  refine WC.seq (WC.region ?_)
  refine WR.v (RunsV.fa0 rfl) rfl ?_
  refine WR.v (RunsV.ldF (v := u) B1 rfl rfl) rfl ?_
  refine WR.s rfl rfl ?_
  refine WR.v (RunsV.fa0 rfl) rfl ?_
  refine WR.v (RunsV.ldF (v := vI L) B1 rfl rfl) rfl ?_
  refine WR.v (RunsV.to (v' := vI ((r * L : Nat))) (RunsV.mul rfl rfl (by rw [← Int.natCast_mul]; omega)) (by simp)) rfl ?_
  refine WR.s rfl rfl ?_
  refine WR.v (RunsV.to (v' := vI ((r + 1 : Nat))) (RunsV.add rfl rfl (by omega)) (by simp)) rfl ?_
  refine WR.v (RunsV.fa0 rfl) rfl ?_
  refine WR.v (RunsV.ldF (v := vI L) B1 rfl rfl) rfl ?_
  refine WR.v (RunsV.to (v' := vI (((r + 1) * L : Nat))) (RunsV.mul rfl rfl (by rw [← Int.natCast_mul]; omega)) (by simp)) rfl ?_
  refine WR.v (RunsV.sub2 (n := n) (r * L) ((r + 1) * L) rfl rfl rfl ⟨A, cap, hu⟩ rfl rfl (Nat.mul_le_mul_right _ (by omega)) (by rw [hu]; exact Nat.le_trans hr hcap)) rfl ?_
  refine WR.sL rfl rfl (WR.nil ?_)
  exact WC.ret ⟨_, rfl, rfl, X1⟩
theorem OB.formc {T : TypeId} {h : Heap} {base : Nat} {v : Value} {l : List UInt8} (o : OB T h base v l) : ∃ A cap, v = .slice A l.length cap ∧ l.length ≤ cap := by
  obtain ⟨A, cap, e⟩ := o.1.form
  have := o.1.cap
  rw [e] at this
  exact ⟨A, cap, e, this⟩
/-- To row r0 is added k times row r1, up to a column. -/
def addM (A : Nat → Nat → UInt8) (r0 r1 : Nat) (k : UInt8) (i : Nat) : Nat → Nat → UInt8 := fun r c => if r = r0 ∧ c < i then A r0 c ^^^ gmul (A r1 c) k else A r c
theorem matrix_adds_spec {S : Nat → Prop} {h : Heap} {f base : Nat} (F : Fld S h f) (hS : ∀ i, S i → i < base) {u : Value} {A : Nat → Nat → UInt8} {R L r0 r1 : Nat} (k : UInt8) (O : OB t_uint8 h base u (matL A R L)) (h0 : r0 < R) (h1 : r1 < R) (hne : r0 ≠ r1) (hR : R ≤ 1000) (hL : L ≤ 1000) :
    Spec PP f_matrix_adds #[ptr f, rowv u L r0, rowv u L r1, vB k] h (fun v h' => v = .tuple #[] ∧ OB t_uint8 h' base u (matL (addM A r0 r1 k L) R L) ∧ Keeps (fun b => u.ownBlock ≠ some b) h h') := by
  have hml := matL_len A R L
  have hRL : R * L ≤ 1000 * 1000 := Nat.mul_le_mul hR hL
  have e1 : ∀ r, (r + 1) * L - r * L = L := fun r => by rw [Nat.succ_mul]; omega
  have hrow : ∀ r, r < R → (r + 1) * L ≤ R * L := fun r hr => Nat.mul_le_mul_right _ hr
  have hrr : ∀ r, r * L ≤ (r + 1) * L := fun r => Nat.mul_le_mul_right _ (by omega)
  have fm : ∀ r, r < R → ∃ A cap, rowv u L r = .slice A L cap := fun r hr => by
    obtain ⟨A', cap, e⟩ := O.1.form
    rw [e]
    exact ⟨_, _, by simp only [subv]; rw [e1]⟩
  have hasr : ∀ r, r < R → 0 < L → Has (rowv u L r) L := fun r hr hl => by
    have Q := Sl.sub (O.1.sl O.2) (hrr r) (by rw [hml]; exact hrow r hr)
    have := Q.has (by rw [e1]; exact hl)
    rwa [e1] at this
  refine Spec.body (C := c_matrix_adds) [(0, ptr f), (1, rowv u L r0), (2, rowv u L r1), (3, vB k)] h_matrix_adds rfl rfl rfl ⟨rfl, rfl, rfl, rfl, trivial⟩ rfl ?_
  refine WC.seq (WC.region ?_)
  refine WR.sL rfl rfl ?_
  refine WR.vL (RunsV.lenF (fm r1 h1) rfl) rfl ?_
  refine WR.sL rfl rfl (WR.nil ?_)
  refine WC.block ?_
  refine WC.loop (σ := Nat) (fun i => [(0, ptr f), (1, rowv u L r0), (3, vB k), (10, rowv u L r1), (11, vI L), (12, vI i)]) (fun i h' => i ≤ L ∧ OB t_uint8 h' base u (matL (addM A r0 r1 k i) R L) ∧ Keeps (fun b => u.ownBlock ≠ some b) h h') (fun i => L - i) 0 (fun _ => rfl)
    ⟨rfl, rfl, rfl, rfl, rfl, rfl, trivial⟩ ⟨by omega, by rw [matL_congr (B := A) (fun r c _ _ => by simp [addM])]; exact O, Keeps.refl _ _⟩ ?_
  rintro i h2 ⟨hi, O2, K2⟩
  have hml2 := matL_len (addM A r0 r1 k i) R L
  refine WC.seq (WC.region ?_)
  refine WR.s rfl rfl (WR.nil ?_)
  refine WC.seq ?_
  refine WC.itep rfl (fun e => ?_) (fun e => ?_)
  · have hi' : i < L := by omega
    have F2 := F.keep K2 (fun b q w => by have := (O.1.blk w).1; have := hS b q; omega)
    have p0 : r0 * L + i < R * L := place_lt h0 hi'
    have p1 : r1 * L + i < R * L := place_lt h1 hi'
    have q0 : eptr (rowv u L r0) i = eptr u (r0 * L + i) := eptr_sub O2.1 (by rw [hml2]; exact hrow r0 h0) (by rw [Nat.succ_mul]; omega)
    have q1 : eptr (rowv u L r1) i = eptr u (r1 * L + i) := eptr_sub O2.1 (by rw [hml2]; exact hrow r1 h1) (by rw [Nat.succ_mul]; omega)
    have c0 : (bcells (matL (addM A r0 r1 k i) R L))[r0 * L + i]? = some (vB (A r0 i)) := by
      rw [bcells, List.getElem?_map, matL_get _ h0 hi']
      simp [addM]
    have c1 : (bcells (matL (addM A r0 r1 k i) R L))[r1 * L + i]? = some (vB (A r1 i)) := by
      rw [bcells, List.getElem?_map, matL_get _ h1 hi']
      simp [addM]
    refine WC.skip ?_
    refine WC.seq (WC.block ?_)
    refine WC.seq (WC.region ?_)
    refine WR.s rfl rfl ?_
    refine WR.v (RunsV.to (v' := eptr u (r1 * L + i)) (RunsV.ix (hasr r1 h1 (by omega)) i hi' rfl rfl rfl) q1) rfl ?_
    refine WR.v (RunsV.ldO O2.1 (by omega) rfl rfl c1) rfl ?_
    iterate 2 refine WR.sL rfl rfl ?_
    refine WR.nil ?_
    refine WC.drawF 10 [(0,0),(0,1),(0,2),(1,3),(0,4),(0,5),(0,6),(2,7),(0,8),(0,9),(3,10)] (same h2) (by decide +kernel) (fun _ _ _ _ _ _ q => q) rfl ?_
    iterate 2 refine WF.s rfl rfl rfl ?_
    refine WF.v rfl (fun _ => RunsV.to (v' := eptr u (r0 * L + i)) (RunsV.ix (hasr r0 h0 (by omega)) i hi' rfl rfl rfl) q0) rfl ?_
    refine WF.rd rfl (RunsV.ldO O2.1 (by omega) rfl rfl c0) rfl ?_
    iterate 3 refine WF.s rfl rfl rfl ?_
    refine WF.call true rfl (gf_Field_Mul_spec F2 (A r1 i) k) rfl rfl rfl rfl (fun _ _ v h' q => q.2) ?_
    rintro _ h2 ⟨rfl, rfl⟩
    refine WF.v rfl (fun _ => RunsV.xorB rfl rfl) rfl ?_
    refine WF.v rfl (fun _ => RunsV.to (v' := eptr u (r0 * L + i)) (RunsV.ix (hasr r0 h0 (by omega)) i hi' rfl rfl rfl) q0) rfl ?_
    refine WF.u rfl (RunsU.stO O2.1 (by omega) rfl rfl rfl) ?_
    rintro h3 ⟨O3, g, hg, hg2, hgv, U3⟩
    refine WF.nil ?_
    refine WC.region ?_
    refine WR.v (RunsV.add rfl rfl (by omega)) rfl ?_
    refine WR.sL rfl rfl (WR.nil ?_)
    have O3' := OB.set O3 O2.2
    rw [matL_set _ h0 hi', matL_congr (B := addM A r0 r1 k (i + 1)) (fun r c _ _ => by
      unfold updM addM
      by_cases e1 : r = r0
      · subst e1
        by_cases e2 : c = i
        · subst e2; simp
        · by_cases e3 : c < i
          · simp [e2, e3, show c < i + 1 by omega]
          · simp [e2, e3, show ¬ c < i + 1 by omega]
      · simp [e1])] at O3'
    exact ⟨i + 1, ⟨rfl, rfl, rfl, rfl, rfl, rfl, trivial⟩, ⟨hi', O3', K2.upd U3 (.inr fun q => q hgv)⟩, by dsimp only; omega⟩
  · refine WC.exit (exit_hit ?_)
    obtain rfl : i = L := by omega
    exact ⟨_, rfl, rfl, O2, K2⟩
end Go.Eng
namespace Go.Eng
theorem Bytes.formc {S : Nat → Prop} {h : Heap} {v : Value} {l : List UInt8} (B : Bytes S h v l) : ∃ A cap, v = .slice A l.length cap ∧ l.length ≤ cap := by
  obtain ⟨_, _, A, cap, e, q, _⟩ := B; exact ⟨A, cap, e, q⟩
/-- A matrix whose row i is another one. -/
def rowM (B : Nat → Nat → UInt8) (i : Nat) (v : Nat → UInt8) (k : Nat) : Nat → Nat → UInt8 := fun r c => if r = i ∧ c < k then v c else B r c
theorem matL_row {B : Nat → Nat → UInt8} {R L i k : Nat} (v : Nat → UInt8) (hi : i < R) (hk : k ≤ L) : (matL B R L).take (i * L) ++ (List.range k).map v ++ (matL B R L).drop (i * L + k) = matL (rowM B i v k) R L := by
  have hle : i * L + L ≤ R * L := by have := Nat.mul_le_mul_right L (show i + 1 ≤ R by omega); rw [Nat.succ_mul] at this; exact this
  have hlt : ((matL B R L).take (i * L)).length = i * L := by rw [List.length_take, matL_len]; omega
  apply List.ext_getElem?
  intro p
  by_cases hp : p < R * L
  · have hL : 0 < L := by
      rcases Nat.eq_zero_or_pos L with e | e
      · subst e; simp at hp
      · exact e
    have hm := Nat.mod_lt p hL
    have hdm := Nat.div_add_mod' p L
    rw [matL_at (rowM B i v k) hp, List.append_assoc, List.getElem?_append, hlt]
    by_cases c1 : p < i * L
    · rw [if_pos c1, List.getElem?_take, if_pos c1, matL_at B hp]
      have : p / L ≠ i := fun e => by rw [e] at hdm; omega
      simp [rowM, this]
    · rw [if_neg c1, List.getElem?_append]
      simp only [List.length_map, List.length_range]
      by_cases c2 : p - i * L < k
      · rw [if_pos c2]
        have e2 := place_inj (r := p / L) (c := p % L) (r' := i) (c' := p - i * L) (L := L) (by omega) hm (by omega)
        simp [rowM, e2.1, e2.2, c2]
      · rw [if_neg c2, List.getElem?_drop, show i * L + k + (p - i * L - k) = p by omega, matL_at B hp]
        have : ¬ (p / L = i ∧ p % L < k) := fun ⟨e1, e2⟩ => by rw [e1] at hdm; omega
        simp [rowM, this]
  · rw [List.getElem?_eq_none (by rw [List.length_append, List.length_append, hlt, List.length_drop, List.length_map, List.length_range, matL_len]; omega), List.getElem?_eq_none (by rw [matL_len]; omega)]
theorem bytes_row {S : Nat → Prop} {h : Heap} {u : Value} {A : Nat → Nat → UInt8} {R L r : Nat} (B : Bytes S h u (matL A R L)) (hr : r < R) : Sl S h 1 (rowv u L r) L (bcells ((List.range L).map (A r))) := by
  have hml := matL_len A R L
  have hle : (r + 1) * L ≤ R * L := Nat.mul_le_mul_right _ (by omega)
  have e1 : (r + 1) * L - r * L = L := by rw [Nat.succ_mul]; omega
  have := Sl.sub B (l := r * L) (hi := (r + 1) * L) (by rw [Nat.succ_mul]; omega) (by rw [hml]; exact hle)
  rw [e1, Nat.mul_one, Nat.mul_one, bcells_drop, bcells_take] at this
  have e2 : ((matL A R L).drop (r * L)).take L = (List.range L).map (A r) := by
    apply List.ext_getElem?
    intro c
    rw [List.getElem?_take]
    by_cases hc : c < L
    · rw [if_pos hc, List.getElem?_drop, matL_get A hr hc]
      simp [hc]
    · rw [if_neg hc, List.getElem?_eq_none (by simp; omega)]
  rwa [e2] at this
/-- Some rows of a matrix, so far. -/
def pickM (A : Nat → Nat → UInt8) (rows : List Nat) (i : Nat) : Nat → Nat → UInt8 := fun r c => if r < i then A (rows.getD r 0) c else 0
theorem matrix_Pick_spec {S T : Nat → Prop} {h : Heap} {u rv : Value} {A : Nat → Nat → UInt8} {R L : Nat} {rows : List Nat} (B : Bytes S h u (matL A R L)) (I : Ints T h rv (rows.map fun r : Nat => (r : Int))) (hrows : ∀ r ∈ rows, r < R) (hn : rows.length ≤ 256) (hR : R ≤ 256) (hL : L ≤ 256) (hL0 : 0 < L) :
    Spec PP f_matrix_Pick #[.agg (mat3 R L u).toArray, rv] h (fun v h' => Ext h h' ∧ ∃ w, v = .tuple #[.agg (mat3 rows.length L w).toArray, vI 0] ∧ OB t_uint8 h' h.size w (matL (pickM A rows rows.length) rows.length L)) := by
  have hml := matL_len A R L
  have hRL : R * L ≤ 256 * 256 := Nat.mul_le_mul hR hL
  have hnL : rows.length * L ≤ 256 * 256 := Nat.mul_le_mul hn hL
  have hI : Sl T h 1 rv rows.length (icells (rows.map fun r : Nat => (r : Int))) := by have := I; unfold Ints at this; rwa [List.length_map] at this
  refine Spec.bodyR (C := c_matrix_Pick) [(0, .agg (mat3 R L u).toArray), (1, rv)] h_matrix_Pick rfl rfl rfl ⟨rfl, rfl, trivial⟩ rfl ?_
  refine WC.seq (WC.region ?_)
  refine WR.stepL (Runs.bxA _ rfl) rfl ?_
  rintro _ h1 ⟨b2, rfl, hb2, B2, X1⟩
  refine WR.stepL (Runs.alA (z := zMat)) rfl ?_
  rintro _ h2 ⟨b4, rfl, hb4, B4, X2⟩
  refine WR.sL rfl rfl (WR.nil ?_)
  have X02 := X1.trans X2
  refine WC.seq (WC.seq (WC.region ?_))
  refine WR.v (RunsV.ldW (B2.ext X2) rfl rfl) rfl ?_
  refine WR.callT (matrix_Check_spec R L (B.ext X02) hR hL hml) rfl rfl rfl ?_
  rintro _ h3 ⟨rfl, X3⟩
  iterate 2 refine WR.s rfl rfl ?_
  refine WG.start rfl rfl ?_
  refine WG.s rfl rfl rfl rfl ?_
  refine WG.v rfl (fun e => RunsV.lenSl (hI.ext (X02.trans X3)) rfl) rfl rfl ?_
  refine WG.s rfl rfl rfl rfl ?_
  refine WG.or rfl rfl (WR.nil ?_)
  refine WC.ff rfl (by simp; omega) (WC.skip ?_)
  have X03 := X02.trans X3
  have B23 := (B2.ext X2).ext X3
  have B43 := B4.ext X3
  refine WC.seq (WC.region ?_)
  refine WR.s rfl rfl ?_
  refine WR.v (RunsV.lenSl (hI.ext X03) rfl) rfl ?_
  refine WR.v (RunsV.fa0 rfl) rfl ?_
  refine WR.v (RunsV.ldF (v := vI L) B23 rfl rfl) rfl ?_
  refine WR.callT (matrix_empty_spec rows.length L (by omega) (by omega)) rfl rfl rfl ?_
  rintro _ h4 ⟨w, rfl, Ow, X4⟩
  refine WR.stepL (Runs.alA (z := zMat)) rfl ?_
  rintro _ h5 ⟨b6, rfl, hb6, B6, X5⟩
  refine WR.stepU (RunsU.stW (vs := mat3 rows.length L w) B6 rfl rfl rfl rfl (mat3_one Ow.1.one)) ?_
  rintro h6 ⟨B66, U6⟩
  have X46 : Ext h4 h6 := X5.upd U6 (.inl hb6)
  have X36 := X4.trans X46
  have X06 := X03.trans X36
  have B26 := B23.ext X36
  have B46 := B43.ext X36
  have hs1 := X03.size
  have Ow6 := (Ow.ext X46)
  have hs1' := X1.size
  have hs2 := X2.size
  have hs3 := X3.size
  have hd46 : b4 < h3.size := B43.lt
  clear B2 B4 B6 X1 X2 X3 X4 X5 U6 hb2
  refine WR.nil ?_
  refine WC.seq (WC.seq (WC.region ?_))
  refine WR.sL rfl rfl ?_
  refine WR.vL (RunsV.lenSl (hI.ext X06) rfl) rfl ?_
  refine WR.sL rfl rfl (WR.nil ?_)
  refine WC.block ?_
  refine WC.loop (σ := Nat) (fun i => [(2, ptr b2), (4, ptr b4), (6, ptr b6), (23, rv), (24, vI rows.length), (25, vI i)])
    (fun i h' => i ≤ rows.length ∧ Ext h h' ∧ Blk h' b2 (mat3 R L u) t_api_Matrix ∧ Blk h' b4 zMat t_api_Matrix ∧ Blk h' b6 (mat3 rows.length L w) t_api_Matrix ∧ OB t_uint8 h' h3.size w (matL (pickM A rows i) rows.length L)) (fun i => rows.length - i) 0 (fun _ => rfl)
    ⟨rfl, rfl, rfl, rfl, rfl, rfl, trivial⟩ ⟨by omega, X06, B26, B46, B66, by rw [matL_congr (B := fun _ _ => 0) (fun r c _ _ => by simp [pickM])]; exact Ow6⟩ ?_
  clear X06 B26 B46 B66 Ow6 Ow X36 X46
  rintro i k1 ⟨hi, X, C2, C4, C6, Ow⟩
  refine WC.seq (WC.region ?_)
  refine WR.s rfl rfl (WR.nil ?_)
  refine WC.seq ?_
  refine WC.itep rfl (fun e => ?_) (fun e => ?_)
  · have hi' : i < rows.length := by omega
    have hI1 := hI.ext X
    have hri := hrows _ (List.getElem_mem hi')
    have B1 := B.ext X
    have hmw := matL_len (pickM A rows i) rows.length L
    refine WC.skip ?_
    refine WC.seq (WC.block ?_)
    refine WC.seq (WC.region ?_)
    refine WR.s rfl rfl ?_
    refine WR.v (RunsV.ix (hI1.has (by omega)) i hi' rfl rfl rfl) rfl ?_
    refine WR.v (RunsV.ldE hI1 (by omega) rfl rfl (y := vI rows[i]) (by rw [icells_get (by simpa using hi')]; simp)) rfl ?_
    iterate 2 refine WR.sL rfl rfl ?_
    refine WR.nil ?_
    refine WC.seq (WC.seq (WC.region ?_))
    iterate 3 refine WR.s rfl rfl ?_
    refine WG.start rfl rfl ?_
    refine WG.s rfl rfl rfl rfl ?_
    refine WG.v rfl (fun e => RunsV.fa0 rfl) rfl rfl ?_
    refine WG.v rfl (fun e => RunsV.ldF (v := vI R) C2 rfl rfl) rfl rfl ?_
    refine WG.s rfl rfl rfl rfl ?_
    refine WG.or rfl rfl (WR.nil ?_)
    refine WC.ff rfl (by simp; omega) (WC.skip ?_)
    have hrow : (i + 1) * L ≤ rows.length * L := Nat.mul_le_mul_right _ (by omega)
    have hrow2 : (rows[i] + 1) * L ≤ R * L := Nat.mul_le_mul_right _ (by omega)
    have e1 : (i + 1) * L = i * L + L := Nat.succ_mul i L
    refine WC.drawF 6 [(1,0),(0,1),(1,3),(0,4),(2,2),(2,5),(3,6)] (fun h' => Ext k1 h') (by decide +kernel) (fun _ _ _ _ _ _ q => q) (Ext.refl _) ?_
    refine WF.q rfl (fun h' s => RunsV.ldW (C6.ext s) rfl rfl) rfl ?_
    refine WF.s rfl rfl rfl ?_
    refine WF.q rfl (fun h' s => RunsV.ldW (C2.ext s) rfl rfl) rfl ?_
    refine WF.s rfl rfl rfl ?_
    refine WF.call true rfl (matrix_row_spec rows.length L i (rows.length * L) (by have := Ow.formc; rwa [hmw] at this) hrow (by omega) (by omega) (by omega)) rfl rfl rfl rfl (fun _ s v h' q => s.trans q.2) ?_
    rintro _ k2 ⟨rfl, X2⟩
    refine WF.call true rfl (matrix_row_spec R L rows[i] (R * L) (by have := Bytes.formc B1; rwa [hml] at this) hrow2 (by omega) (by omega) (by omega)) rfl rfl rfl rfl (fun _ s v h' q => s.trans q.2) ?_
    rintro _ k3 ⟨rfl, X3⟩
    have X13 := X2.trans X3
    have Ow3 := Ow.ext X13
    refine WF.ef false rfl (Runs.copyO Ow3.1 (bytes_row (B1.ext X13) hri) hL0 (by omega) (by omega) rfl rfl (bcells_one _)) rfl (fun q => (nomatch q)) ?_
    rintro _ k4 ⟨rfl, O4, g, hg, hg2, hgv, U4⟩
    refine WF.nil ?_
    refine WC.region ?_
    refine WR.v (RunsV.add rfl rfl (by omega)) rfl ?_
    refine WR.sL rfl rfl (WR.nil ?_)
    have nb : ∀ {b : Nat} {cs : List Value}, Blk k3 b cs t_api_Matrix → b ≠ g := fun K q => Ow3.ne_blk K (by decide) (q ▸ hgv)
    have C23 := C2.ext X13
    have C43 := C4.ext X13
    have C63 := C6.ext X13
    refine ⟨i + 1, ⟨rfl, rfl, rfl, rfl, rfl, rfl, trivial⟩, ⟨hi', (X.trans X13).upd U4 (.inl (by omega)), C23.upd U4 (nb C23), C43.upd U4 (nb C43), C63.upd U4 (nb C63), ?_⟩, by dsimp only; omega⟩
    rw [bcells_take, bcells_drop, ← bcells_append, ← bcells_append, matL_row _ hi' (Nat.le_refl _), hmw] at O4
    rw [matL_congr (B := rowM (pickM A rows i) i (A rows[i]) L) (fun r c _ hc => by
      unfold pickM rowM
      by_cases e2 : r = i
      · subst e2
        simp [hc, hi']
      · by_cases e3 : r < i
        · simp [e2, e3, show r < i + 1 by omega]
        · simp [e2, e3, show ¬ r < i + 1 by omega])]
    exact ⟨by rw [matL_len]; exact O4, by rw [matL_len]; omega⟩
  · refine WC.exit (exit_hit ?_)
    obtain rfl : i = rows.length := by omega
    refine WC.seq (WC.region ?_)
    refine WR.v (RunsV.ldW C6 rfl rfl) rfl ?_
    refine WR.stepU (RunsU.stW (vs := mat3 rows.length L w) C4 rfl rfl rfl rfl (mat3_one Ow.1.one)) ?_
    rintro k2 ⟨C42, U2⟩
    refine WR.sL rfl rfl (WR.nil ?_)
    refine WC.ret ⟨[_, _], ⟨⟨b4, _, _, rfl, C42, rfl, 3, inferInstance, rfl⟩, rfl, rfl⟩, X.upd U2 (.inl (by omega)), w, rfl, ?_⟩
    exact (show OB t_uint8 k2 h3.size w _ from ⟨Ow.1.upd U2 (fun q => Ow.ne_blk C4 (by decide) q), Ow.2⟩).rebase (by omega)
end Go.Eng
