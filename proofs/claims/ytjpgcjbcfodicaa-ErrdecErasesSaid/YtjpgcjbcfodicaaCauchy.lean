/- Steps of the proof: lemmas for every input, without conditions but those that each states. -/
import Derived.Test.YtjpgcjbcfodicaaPoly
set_option linter.unusedSimpArgs false
set_option linter.unusedVariables false
namespace Go.Eng
def chk (k m : Int) : Int := if k < 1 ∨ m < 0 ∨ 256 < k ∨ 256 - k < m then 50 else 0
theorem chk_ok {k m : Int} (h : chk k m = 0) : 1 ≤ k ∧ 0 ≤ m ∧ k + m ≤ 256 := by
  unfold chk at h
  split at h <;> omega
theorem chk_iff {k m : Int} : chk k m = 0 ↔ 1 ≤ k ∧ 0 ≤ m ∧ k + m ≤ 256 := by
  unfold chk
  split <;> omega
theorem chk_two (k m : Int) : chk k m = 0 ∨ chk k m = 50 := by unfold chk; split <;> simp
theorem cauchy_Check_spec {h : Heap} (k m : Int) : Spec PP f_cauchy_Check #[vI k, vI m] h (fun v h' => v = vI (chk k m) ∧ h' = h) := by
  refine Spec.body (C := c_cauchy_Check) [(0, vI k), (1, vI m)] h_cauchy_Check rfl rfl rfl ⟨rfl, rfl, trivial⟩ rfl ?_
  refine WC.seq (WC.region ?_)
  refine WR.sL rfl rfl (WR.nil ?_)
  refine WC.seq (WC.seq (WC.region ?_))
  iterate 3 refine WR.s rfl rfl ?_
  refine WG.start rfl rfl ?_
  iterate 2 refine WG.s rfl rfl rfl rfl ?_
  refine WG.or rfl rfl ?_
  refine WR.s rfl rfl ?_
  refine WG.start rfl rfl ?_
  iterate 2 refine WG.s rfl rfl rfl rfl ?_
  refine WG.or rfl rfl ?_
  refine WR.s rfl rfl ?_
  refine WG.start rfl rfl ?_
  iterate 2 refine WG.s rfl rfl rfl rfl ?_
  refine WG.v rfl (fun e => RunsV.sub rfl rfl (by simp at e; omega)) rfl rfl ?_
  refine WG.s rfl rfl rfl rfl ?_
  refine WG.or rfl rfl ?_
  refine WR.nil ?_
  refine WC.ite rfl (fun e => ?_) (fun e => ?_)
  · refine WC.seq (WC.region ?_)
    refine WR.sL rfl rfl (WR.nil ?_)
    refine WC.ret ⟨_, rfl, ?_, rfl⟩
    simp at e
    unfold chk
    rw [if_pos (by omega)]; rfl
  · refine WC.skip ?_
    refine WC.seq (WC.region ?_)
    refine WR.sL rfl rfl (WR.nil ?_)
    refine WC.ret ⟨_, rfl, ?_, rfl⟩
    simp at e
    unfold chk
    rw [if_neg (by omega)]; rfl
/-- The inverse of two points' sum. -/
def btw (a b : Nat) : UInt8 := ginv (UInt8.ofNat (a ^^^ b))
theorem xor_lt256 {a b : Nat} (ha : a < 256) (hb : b < 256) : a ^^^ b < 256 := Nat.xor_lt_two_pow (n := 8) ha hb
theorem cauchy_between_spec {S : Nat → Prop} {h : Heap} {b : Nat} (F : Fld S h b) (x y : Nat) (hx : x < 256) (hy : y < 256) : Spec PP f_cauchy_between #[ptr b, vI x, vI y] h (fun v h' => v = vB (btw x y) ∧ h' = h) := by
  refine Spec.body (C := c_cauchy_between) [(0, ptr b), (1, vI x), (2, vI y)] h_cauchy_between rfl rfl rfl ⟨rfl, rfl, rfl, trivial⟩ rfl ?_
  refine WC.seq (WC.region ?_)
  refine WR.sL rfl rfl (WR.nil ?_)
  refine WC.seq (WC.region ?_)
  iterate 3 refine WR.s rfl rfl ?_
  refine WR.v (RunsV.xorN rfl rfl (by omega) (by omega)) rfl ?_
  refine WR.v (RunsV.cvB rfl) rfl ?_
  refine WR.callT (gf_Field_Inv_spec F _) rfl rfl rfl ?_
  rintro _ _ ⟨rfl, rfl⟩
  iterate 3 refine WR.s rfl rfl ?_
  refine WR.sL rfl rfl ?_
  refine WR.s rfl rfl (WR.nil ?_)
  refine WC.seq (WC.region ?_)
  refine WR.s rfl rfl ?_
  refine WR.sL rfl rfl (WR.nil ?_)
  refine WC.ret ⟨_, rfl, ?_, rfl⟩
  rw [toB_nat _ (xor_lt256 hx hy)]
  rfl
theorem OB.snoc {T : TypeId} {h : Heap} {base : Nat} {v : Value} {l : List UInt8} {x : UInt8} (o : Own h base T 1 v (l.length + 1) (bcells l ++ [vB x])) (hl : l.length + 1 ≤ 140737488355328) : OB T h base v (l ++ [x]) := by
  refine ⟨?_, by rw [List.length_append]; simpa using hl⟩
  rw [bcells_append, List.length_append]
  exact o
/-- A matrix, row by row. -/
def matL (A : Nat → Nat → UInt8) (rows cols : Nat) : List UInt8 := (List.range rows).flatMap fun r => (List.range cols).map (A r)
theorem matL_succ (A : Nat → Nat → UInt8) (r cols : Nat) : matL A (r + 1) cols = matL A r cols ++ (List.range cols).map (A r) := by
  simp [matL, List.range_succ, List.flatMap_append]
theorem matL_len (A : Nat → Nat → UInt8) (r cols : Nat) : (matL A r cols).length = r * cols := by
  induction r with
  | zero => simp [matL]
  | succ r ih => rw [matL_succ, List.length_append, ih]; simp [Nat.succ_mul]
theorem matL_get (A : Nat → Nat → UInt8) {cols : Nat} : ∀ {rows r c : Nat}, r < rows → c < cols → (matL A rows cols)[r * cols + c]? = some (A r c)
  | 0, _, _, h, _ => absurd h (by omega)
  | rows + 1, r, c, h, hc => by
    rw [matL_succ]
    by_cases e : r = rows
    · subst e
      rw [List.getElem?_append_right (by rw [matL_len]; omega), matL_len]
      simp [hc]
    · have h1 : r * cols + c < rows * cols := by
        have : (r + 1) * cols ≤ rows * cols := Nat.mul_le_mul_right _ (by omega)
        rw [Nat.succ_mul] at this
        omega
      rw [List.getElem?_append_left (by rw [matL_len]; exact h1)]
      exact matL_get A (by omega) hc
abbrev zMat : List Value := [vI 0, vI 0, .slice none 0 0]
theorem OB.ne_blk {h : Heap} {base : Nat} {T B : TypeId} {v : Value} {l : List UInt8} (o : OB T h base v l) {b : Nat} {cs : List Value} (k : Blk h b cs B) (ne : T ≠ B) : v.ownBlock ≠ some b := o.1.ne_blk k ne
theorem cauchy_made_spec {S : Nat → Prop} {h : Heap} {b : Nat} (F : Fld S h b) (k m R L : Int) (rows cols : Nat) (hrc : chk k m = 0 → R = rows ∧ L = cols ∧ rows ≤ 256 ∧ cols ≤ 256) (g : FuncId) [q : Fun PP g] (cap : Array Value) (A : Nat → Nat → UInt8)
    (hat : chk k m = 0 → ∀ h', Ext h h' → ∀ r c, r < rows → c < cols → Spec PP g (#[vI r, vI c] ++ cap) h' (fun v h'' => v = vB (A r c) ∧ h'' = h')) :
    Spec PP f_cauchy_made #[ptr b, vI k, vI m, vI R, vI L, .func (.func g) #[] cap] h (fun v h' => Ext h h' ∧
      ((chk k m ≠ 0 ∧ v = .tuple #[.agg zMat.toArray, vI (chk k m)]) ∨
       (chk k m = 0 ∧ ∃ u, v = .tuple #[.agg #[vI rows, vI cols, u], vI 0] ∧ OB t_uint8 h' h.size u (matL A rows cols)))) := by
  refine Spec.bodyR (C := c_cauchy_made) [(0, ptr b), (1, vI k), (2, vI m), (3, vI R), (4, vI L), (5, .func (.func g) #[] cap)] h_cauchy_made rfl rfl rfl ⟨rfl, rfl, rfl, rfl, rfl, rfl, trivial⟩ rfl ?_
  refine WC.seq (WC.region ?_)
  refine WR.stepL (Runs.alA (z := zMat)) rfl ?_
  rintro _ h1 ⟨b1, rfl, hb1, B1, X1⟩
  refine WR.sL rfl rfl (WR.nil ?_)
  refine WC.seq (WC.seq (WC.region ?_))
  refine WR.s rfl rfl ?_
  refine WR.v (RunsV.eqNil rfl rfl) rfl (WR.nil ?_)
  refine WC.f rfl ?_
  refine WC.skip ?_
  refine WC.seq (WC.seq (WC.region ?_))
  iterate 2 refine WR.s rfl rfl ?_
  refine WR.callT (cauchy_Check_spec k m) rfl rfl rfl ?_
  rintro _ _ ⟨rfl, rfl⟩
  refine WR.sL rfl rfl (WR.nil ?_)
  refine WC.seq (WC.region ?_)
  iterate 2 refine WR.s rfl rfl ?_
  refine WR.nil ?_
  refine WC.itep rfl (fun e => ?_) (fun e => ?_)
  · refine WC.seq (WC.region ?_)
    refine WR.v (RunsV.build zMat.toArray rfl rfl) rfl ?_
    refine WR.s rfl rfl ?_
    refine WR.stepU (RunsU.stW B1 rfl rfl rfl rfl rfl) ?_
    rintro h2 ⟨B2, U2⟩
    refine WR.sL rfl rfl (WR.nil ?_)
    refine WC.ret ⟨[_, _], ⟨⟨b1, _, _, rfl, B2, rfl, 3, inferInstance, rfl⟩, rfl, rfl⟩, X1.upd U2 (.inl hb1), .inl ⟨e, rfl⟩⟩
  · refine WC.skip ?_
    have e0 : chk k m = 0 := by simpa using e
    obtain ⟨rfl, rfl, hr, hcl⟩ := hrc e0
    refine WC.seq (WC.region ?_)
    iterate 2 refine WR.s rfl rfl ?_
    refine WR.v (RunsV.build (List.toArray [vI rows, vI cols, .slice none 0 0]) rfl rfl) rfl ?_
    refine WR.stepL (Runs.alA (z := zMat)) rfl ?_
    rintro _ h2 ⟨b2, rfl, hb2, B2, X2⟩
    refine WR.stepU (RunsU.stW (vs := [vI rows, vI cols, .slice none 0 0]) B2 rfl rfl rfl rfl rfl) ?_
    rintro h3 ⟨B3, U3⟩
    have hne : b1 ≠ b2 := by have := B1.lt; omega
    have X3 : Ext h h3 := (X1.trans X2).upd U3 (.inl (by have := X1.size; omega))
    have C3 : Blk h3 b1 zMat t_api_Matrix := (B1.ext X2).upd U3 hne
    have hb2' : h.size ≤ b2 := by have := X1.size; omega
    clear B1 B2 X1 X2 U3 hb2
    refine WR.nil ?_
    have hz : OB t_uint8 h3 h.size (.slice none 0 0) (matL A 0 cols) := OB.nil _ _ _
    have hb12 : ∀ h' va l, OB t_uint8 h' h.size va l → Blk h' b2 [vI rows, vI cols, va] t_api_Matrix → Blk h' b1 zMat t_api_Matrix → ∀ i, i = b1 ∨ i = b2 → va.ownBlock ≠ some i := by
      rintro h' va l o k1 k2 i (rfl | rfl)
      · exact o.ne_blk k2 (by decide)
      · exact o.ne_blk k1 (by decide)
    refine WC.seq (WC.seq (WC.region ?_))
    iterate 2 refine WR.sL rfl rfl ?_
    refine WR.nil ?_
    refine WC.block ?_
    refine WC.loop (σ := Nat) (fun r => [(4, vI cols), (5, .func (.func g) #[] cap), (12, ptr b1), (15, ptr b2), (31, vI rows), (32, vI r)])
      (fun r h' => r ≤ rows ∧ Ext h h' ∧ Blk h' b1 zMat t_api_Matrix ∧ ∃ va, Blk h' b2 [vI rows, vI cols, va] t_api_Matrix ∧ OB t_uint8 h' h.size va (matL A r cols)) (fun r => rows - r) 0 (fun _ => rfl)
      ⟨rfl, rfl, rfl, rfl, rfl, rfl, trivial⟩ ⟨by omega, X3, C3, _, B3, hz⟩ ?_
    clear X3 C3 B3 hz
    rintro r h1 ⟨hr1, X, C, va, B, O⟩
    refine WC.seq (WC.region ?_)
    refine WR.s rfl rfl (WR.nil ?_)
    refine WC.seq ?_
    refine WC.itep rfl (fun e => ?_) (fun e => ?_)
    · refine WC.skip ?_
      refine WC.seq (WC.block ?_)
      refine WC.seq (WC.region ?_)
      refine WR.s rfl rfl ?_
      refine WR.sL rfl rfl (WR.nil ?_)
      refine WC.seq (WC.region ?_)
      iterate 2 refine WR.sL rfl rfl ?_
      refine WR.nil ?_
      refine WC.block ?_
      refine WC.loop (σ := Nat) (fun c => [(4, vI cols), (5, .func (.func g) #[] cap), (12, ptr b1), (15, ptr b2), (31, vI rows), (32, vI r), (16, vI r), (35, vI cols), (36, vI c)])
        (fun c h' => c ≤ cols ∧ Ext h h' ∧ Blk h' b1 zMat t_api_Matrix ∧ ∃ va, Blk h' b2 [vI rows, vI cols, va] t_api_Matrix ∧ OB t_uint8 h' h.size va (matL A r cols ++ (List.range c).map (A r))) (fun c => cols - c) 0 (fun _ => rfl)
        ⟨rfl, rfl, rfl, rfl, rfl, rfl, rfl, rfl, rfl, trivial⟩ ⟨by omega, X, C, va, B, by simpa using O⟩ ?_
      clear X C B O va
      rintro c h1 ⟨hc1, X, C, va, B, O⟩
      refine WC.seq (WC.region ?_)
      refine WR.s rfl rfl (WR.nil ?_)
      refine WC.seq ?_
      refine WC.itep rfl (fun e2 => ?_) (fun e2 => ?_)
      · refine WC.skip ?_
        refine WC.seq (WC.block ?_)
        refine WC.seq (WC.region ?_)
        refine WR.s rfl rfl ?_
        refine WR.sL rfl rfl (WR.nil ?_)
        refine WC.drawE 9 [(false,0),(false,1),(false,2),(false,3),(false,4),(true,5),(true,6),(true,7),(false,8),(true,9)] (fun h' => Blk h' b2 [vI rows, vI cols, va] t_api_Matrix) (by decide +kernel) (fun _ _ _ _ _ _ q => q) B ?_
        refine WQ.q rfl (fun h' s => RunsV.fa0 rfl) rfl ?_
        refine WQ.q rfl (fun h' s => RunsV.ldF (v := va) s rfl rfl) rfl ?_
        iterate 3 refine WQ.s rfl rfl rfl ?_
        refine WQ.callC rfl (hat e0 h1 X r c (by omega) (by omega)) rfl rfl rfl rfl (fun _ s v h' q => q.2 ▸ s) (by omega) ?_
        rintro _ h1 ⟨rfl, rfl⟩
        refine WQ.ef true rfl (Runs.bs1 rfl rfl rfl) rfl (fun _ s v h' q => by rw [q.2]; exact s.ext ((Ext.refl _).push _)) (by omega) ?_
        rintro _ _ ⟨rfl, rfl⟩
        have hsz := X.size
        have hl : (matL A r cols ++ (List.range c).map (A r)).length ≤ 65536 := by
          rw [List.length_append, matL_len]
          have : r * cols ≤ 255 * 256 := Nat.mul_le_mul (by omega) hcl
          simp; omega
        have O1 := O.ext ((Ext.refl h1).push (.cells #[vB (A r c)] t_uint8 (0, 0)))
        refine WQ.ef true rfl (Runs.ap O1.1 (by simp; omega) Sl.one rfl rfl rfl (by omega) (by intro u hu; simp at hu; subst hu; rfl) (by omega) (by omega)) rfl
          (fun _ s v h' q => s.keep q.2.1 (O1.ne_blk s (by decide))) (by omega) ?_
        rintro v2 h2 ⟨O2, K2, -⟩
        have B1 := B.ext ((Ext.refl h1).push (.cells #[vB (A r c)] t_uint8 (0, 0)))
        have B2 := B1.keep K2 (O1.ne_blk B1 (by decide))
        have C1 := C.ext ((Ext.refl h1).push (.cells #[vB (A r c)] t_uint8 (0, 0)))
        have C2 := C1.keep K2 (O1.ne_blk C1 (by decide))
        have X2 : Ext h h2 := Keeps.own (X.push _) O1.1 (Nat.le_refl _) K2
        refine WQ.q rfl (fun h' s => RunsV.fa0 rfl) rfl ?_
        refine WQ.u rfl (RunsU.stF B2 rfl rfl (by simp) (by exact Own.one O2)) (fun q => absurd rfl q) (fun _ => rfl) ?_
        rintro h3 ⟨B3, U3⟩
        refine WQ.nil ?_
        refine WC.region ?_
        refine WR.v (RunsV.add rfl rfl (by omega)) rfl ?_
        refine WR.sL rfl rfl (WR.nil ?_)
        refine ⟨c + 1, ⟨rfl, rfl, rfl, rfl, rfl, rfl, rfl, rfl, rfl, trivial⟩, ⟨by omega, X2.upd U3 (.inl hb2'), C2.upd U3 hne, v2, B3, ?_⟩, by dsimp only; omega⟩
        have e4 : matL A r cols ++ (List.range (c + 1)).map (A r) = (matL A r cols ++ (List.range c).map (A r)) ++ [A r c] := by simp [List.range_succ]
        rw [e4]
        exact OB.snoc (O2.upd U3 (fun q => O2.ne_blk B2 (by decide) q)) (by omega)
      · refine WC.exit (exit_hit ?_)
        refine WC.region ?_
        refine WR.v (RunsV.add rfl rfl (by omega)) rfl ?_
        refine WR.sL rfl rfl (WR.nil ?_)
        obtain rfl : c = cols := by omega
        refine ⟨r + 1, ⟨rfl, rfl, rfl, rfl, rfl, rfl, trivial⟩, ⟨by omega, X, C, va, B, ?_⟩, by dsimp only; omega⟩
        rw [matL_succ]; exact O
    · refine WC.exit (exit_hit ?_)
      obtain rfl : r = rows := by omega
      refine WC.seq (WC.region ?_)
      refine WR.v (RunsV.ldW B rfl rfl) rfl ?_
      refine WR.stepU (RunsU.stW C rfl rfl rfl rfl (by show (oneCell (vI r) && (oneCell (vI cols) && (oneCell va && true))) = true; rw [O.1.one]; rfl)) ?_
      rintro h2 ⟨C2, U2⟩
      refine WR.sL rfl rfl (WR.nil ?_)
      refine WC.ret ⟨[_, _], ⟨⟨b1, _, _, rfl, C2, rfl, 3, inferInstance, rfl⟩, rfl, rfl⟩, X.upd U2 (.inl hb1), .inr ⟨e0, va, rfl, ⟨O.1.upd U2 (fun q => O.ne_blk C (by decide) q), O.2⟩⟩⟩
theorem cauchy_Parity_1_spec {S : Nat → Prop} {h : Heap} {b bf bk : Nat} (F : Fld S h b) (Bf : Box h bf t_ptr_gf_Field (ptr b)) (k r c : Nat) (Bk : Box h bk t_int (vI k)) (h1 : k + r < 256) (h2 : c < 256) :
    Spec PP f_cauchy_Parity_1 #[vI r, vI c, ptr bf, ptr bk] h (fun v h' => v = vB (btw (k + r) c) ∧ h' = h) := by
  refine Spec.body (C := c_cauchy_Parity_1) [(0, vI r), (1, vI c), (2, ptr bf), (3, ptr bk)] h_cauchy_Parity_1 rfl rfl rfl ⟨rfl, rfl, rfl, rfl, trivial⟩ rfl ?_
  refine WC.seq (WC.region ?_)
  refine WR.sL rfl rfl (WR.nil ?_)
  refine WC.seq (WC.region ?_)
  refine WR.v (RunsV.ldB Bf rfl) rfl ?_
  refine WR.v (RunsV.ldB Bk rfl) rfl ?_
  refine WR.s rfl rfl ?_
  refine WR.v (RunsV.to (v' := vI ((k + r : Nat))) (RunsV.add rfl rfl (by omega)) (by simp)) rfl ?_
  refine WR.s rfl rfl ?_
  refine WR.callT (cauchy_between_spec F (k + r) c h1 h2) rfl rfl rfl ?_
  rintro _ _ ⟨rfl, rfl⟩
  refine WR.sL rfl rfl (WR.nil ?_)
  exact WC.ret ⟨_, rfl, rfl, rfl⟩
/-- What makes parity shards. -/
abbrev par (k : Nat) (r c : Nat) : UInt8 := btw (k + r) c
theorem cauchy_Parity_spec {S : Nat → Prop} {h : Heap} {b : Nat} (F : Fld S h b) (k m : Int) :
    Spec PP f_cauchy_Parity #[ptr b, vI k, vI m] h (fun v h' => Ext h h' ∧
      ((chk k m ≠ 0 ∧ v = .tuple #[.agg zMat.toArray, vI (chk k m)]) ∨
       (chk k m = 0 ∧ ∃ u, v = .tuple #[.agg #[vI m, vI k, u], vI 0] ∧ OB t_uint8 h' h.size u (matL (par k.toNat) m.toNat k.toNat)))) := by
  refine Spec.bodyR (C := c_cauchy_Parity) [(0, ptr b), (1, vI k), (2, vI m)] h_cauchy_Parity rfl rfl rfl ⟨rfl, rfl, rfl, trivial⟩ rfl ?_
  refine WC.seq (WC.region ?_)
  refine WR.stepL (Runs.bx rfl rfl) rfl ?_
  rintro _ h1 ⟨bf, rfl, hbf, Bf, X1⟩
  refine WR.stepL (Runs.bx rfl rfl) rfl ?_
  rintro _ h2 ⟨bk, rfl, hbk, Bk, X2⟩
  refine WR.stepL (Runs.alA (z := zMat)) rfl ?_
  rintro _ h3 ⟨b1, rfl, hb1, B1, X3⟩
  refine WR.sL rfl rfl (WR.nil ?_)
  refine WC.seq (WC.region ?_)
  have Bf3 := (Bf.ext X2).ext X3
  have Bk3 := Bk.ext X3
  have X : Ext h h3 := (X1.trans X2).trans X3
  have F3 : Fld S h3 b := F.keep X (fun _ _ => trivial)
  refine WR.v (RunsV.ldB Bf3 rfl) rfl ?_
  refine WR.v (RunsV.ldB Bk3 rfl) rfl ?_
  iterate 2 refine WR.s rfl rfl ?_
  refine WR.v (RunsV.ldB Bk3 rfl) rfl ?_
  refine WR.s rfl rfl ?_
  refine WR.callT (cauchy_made_spec F3 k m m k m.toNat k.toNat (fun e => by have := chk_ok e; omega) f_cauchy_Parity_1 #[ptr bf, ptr bk] (par k.toNat) ?_) rfl rfl rfl ?_
  · intro e h' X' r c hr hc
    have := chk_ok e
    have ek : k = ((k.toNat : Nat) : Int) := by omega
    exact cauchy_Parity_1_spec (F3.keep X' (fun _ _ => trivial)) (Bf3.ext X') k.toNat r c (by rw [← ek]; exact Bk3.ext X') (by omega) (by omega)
  rintro v h4 ⟨X4, q⟩
  have X5 := X.trans X4
  have hs1 := X1.size
  have hs2 := X2.size
  have B4 := B1.ext X4
  rcases q with ⟨e, rfl⟩ | ⟨e, u, rfl, O⟩
  · iterate 2 refine WR.s rfl rfl ?_
    refine WR.stepU (RunsU.stW B4 rfl rfl rfl rfl rfl) ?_
    rintro h5 ⟨B5, U5⟩
    refine WR.sL rfl rfl (WR.nil ?_)
    exact WC.ret ⟨[_, _], ⟨⟨b1, _, _, rfl, B5, rfl, 3, inferInstance, rfl⟩, rfl, rfl⟩, X5.upd U5 (.inl (by omega)), .inl ⟨e, rfl⟩⟩
  · iterate 2 refine WR.s rfl rfl ?_
    refine WR.stepU (RunsU.stW (vs := [vI m.toNat, vI k.toNat, u]) B4 rfl rfl rfl rfl (by show (oneCell _ && (oneCell _ && (oneCell u && true))) = true; rw [O.1.one]; rfl)) ?_
    rintro h5 ⟨B5, U5⟩
    refine WR.sL rfl rfl (WR.nil ?_)
    have := chk_ok e
    have ek : ((k.toNat : Nat) : Int) = k := by omega
    have em : ((m.toNat : Nat) : Int) = m := by omega
    rw [ek, em] at B5
    have O5 : OB t_uint8 h5 h3.size u (matL (par k.toNat) m.toNat k.toNat) := ⟨O.1.upd U5 (fun q => O.ne_blk B4 (by decide) q), O.2⟩
    exact WC.ret ⟨[_, _], ⟨⟨b1, _, _, rfl, B5, rfl, 3, inferInstance, rfl⟩, rfl, rfl⟩, X5.upd U5 (.inl (by omega)), .inr ⟨e, u, rfl, O5.rebase X.size⟩⟩
end Go.Eng
