/- Steps of the proof: lemmas for every input, without conditions but those that each states. -/
import Derived.Test.YtjpgcjbcfodicaaBulk
set_option linter.unusedSimpArgs false
set_option linter.unusedVariables false
namespace Go.Eng
def wpI (k i : Nat) : Nat → UInt8
  | 0 => 1
  | n + 1 => if k + n ≠ i then gmul (wpI k i n) (UInt8.ofNat ((k + n) ^^^ i)) else wpI k i n
/-- A point's weight. -/
def wgt (k m i : Nat) : UInt8 := ginv (wpI k i m)
def wgts (k m : Nat) : List UInt8 := (List.range (k + m)).map (wgt k m)
theorem wgts_len (k m : Nat) : (wgts k m).length = k + m := by simp [wgts]
theorem syndrome_Weights_1_spec {S : Nat → Prop} {h : Heap} {b bk bm bf : Nat} (F : Fld S h b) (k m i : Nat) (Bk : Box h bk t_int (vI k)) (Bm : Box h bm t_int (vI m)) (Bf : Box h bf t_ptr_gf_Field (ptr b)) (hk : k + m ≤ 256) (hi : i < 256) :
    Spec PP f_syndrome_Weights_1 #[vI i, ptr bk, ptr bm, ptr bf] h (fun v h' => v = vB (wgt k m i) ∧ h' = h) := by
  refine Spec.body (C := c_syndrome_Weights_1) [(0, vI i), (1, ptr bk), (2, ptr bm), (3, ptr bf)] h_syndrome_Weights_1 rfl rfl rfl ⟨rfl, rfl, rfl, rfl, trivial⟩ rfl ?_
  refine WC.seq (WC.region ?_)
  refine WR.sL rfl rfl (WR.nil ?_)
  refine WC.seq (WC.region ?_)
  refine WR.sL rfl rfl (WR.nil ?_)
  refine WC.seq (WC.seq (WC.region ?_))
  refine WR.v (RunsV.ldB Bk rfl) rfl ?_
  refine WR.sL rfl rfl (WR.nil ?_)
  refine WC.block ?_
  refine WC.loop (σ := Nat) (fun n => [(0, vI i), (1, ptr bk), (2, ptr bm), (3, ptr bf), (6, vB (wpI k i n)), (7, vI ((k + n : Nat)))]) (fun n h' => n ≤ m ∧ h' = h) (fun n => m - n) 0 (fun _ => rfl)
    ⟨rfl, rfl, rfl, rfl, rfl, rfl, trivial⟩ ⟨by omega, rfl⟩ ?_
  rintro n h ⟨hn, rfl⟩
  refine WC.seq (WC.seq (WC.region ?_))
  refine WR.s rfl rfl ?_
  refine WR.v (RunsV.ldB Bk rfl) rfl ?_
  refine WR.v (RunsV.ldB Bm rfl) rfl ?_
  refine WR.v (RunsV.add rfl rfl (by omega)) rfl ?_
  refine WR.s rfl rfl (WR.nil ?_)
  refine WC.itep rfl (fun e => ?_) (fun e => ?_)
  · refine WC.skip ?_
    refine WC.seq (WC.block ?_)
    refine WC.seq (WC.region ?_)
    iterate 3 refine WR.s rfl rfl ?_
    refine WR.nil ?_
    refine WC.itep rfl (fun e2 => ?_) (fun e2 => ?_)
    · refine WC.region ?_
      refine WR.v (RunsV.ldB Bf rfl) rfl ?_
      iterate 3 refine WR.s rfl rfl ?_
      refine WR.v (RunsV.xorN rfl rfl (by omega) (by omega)) rfl ?_
      refine WR.v (RunsV.cvB rfl) rfl ?_
      refine WR.callT (gf_Field_Mul_spec F _ _) rfl rfl rfl ?_
      rintro _ _ ⟨rfl, rfl⟩
      refine WR.sL rfl rfl (WR.nil ?_)
      refine WC.region ?_
      refine WR.s rfl rfl ?_
      refine WR.v (RunsV.add rfl rfl (by omega)) rfl ?_
      refine WR.sL rfl rfl (WR.nil ?_)
      refine ⟨n + 1, ⟨rfl, rfl, rfl, rfl, ?_, by show some (vI _) = some (vI _); congr 2, trivial⟩, ⟨by omega, rfl⟩, by dsimp only; omega⟩
      rw [toB_nat _ (xor_lt256 (by omega) hi)]
      show some (vB _) = some (vB _)
      rw [wpI, if_pos (by omega)]
    · refine WC.skip ?_
      refine WC.region ?_
      refine WR.s rfl rfl ?_
      refine WR.v (RunsV.add rfl rfl (by omega)) rfl ?_
      refine WR.sL rfl rfl (WR.nil ?_)
      refine ⟨n + 1, ⟨rfl, rfl, rfl, rfl, ?_, by show some (vI _) = some (vI _); congr 2, trivial⟩, ⟨by omega, rfl⟩, by dsimp only; omega⟩
      show some (vB _) = some (vB _)
      rw [wpI, if_neg (by omega)]
  · refine WC.exit (exit_hit ?_)
    obtain rfl : n = m := by omega
    refine WC.seq (WC.region ?_)
    refine WR.v (RunsV.ldB Bf rfl) rfl ?_
    refine WR.s rfl rfl ?_
    refine WR.callT (gf_Field_Inv_spec F _) rfl rfl rfl ?_
    rintro _ _ ⟨rfl, rfl⟩
    iterate 3 refine WR.s rfl rfl ?_
    refine WR.sL rfl rfl ?_
    refine WR.s rfl rfl (WR.nil ?_)
    refine WC.seq (WC.region ?_)
    refine WR.s rfl rfl ?_
    refine WR.sL rfl rfl (WR.nil ?_)
    exact WC.ret ⟨_, rfl, rfl, rfl⟩
theorem syndrome_Weights_spec {S : Nat → Prop} {h : Heap} {b : Nat} (F : Fld S h b) (k m : Nat) (hk : 1 ≤ k) (hkm : k + m ≤ 256) :
    Spec PP f_syndrome_Weights #[ptr b, vI k, vI m] h (fun v h' => ∃ u, v = .tuple #[u, vI 0] ∧ OB t_uint8 h' h.size u (wgts k m) ∧ Ext h h') := by
  refine Spec.body (C := c_syndrome_Weights) [(0, ptr b), (1, vI k), (2, vI m)] h_syndrome_Weights rfl rfl rfl ⟨rfl, rfl, rfl, trivial⟩ rfl ?_
  refine WC.seq (WC.region ?_)
  refine WR.stepL (Runs.bx rfl rfl) rfl ?_
  rintro _ h1 ⟨bf, rfl, -, Bf, X1⟩
  refine WR.stepL (Runs.bx rfl rfl) rfl ?_
  rintro _ h2 ⟨bk, rfl, -, Bk, X2⟩
  refine WR.stepL (Runs.bx rfl rfl) rfl ?_
  rintro _ h3 ⟨bm, rfl, -, Bm, X3⟩
  have Bf3 := (Bf.ext X2).ext X3
  have Bk3 := Bk.ext X3
  have X : Ext h h3 := (X1.trans X2).trans X3
  have F3 := F.ext X
  clear Bf Bk X1 X2 X3 F
  iterate 2 refine WR.sL rfl rfl ?_
  refine WR.nil ?_
  refine WC.seq (WC.seq (WC.region ?_))
  refine WR.v (RunsV.ldB Bf3 rfl) rfl ?_
  refine WR.v (RunsV.eqNil rfl rfl) rfl (WR.nil ?_)
  refine WC.f rfl (WC.skip ?_)
  refine WC.seq (WC.seq (WC.region ?_))
  refine WR.v (RunsV.ldB Bk3 rfl) rfl ?_
  refine WR.v (RunsV.ldB Bm rfl) rfl ?_
  refine WR.callT (cauchy_Check_spec _ _) rfl rfl rfl ?_
  rintro _ h3 ⟨rfl, rfl⟩
  have e0 : chk k m = 0 := chk_iff.2 (by omega)
  rw [e0]
  refine WR.sL rfl rfl (WR.nil ?_)
  refine WC.seq (WC.region ?_)
  iterate 2 refine WR.s rfl rfl ?_
  refine WR.nil ?_
  refine WC.f rfl (WC.skip ?_)
  refine WC.seq (WC.region ?_)
  refine WR.s rfl rfl ?_
  refine WR.sL rfl rfl (WR.nil ?_)
  refine WC.seq (WC.region ?_)
  refine WR.v (RunsV.ldB Bk3 rfl) rfl ?_
  refine WR.v (RunsV.ldB Bm rfl) rfl ?_
  refine WR.v (RunsV.to (v' := vI ((k + m : Nat))) (RunsV.add rfl rfl (by omega)) (by simp)) rfl ?_
  refine WR.stepT (Runs.mk rfl (k + m) rfl rfl (by omega) (by omega)) rfl ?_
  rintro u h4 ⟨O4, hu, X4⟩
  refine WR.sL rfl rfl (WR.nil ?_)
  refine WC.seq (WC.seq (WC.region ?_))
  refine WR.s rfl rfl ?_
  refine WR.vL (RunsV.lenO O4 rfl) rfl ?_
  refine WR.sL rfl rfl (WR.nil ?_)
  refine WC.block ?_
  have hw := wgts_len k m
  have hm : (wgts k m).length = (List.replicate (k + m) (0 : UInt8)).length := by simp [hw]
  refine WC.loop (σ := Nat) (fun i => [(9, .func (.func f_syndrome_Weights_1) #[] #[ptr bk, ptr bm, ptr bf]), (10, u), (26, vI ((k + m : Nat))), (27, vI i)])
    (fun i h' => i ≤ k + m ∧ Ext h3 h' ∧ Own h' h3.size t_uint8 1 u (k + m) (bcells (mix (wgts k m) (List.replicate (k + m) 0) i))) (fun i => k + m - i) 0 (fun _ => rfl)
    ⟨rfl, rfl, rfl, rfl, trivial⟩ ⟨by omega, X4, by rw [mix_zero, ← bcells_rep]; exact O4⟩ ?_
  rintro i h5 ⟨hi, X5, O5⟩
  refine WC.seq (WC.region ?_)
  refine WR.s rfl rfl (WR.nil ?_)
  refine WC.seq ?_
  refine WC.itep rfl (fun e => ?_) (fun e => ?_)
  · have hi' : i < k + m := by omega
    refine WC.skip ?_
    refine WC.seq (WC.block ?_)
    refine WC.seq (WC.region ?_)
    refine WR.s rfl rfl ?_
    refine WR.sL rfl rfl (WR.nil ?_)
    refine WC.region ?_
    iterate 4 refine WR.s rfl rfl ?_
    refine WR.callC (syndrome_Weights_1_spec (F3.ext X5) k m i (Bk3.ext X5) (Bm.ext X5) (Bf3.ext X5) hkm (by omega)) rfl rfl rfl rfl ?_
    rintro _ h5 ⟨rfl, rfl⟩
    refine WR.v (RunsV.ix (O5.has (by omega)) i hi' rfl rfl rfl) rfl ?_
    refine WR.stepU (RunsU.stO O5 hi' rfl rfl rfl) ?_
    rintro h6 ⟨O6, g, hg, hg2, hgv, U6⟩
    refine WR.nil ?_
    refine WC.region ?_
    refine WR.v (RunsV.add rfl rfl (by omega)) rfl ?_
    refine WR.sL rfl rfl (WR.nil ?_)
    have e1 : wgt k m i = (wgts k m)[i]'(by omega) := by simp [wgts]
    rw [e1, bcells_set, mix_set hm (by omega)] at O6
    exact ⟨i + 1, ⟨rfl, rfl, rfl, rfl, trivial⟩, ⟨by omega, X5.upd U6 (.inl hg), O6⟩, by dsimp only; omega⟩
  · refine WC.exit (exit_hit ?_)
    rw [mix_full hm (by omega)] at O5
    refine WC.seq (WC.region ?_)
    refine WR.s rfl rfl ?_
    iterate 2 refine WR.sL rfl rfl ?_
    refine WR.nil ?_
    refine WC.ret ⟨_, rfl, u, rfl, ?_, X.trans X5⟩
    have : OB t_uint8 h5 h3.size u (wgts k m) := ⟨by rw [hw]; exact O5, by omega⟩
    exact this.rebase X.size
/-- x, x times a, .. -/
def itm (x a : UInt8) : Nat → UInt8
  | 0 => x
  | l + 1 => gmul (itm x a l) a
def xorL (a b : List UInt8) : List UInt8 := List.zipWith (· ^^^ ·) a b
/-- The syndromes behind so many bytes. -/
def synI (k m : Nat) (w : List UInt8) : Nat → List UInt8
  | 0 => List.replicate m 0
  | i + 1 => xorL (synI k m w i) ((List.range m).map (itm (gmul (w.getD i 0) (wgt k m i)) (UInt8.ofNat i)))
def synP (k m : Nat) (w : List UInt8) : List UInt8 := synI k m w (k + m)
theorem synI_len (k m : Nat) (w : List UInt8) : ∀ i, (synI k m w i).length = m
  | 0 => by simp [synI]
  | i + 1 => by simp [synI, xorL, synI_len k m w i]
theorem synP_len (k m : Nat) (w : List UInt8) : (synP k m w).length = m := synI_len k m w _
theorem syndrome_Of_spec {S T : Nat → Prop} {h : Heap} {b : Nat} (F : Fld S h b) (k m : Nat) (hk : 1 ≤ k) (hkm : k + m ≤ 256) {wv : Value} {w : List UInt8} (W : Bytes T h wv w) (hw : w.length = k + m) :
    Spec PP f_syndrome_Of #[ptr b, vI k, vI m, wv] h (fun v h' => ∃ u, v = .tuple #[u, vI 0] ∧ OB t_uint8 h' h.size u (synP k m w) ∧ Ext h h') := by
  refine Spec.body (C := c_syndrome_Of) [(0, ptr b), (1, vI k), (2, vI m), (3, wv)] h_syndrome_Of rfl rfl rfl ⟨rfl, rfl, rfl, rfl, trivial⟩ rfl ?_
  refine WC.seq (WC.region ?_)
  iterate 2 refine WR.sL rfl rfl ?_
  refine WR.nil ?_
  refine WC.seq (WC.region ?_)
  iterate 3 refine WR.s rfl rfl ?_
  refine WR.callT (syndrome_Weights_spec F k m hk hkm) rfl rfl rfl ?_
  rintro _ h1 ⟨wt, rfl, Ow, X1⟩
  iterate 3 refine WR.s rfl rfl ?_
  iterate 2 refine WR.sL rfl rfl ?_
  refine WR.nil ?_
  have W1 := W.ext X1
  have Wt : Bytes (fun _ => True) h1 wt (wgts k m) := Ow.any
  have F1 := F.ext X1
  have hwl := wgts_len k m
  refine WC.seq (WC.block ?_)
  refine WC.seq (WC.region ?_)
  iterate 3 refine WR.s rfl rfl ?_
  refine WR.nil ?_
  refine WC.f rfl ?_
  refine WC.seq (WC.region ?_)
  refine WR.s rfl rfl ?_
  refine WR.v (RunsV.lenSl W1 rfl) rfl ?_
  iterate 2 refine WR.s rfl rfl ?_
  refine WR.v (RunsV.to (v' := vI ((k + m : Nat))) (RunsV.add rfl rfl (by omega)) (by simp)) rfl ?_
  iterate 2 refine WR.s rfl rfl ?_
  refine WR.nil ?_
  refine WC.ff rfl (by simp [hw]) (WC.skip ?_)
  refine WC.seq (WC.region ?_)
  refine WR.s rfl rfl ?_
  refine WR.stepT (Runs.mk rfl m rfl rfl (by omega) (by omega)) rfl ?_
  rintro u h2 ⟨O2, hu, X2⟩
  refine WR.sL rfl rfl (WR.nil ?_)
  refine WC.seq (WC.seq (WC.region ?_))
  refine WR.s rfl rfl ?_
  refine WR.vL (RunsV.lenSl (W1.ext X2) rfl) rfl ?_
  refine WR.sL rfl rfl (WR.nil ?_)
  refine WC.block ?_
  refine WC.loop (σ := Nat) (fun i => [(0, ptr b), (2, vI m), (3, wv), (10, wt), (12, u), (37, vI w.length), (38, vI i)])
    (fun i h' => i ≤ k + m ∧ Ext h1 h' ∧ Own h' h1.size t_uint8 1 u m (bcells (synI k m w i))) (fun i => k + m - i) 0 (fun _ => rfl)
    ⟨rfl, rfl, rfl, rfl, rfl, rfl, rfl, trivial⟩ ⟨by omega, X2, by rw [synI, ← bcells_rep]; exact O2⟩ ?_
  rintro i h3 ⟨hi, X3, O3⟩
  refine WC.seq (WC.region ?_)
  refine WR.s rfl rfl (WR.nil ?_)
  refine WC.seq ?_
  refine WC.itep rfl (fun e => ?_) (fun e => ?_)
  · have hi' : i < k + m := by omega
    have W3 := W1.ext X3
    have Wt3 := Wt.ext X3
    have F3 := F1.ext X3
    refine WC.skip ?_
    refine WC.seq (WC.block ?_)
    refine WC.seq (WC.region ?_)
    refine WR.s rfl rfl ?_
    refine WR.sL rfl rfl (WR.nil ?_)
    refine WC.seq ?_
    refine WC.draw [(false,0),(false,1),(false,2),(false,3),(false,4),(false,5),(false,6),(false,7),(false,8),(true,9),(false,10)] (same _) (by decide +kernel) (fun _ _ _ _ _ _ q => q) rfl ?_
    iterate 3 refine WQ.s rfl rfl rfl ?_
    refine WQ.rd rfl (RunsV.ix (W3.has (by omega)) i (by omega) rfl rfl rfl) rfl ?_
    refine WQ.rd rfl (RunsV.ldE W3 (by omega) rfl rfl (bcells_get (by omega))) rfl ?_
    iterate 2 refine WQ.s rfl rfl rfl ?_
    refine WQ.rd rfl (RunsV.ix (Wt3.has (by omega)) i (by omega) rfl rfl rfl) rfl ?_
    refine WQ.rd rfl (RunsV.ldE Wt3 (by omega) rfl rfl (bcells_get (by omega))) rfl ?_
    refine WQ.rc rfl (gf_Field_Mul_spec F3 _ _) rfl rfl rfl (by omega) ?_
    rintro _ rfl
    refine WQ.sL rfl rfl rfl ?_
    refine WQ.nil ?_
    obtain ⟨x0, hx0⟩ : ∃ x0, x0 = gmul (w[i]'(by omega)) ((wgts k m)[i]'(by omega)) := ⟨_, rfl⟩
    rw [← hx0]
    have hxe : x0 = gmul (w.getD i 0) (wgt k m i) := by
      rw [hx0, List.getD_eq_getElem?_getD, List.getElem?_eq_getElem (by omega)]
      simp [wgts]
    have hsl := synI_len k m w i
    have hsl1 := synI_len k m w (i + 1)
    have hm : (synI k m w (i + 1)).length = (synI k m w i).length := by omega
    refine WC.seq (WC.region ?_)
    iterate 2 refine WR.sL rfl rfl ?_
    refine WR.nil ?_
    refine WC.block ?_
    refine WC.loop (σ := Nat) (fun l => [(0, ptr b), (2, vI m), (3, wv), (10, wt), (12, u), (37, vI w.length), (38, vI i), (13, vI i), (14, vB (itm x0 (UInt8.ofNat i) l)), (51, vI m), (52, vI l)])
      (fun l h' => l ≤ m ∧ Ext h1 h' ∧ Own h' h1.size t_uint8 1 u m (bcells (mix (synI k m w (i + 1)) (synI k m w i) l))) (fun l => m - l) 0 (fun _ => rfl)
      ⟨rfl, rfl, rfl, rfl, rfl, rfl, rfl, rfl, rfl, rfl, rfl, trivial⟩ ⟨by omega, X3, by rw [mix_zero]; exact O3⟩ ?_
    clear X3 O3 W3 Wt3 F3
    rintro l h4 ⟨hl, X4, O4⟩
    refine WC.seq (WC.region ?_)
    refine WR.s rfl rfl (WR.nil ?_)
    refine WC.seq ?_
    refine WC.itep rfl (fun e2 => ?_) (fun e2 => ?_)
    · have hl' : l < m := by omega
      refine WC.skip ?_
      refine WC.seq (WC.block ?_)
      refine WC.seq (WC.region ?_)
      refine WR.s rfl rfl ?_
      refine WR.sL rfl rfl (WR.nil ?_)
      refine WC.seq (WC.region ?_)
      iterate 2 refine WR.s rfl rfl ?_
      refine WR.v (RunsV.ix (O4.has (by omega)) l hl' rfl rfl rfl) rfl ?_
      refine WR.v (RunsV.ldO O4 (by omega) rfl rfl (y := vB ((synI k m w i)[l]'(by omega))) (by
        have := mix_get (A := synI k m w (i + 1)) (Z := synI k m w i) (i := l) (j := l) hm (Nat.le_refl _) (by omega)
        rw [bcells, List.getElem?_map, this, List.getElem?_eq_getElem (by omega)]; rfl)) rfl ?_
      refine WR.s rfl rfl ?_
      refine WR.v (RunsV.xorB rfl rfl) rfl ?_
      refine WR.v (RunsV.ix (O4.has (by omega)) l hl' rfl rfl rfl) rfl ?_
      refine WR.stepU (RunsU.stO O4 hl' rfl rfl rfl) ?_
      rintro h5 ⟨O5, g, hg, hg2, hgv, U5⟩
      refine WR.nil ?_
      have X5 : Ext h1 h5 := X4.upd U5 (.inl hg)
      refine WC.region ?_
      iterate 3 refine WR.s rfl rfl ?_
      refine WR.v (RunsV.cvB rfl) rfl ?_
      refine WR.callT (gf_Field_Mul_spec (F1.ext X5) _ _) rfl rfl rfl ?_
      rintro _ h5 ⟨rfl, rfl⟩
      refine WR.sL rfl rfl (WR.nil ?_)
      refine WC.region ?_
      refine WR.v (RunsV.add rfl rfl (by omega)) rfl ?_
      refine WR.sL rfl rfl (WR.nil ?_)
      have e1 : (synI k m w i)[l]'(by omega) ^^^ itm x0 (UInt8.ofNat i) l = (synI k m w (i + 1))[l]'(by omega) := by
        simp [synI, xorL, hxe]
      rw [e1, bcells_set, mix_set hm (by omega)] at O5
      refine ⟨l + 1, ⟨rfl, rfl, rfl, rfl, rfl, rfl, rfl, rfl, ?_, rfl, rfl, trivial⟩, ⟨by omega, X5, O5⟩, by dsimp only; omega⟩
      rw [toB_nat _ (by omega)]; rfl
    · refine WC.exit (exit_hit ?_)
      rw [mix_full hm (by omega)] at O4
      refine WC.region ?_
      refine WR.v (RunsV.add rfl rfl (by omega)) rfl ?_
      refine WR.sL rfl rfl (WR.nil ?_)
      exact ⟨i + 1, ⟨rfl, rfl, rfl, rfl, rfl, rfl, rfl, trivial⟩, ⟨by omega, X4, O4⟩, by dsimp only; omega⟩
  · refine WC.exit (exit_hit ?_)
    obtain rfl : i = k + m := by omega
    refine WC.seq (WC.region ?_)
    refine WR.s rfl rfl ?_
    iterate 2 refine WR.sL rfl rfl ?_
    refine WR.nil ?_
    refine WC.ret ⟨_, rfl, u, rfl, ?_, X1.trans X3⟩
    have hl := synP_len k m w
    have : OB t_uint8 h3 h1.size u (synP k m w) := ⟨by rw [hl]; exact O3, by omega⟩
    exact this.rebase X1.size
end Go.Eng
