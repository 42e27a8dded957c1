/- Steps of the proof: lemmas for every input, without conditions but those that each states. -/
import Derived.Test.YtjpgcjbcfodicaaWord
set_option linter.unusedSimpArgs false
set_option linter.unusedVariables false
namespace Go.Eng

theorem solveL_len {m e : Nat} : ∀ {n : Nat} {low high a b r : List UInt8}, solveL m e n low high a b = some r → 2 * (r.length - 1) + e ≤ m
  | 0, _, _, _, _, _, h => by cases h
  | n + 1, low, high, a, b, r, h => by
    rw [solveL] at h
    split at h
    · cases h
    · split at h
      · cases h; omega
      · exact solveL_len h
theorem solveP_len {s g l o : List UInt8} (h : solveP s g = some (l, o)) : l.length ≤ s.length + 2 := by
  unfold solveP at h
  dsimp only at h
  split at h
  · cases h
  · rename_i b hb
    have h1 := solveL_len hb
    simp at h
    rw [← h.1]
    have := mul_le b [ginv (top b)]
    simp at this
    omega
theorem errdec_Word_spec {S T U : Nat → Prop} {h : Heap} {f : Nat} (F : Fld S h f) (k m : Nat) (hk : 1 ≤ k) (hkm : k + m ≤ 256) {wv mv : Value} {w : List UInt8} {ms : List Bool} (W : Bytes T h wv w) (M : Bools U h mv ms) (hw : w.length = k + m) (hms : ms.length = k + m) :
    Spec PP f_errdec_Word #[ptr f, vI k, vI m, wv, mv] h (fun v h' => Ext h h' ∧ match wordP k m w ms with
      | none => v = .tuple #[.slice none 0 0, .slice none 0 0, vI 100]
      | some q => ∃ x y, v = .tuple #[x, y, vI 0] ∧ OB t_uint8 h' h.size x q.1 ∧ OI t_int h' h.size y q.2) := by
  refine Spec.body (C := c_errdec_Word) [(0, ptr f), (1, vI k), (2, vI m), (3, wv), (4, mv)] h_errdec_Word rfl rfl rfl ⟨rfl, rfl, rfl, rfl, rfl, trivial⟩ rfl ?_
  refine WC.seq (WC.region ?_)
  iterate 3 refine WR.sL rfl rfl ?_
  refine WR.nil ?_
  refine WC.seq (WC.region ?_)
  iterate 3 refine WR.s rfl rfl ?_
  refine WR.callT (syndrome_Weights_spec F k m hk hkm) rfl rfl rfl ?_
  rintro _ h1 ⟨wt, rfl, Ow, X1⟩
  iterate 3 refine WR.s rfl rfl ?_
  iterate 2 refine WR.sL rfl rfl ?_
  refine WR.nil ?_
  refine WC.seq (WC.region ?_)
  iterate 2 refine WR.s rfl rfl ?_
  refine WR.v (RunsV.to (v' := vI ((k + m : Nat))) (RunsV.add rfl rfl (by omega)) (by simp)) rfl ?_
  refine WR.sL rfl rfl (WR.nil ?_)
  have W1 := W.ext X1
  have M1 := Sl.ext M X1
  refine WC.seq (WC.block ?_)
  refine WC.seq (WC.region ?_)
  iterate 3 refine WR.s rfl rfl ?_
  refine WR.nil ?_
  refine WC.f rfl ?_
  refine WC.seq (WC.region ?_)
  refine WR.s rfl rfl ?_
  refine WR.v (RunsV.lenSl W1 rfl) rfl ?_
  iterate 3 refine WR.s rfl rfl ?_
  refine WG.start rfl rfl ?_
  refine WG.s rfl rfl rfl rfl ?_
  refine WG.v rfl (fun _ => RunsV.lenSl M1 rfl) rfl rfl ?_
  iterate 2 refine WG.s rfl rfl rfl rfl ?_
  refine WG.or rfl rfl ?_
  refine WR.s rfl rfl (WR.nil ?_)
  refine WC.ff rfl (by simp [hw, hms]) (WC.skip ?_)
  refine WC.seq (WC.region ?_)
  refine WR.s rfl rfl ?_
  refine WR.callT (slices_Clone_byte_byte_spec W1) rfl rfl rfl ?_
  rintro vo h2 ⟨Oo, X2⟩
  have hs1 := X1.size
  have hs2 := X2.size
  refine WR.sL rfl rfl (WR.nil ?_)
  refine WC.seq (WC.region ?_)
  refine WR.sL rfl rfl (WR.nil ?_)
  have X02 := X1.trans X2
  refine WC.seq (WC.seq (WC.region ?_))
  refine WR.sL rfl rfl ?_
  refine WR.vL (RunsV.lenSl (Sl.ext M X02) rfl) rfl ?_
  refine WR.sL rfl rfl (WR.nil ?_)
  refine WC.block ?_
  have hmn : ms.length ≤ 256 := by omega
  refine WC.loop (σ := Nat × Value) (fun q => [(0, ptr f), (1, vI k), (2, vI m), (4, mv), (13, wt), (15, vI ((k + m : Nat))), (16, vo), (17, q.2), (59, mv), (60, vI ms.length), (61, vI q.1)])
    (fun q h' => q.1 ≤ k + m ∧ Ext h1 h' ∧ h2.size ≤ h'.size ∧ Own h' h1.size t_uint8 1 vo w.length (bcells (erI w ms q.1)) ∧ OB t_uint8 h' h2.size q.2 (knI ms q.1)) (fun q => k + m - q.1) (0, _) (fun _ => rfl)
    ⟨rfl, rfl, rfl, rfl, rfl, rfl, rfl, rfl, rfl, rfl, rfl, trivial⟩ ⟨by simp, X2, Nat.le_refl _, by rw [erI_zero]; exact Oo.1, OB.nil _ _ _⟩ ?_
  rintro ⟨i, vk⟩ h3 ⟨hi, X3, hs3, O3, Kn⟩
  dsimp only at hi O3 Kn
  refine WC.seq (WC.region ?_)
  refine WR.s rfl rfl (WR.nil ?_)
  refine WC.seq ?_
  refine WC.itep rfl (fun e => ?_) (fun e => ?_)
  · have hi' : i < k + m := by omega
    have M3 := Sl.ext M1 X3
    have hgd : ms[i]'(by omega) = ms.getD i false := by rw [List.getD_eq_getElem?_getD, List.getElem?_eq_getElem (by omega)]; rfl
    refine WC.skip ?_
    refine WC.seq (WC.block ?_)
    refine WC.seq (WC.region ?_)
    refine WR.s rfl rfl ?_
    refine WR.v (RunsV.ix (M3.has (by omega)) i (by omega) rfl rfl rfl) rfl ?_
    refine WR.v (RunsV.ldE M3 (by omega) rfl rfl (tcells_get (by omega))) rfl ?_
    iterate 2 refine WR.sL rfl rfl ?_
    refine WR.nil ?_
    refine WC.seq (WC.region ?_)
    refine WR.s rfl rfl (WR.nil ?_)
    refine WC.ite rfl (fun e2 => ?_) (fun e2 => ?_)
    · rw [hgd] at e2
      refine WC.seq (WC.region ?_)
      iterate 2 refine WR.s rfl rfl ?_
      refine WR.v (RunsV.ix (O3.has (by omega)) i (by omega) rfl rfl rfl) rfl ?_
      refine WR.stepU (RunsU.stO (e := vB 0) O3 (by omega) rfl rfl rfl) ?_
      rintro h4 ⟨O4, g, hg, hg2, hgv, U4⟩
      have hgo : g < h2.size := by
        have := Oo.1.blk hgv
        omega
      have Kn4 := Kn.upd U4 (fun q => by have := (Kn.1.blk q).1; omega)
      have X4 := X3.upd U4 (.inl hg)
      have hs4 : h4.size = h3.size := U4.1
      rw [bcells_set, erI_hit (by omega) e2] at O4
      refine WR.nil ?_
      refine WC.region ?_
      iterate 2 refine WR.s rfl rfl ?_
      refine WR.v (RunsV.cvB rfl) rfl ?_
      rw [toB_nat _ (by omega)]
      have hkl := knI_le ms i
      refine WR.ap1T Kn4.1 (by omega) rfl rfl (fun _ => rfl) rfl rfl rfl (by omega) (by omega) ?_
      rintro x vk' h5 O5 K5 -
      refine WR.sL rfl rfl (WR.nil ?_)
      refine WC.region ?_
      refine WR.v (RunsV.add rfl rfl (by omega)) rfl ?_
      refine WR.sL rfl rfl (WR.nil ?_)
      refine ⟨(i + 1, vk'), ⟨rfl, rfl, rfl, rfl, rfl, rfl, rfl, rfl, rfl, rfl, rfl, trivial⟩, ⟨hi', Keeps.own X4 Kn4.1 (by omega) K5, by have := K5.size; omega, ?_, ?_⟩, by dsimp only; omega⟩
      · refine O4.keep K5 fun b hb q => ?_
        have h1 := (Kn4.1.blk q).1
        rw [hgv] at hb
        simp at hb
        omega
      · dsimp only
        rw [knI_succ, if_pos e2]
        exact OB.snoc O5 (by omega)
    · rw [hgd] at e2
      refine WC.skip ?_
      refine WC.region ?_
      refine WR.v (RunsV.add rfl rfl (by omega)) rfl ?_
      refine WR.sL rfl rfl (WR.nil ?_)
      refine ⟨(i + 1, vk), ⟨rfl, rfl, rfl, rfl, rfl, rfl, rfl, rfl, rfl, rfl, rfl, trivial⟩, ⟨hi', X3, hs3, by dsimp only; rw [erI_skip e2]; exact O3, ?_⟩, by dsimp only; omega⟩
      dsimp only
      rw [knI_succ, if_neg (by rw [e2]; simp)]
      exact Kn
  · refine WC.exit (exit_hit ?_)
    obtain rfl : i = k + m := by omega
    have hel := erI_len w ms (k + m)
    have OE : OB t_uint8 h3 h1.size vo (erI w ms (k + m)) := ⟨by rw [hel]; exact O3, by omega⟩
    have X03 := X1.trans X3
    refine WC.seq (WC.region ?_)
    iterate 4 refine WR.s rfl rfl ?_
    refine WR.callT (syndrome_Of_spec (F.ext X03) k m hk hkm OE.any (by omega)) rfl rfl rfl ?_
    rintro _ h4 ⟨vs, rfl, Os, X4⟩
    iterate 3 refine WR.s rfl rfl ?_
    refine WR.sL rfl rfl ?_
    refine WR.s rfl rfl (WR.nil ?_)
    have Kn4 := Kn.ext X4
    have X04 := X03.trans X4
    refine WC.seq (WC.seq (WC.region ?_))
    refine WR.s rfl rfl ?_
    refine WR.v (RunsV.lenO Kn4.1 rfl) rfl ?_
    iterate 2 refine WR.s rfl rfl ?_
    refine WR.nil ?_
    refine WC.itep rfl (fun e2 => ?_) (fun e2 => ?_)
    · refine WC.seq (WC.region ?_)
      iterate 3 refine WR.sL rfl rfl ?_
      refine WR.nil (WC.ret ⟨_, rfl, X04, ?_⟩)
      rw [wordP, if_pos (by omega)]
      rfl
    · refine WC.skip ?_
      have hkl : (knI ms (k + m)).length ≤ m := by omega
      obtain ⟨ln, ll⟩ := locP_nm (knI ms (k + m))
      have hsl := synP_len k m (erI w ms (k + m))
      refine WC.seq (WC.region ?_)
      iterate 2 refine WR.s rfl rfl ?_
      refine WR.callT (keyeq_Locator_spec (F.ext X04) Kn4.any (by omega)) rfl rfl rfl ?_
      rintro vg h5 ⟨Og, X5⟩
      refine WR.sL rfl rfl (WR.nil ?_)
      have X05 := X04.trans X5
      refine WC.seq (WC.region ?_)
      iterate 3 refine WR.s rfl rfl ?_
      refine WR.callT (keyeq_Solve_spec (F.ext X05) (Os.ext X5).any Og.any ln (List.length_pos_iff.1 (by omega)) (by omega) (by omega)) rfl rfl rfl ?_
      rintro v6 h6 ⟨X6, q6⟩
      have X06 := X05.trans X6
      have hwp : wordP k m w ms = match solveP (synP k m (erI w ms (k + m))) (locP (knI ms (k + m))) with
        | none => none
        | some q =>
          let full := mulP q.1 (locP (knI ms (k + m)))
          let r := wdI k m ms full (derivP full) q.2 (erI w ms (k + m)) (k + m)
          if (r.2.2 : Int) ≠ (full.length : Int) - 1 ∨ (synP k m r.1).any (· != 0) = true then none else some (r.1, r.2.1) := by rw [wordP, if_neg (by omega)]; rfl
      cases hsp : solveP (synP k m (erI w ms (k + m))) (locP (knI ms (k + m))) with
      | none =>
        rw [hsp] at q6 hwp
        obtain rfl := q6
        iterate 4 refine WR.s rfl rfl ?_
        iterate 3 refine WR.sL rfl rfl ?_
        refine WR.nil ?_
        refine WC.seq (WC.seq (WC.region ?_))
        iterate 2 refine WR.s rfl rfl ?_
        refine WR.nil ?_
        refine WC.t rfl ?_
        refine WC.seq (WC.region ?_)
        refine WR.s rfl rfl ?_
        iterate 3 refine WR.sL rfl rfl ?_
        refine WR.nil (WC.ret ⟨_, rfl, X06, ?_⟩)
        rw [hwp]
        rfl
      | some q =>
        obtain ⟨l, o⟩ := q
        rw [hsp] at q6 hwp
        obtain ⟨vl, vq, rfl, Ol, Oq⟩ := q6
        dsimp only at Ol Oq hwp
        iterate 4 refine WR.s rfl rfl ?_
        iterate 3 refine WR.sL rfl rfl ?_
        refine WR.nil ?_
        refine WC.seq (WC.seq (WC.region ?_))
        iterate 2 refine WR.s rfl rfl ?_
        refine WR.nil ?_
        refine WC.f rfl (WC.skip ?_)
        have hll := solveP_len hsp
        refine WC.seq (WC.region ?_)
        iterate 3 refine WR.s rfl rfl ?_
        refine WR.callT (poly_Mul_spec (F.ext X06) Ol.any (Og.ext X6).any (by omega)) rfl rfl rfl ?_
        rintro vf h7 ⟨Of, X7⟩
        refine WR.sL rfl rfl (WR.nil ?_)
        have hfl := mul_le l (locP (knI ms (k + m)))
        obtain ⟨full, hfull⟩ : ∃ x, x = mulP l (locP (knI ms (k + m))) := ⟨_, rfl⟩
        rw [← hfull] at Of hfl hwp
        refine WC.seq (WC.region ?_)
        refine WR.s rfl rfl ?_
        refine WR.callT (poly_Deriv_spec Of.any (by omega)) rfl rfl rfl ?_
        rintro vd h8 ⟨Od, X8⟩
        refine WR.sL rfl rfl (WR.nil ?_)
        have X08 := (X06.trans X7).trans X8
        have hs3' := X3.size
        have hs4 := X4.size
        have hs5 := X5.size
        have hs6 := X6.size
        have hs7 := X7.size
        have hs8 := X8.size
        have X38 : Ext h3 h8 := (((X4.trans X5).trans X6).trans X7).trans X8
        -- what is read from here on
        have Wt8 := (Ow.ext X3).ext X38
        have Oq8 := (Oq.ext X7).ext X8
        have Of8 := Of.ext X8
        have OE8 := OE.ext X38
        have F8 := F.ext X08
        have M8 := Sl.ext M X08
        have hgo : ∀ g, vo.ownBlock = some g → h1.size ≤ g ∧ g < h2.size := fun g q => by
          have := Oo.1.blk q
          omega
        refine WC.seq (WC.region ?_)
        refine WR.sL rfl rfl (WR.nil ?_)
        refine WC.seq (WC.region ?_)
        refine WR.sL rfl rfl (WR.nil ?_)
        refine WC.seq (WC.seq (WC.region ?_))
        iterate 2 refine WR.sL rfl rfl ?_
        refine WR.nil ?_
        have hwl := wgts_len k m
        refine WC.block ?_
        refine WC.loop (σ := Nat × Value) (fun q => [(0, ptr f), (1, vI k), (2, vI m), (4, mv), (13, wt), (16, vo), (24, vq), (25, vf), (26, vd), (27, q.2), (28, vI (wdI k m ms full (derivP full) o (erI w ms (k + m)) q.1).2.2), (108, vI ((k + m : Nat))), (109, vI q.1)])
          (fun q h' => q.1 ≤ k + m ∧ Ext h1 h' ∧ h8.size ≤ h'.size ∧ OB t_uint8 h' h1.size vo (wdI k m ms full (derivP full) o (erI w ms (k + m)) q.1).1 ∧ OI t_int h' h8.size q.2 (wdI k m ms full (derivP full) o (erI w ms (k + m)) q.1).2.1 ∧
            OB t_uint8 h' h.size wt (wgts k m) ∧ OB t_uint8 h' h5.size vq o ∧ OB t_uint8 h' h6.size vf full ∧ OB t_uint8 h' h7.size vd (derivP full)) (fun q => k + m - q.1) (0, .slice none 0 0) (fun _ => rfl)
          ⟨rfl, rfl, rfl, rfl, rfl, rfl, rfl, rfl, rfl, rfl, rfl, rfl, rfl, trivial⟩ ⟨by simp, X3.trans X38, Nat.le_refl _, OE8, OI.nil _ _ _, Wt8, Oq8, Of8, Od⟩ ?_
        clear Wt8 Oq8 Of8 OE8 F8 M8
        rintro ⟨i, vw⟩ k1 ⟨hi, X, hk1, Oo1, Ow1, Wt1, Oq1, Of1, Od1⟩
        dsimp only at hi Oo1 Ow1
        have hd := wdI_len k m ms full (derivP full) o (erI w ms (k + m)) i
        have hds := wdI_len k m ms full (derivP full) o (erI w ms (k + m)) (i + 1)
        refine WC.seq (WC.region ?_)
        refine WR.s rfl rfl (WR.nil ?_)
        refine WC.seq ?_
        refine WC.itep rfl (fun e3 => ?_) (fun e3 => ?_)
        · have hi' : i < k + m := by omega
          have F1 := F.ext (X1.trans X)
          have M1' := Sl.ext M1 X
          have hstep : wdI k m ms full (derivP full) o (erI w ms (k + m)) (i + 1) = if evalP full (UInt8.ofNat i) ≠ 0 then wdI k m ms full (derivP full) o (erI w ms (k + m)) i
            else ((wdI k m ms full (derivP full) o (erI w ms (k + m)) i).1.set i ((wdI k m ms full (derivP full) o (erI w ms (k + m)) i).1.getD i 0 ^^^ gmul (evalP o (UInt8.ofNat i)) (ginv (gmul (evalP (derivP full) (UInt8.ofNat i)) (wgt k m i)))), if ms.getD i false = true then (wdI k m ms full (derivP full) o (erI w ms (k + m)) i).2.1 else (wdI k m ms full (derivP full) o (erI w ms (k + m)) i).2.1 ++ [(i : Int)], (wdI k m ms full (derivP full) o (erI w ms (k + m)) i).2.2 + 1) := rfl
          obtain ⟨⟨ro, rw_, rn⟩, hr⟩ : ∃ r, r = wdI k m ms full (derivP full) o (erI w ms (k + m)) i := ⟨_, rfl⟩
          rw [← hr] at hstep hd Oo1 Ow1
          dsimp only at hstep hd Oo1 Ow1
          refine WC.skip ?_
          refine WC.seq (WC.block ?_)
          refine WC.seq (WC.region ?_)
          refine WR.s rfl rfl ?_
          refine WR.sL rfl rfl (WR.nil ?_)
          refine WC.seq (WC.seq (WC.region ?_))
          iterate 3 refine WR.s rfl rfl ?_
          refine WR.v (RunsV.cvB rfl) rfl ?_
          rw [toB_nat _ (by omega)]
          refine WR.callT (poly_Eval_spec F1 Of1.any (UInt8.ofNat i)) rfl rfl rfl ?_
          rintro _ k1 ⟨rfl, rfl⟩
          refine WR.s rfl rfl (WR.nil ?_)
          refine WC.itep rfl (fun e4 => ?_) (fun e4 => ?_)
          · refine WC.exit (exit_hit ?_)
            have ne : evalP full (UInt8.ofNat i) ≠ 0 := fun q => e4 (by rw [q]; rfl)
            rw [if_pos ne] at hstep
            refine WC.region ?_
            refine WR.v (RunsV.add rfl rfl (by omega)) rfl ?_
            refine WR.sL rfl rfl (WR.nil ?_)
            refine ⟨(i + 1, vw), ⟨rfl, rfl, rfl, rfl, rfl, rfl, rfl, rfl, rfl, rfl, by rw [hstep, ← hr]; rfl, rfl, rfl, trivial⟩, ⟨hi', X, hk1, ?_, ?_, Wt1, Oq1, Of1, Od1⟩, by dsimp only; omega⟩
            · dsimp only; rw [hstep]; exact Oo1
            · dsimp only; rw [hstep]; exact Ow1
          · have ez : evalP full (UInt8.ofNat i) = 0 := by
              have : ((evalP full (UInt8.ofNat i)).toNat : Int) = 0 := by
                by_cases c : ((evalP full (UInt8.ofNat i)).toNat : Int) = 0
                · exact c
                · exact absurd c e4
              exact (byte0 _).1 this
            rw [if_neg (by simp [ez])] at hstep
            refine WC.skip ?_
            refine WC.seq (WC.region ?_)
            refine WR.s rfl rfl ?_
            refine WR.v (RunsV.to (v' := vI ((rn + 1 : Nat))) (RunsV.add (a := (rn : Int)) (by rw [← hr]; rfl) rfl (by omega)) (by simp)) rfl ?_
            refine WR.sL rfl rfl (WR.nil ?_)
            refine WC.seq ?_
            refine WC.draw [(false,0),(false,1),(false,2),(false,3),(false,4),(false,6),(false,7),(false,8),(false,9),(false,10),(false,12),(false,13),(false,14),(false,15),(true,5),(true,11),(true,16),(true,17),(false,18),(false,19),(false,20),(false,21),(false,22)] (same _) (by decide +kernel) (fun _ _ _ _ _ _ q => q) rfl ?_
            iterate 4 refine WQ.s rfl rfl rfl ?_
            refine WQ.rd rfl (RunsV.cvB rfl) rfl ?_
            iterate 4 refine WQ.s rfl rfl rfl ?_
            refine WQ.rd rfl (RunsV.cvB rfl) rfl ?_
            iterate 2 refine WQ.s rfl rfl rfl ?_
            refine WQ.rd rfl (RunsV.ix (Wt1.1.has (by omega)) i (by omega) rfl rfl rfl) rfl ?_
            refine WQ.rd rfl (RunsV.ldO Wt1.1 (by omega) rfl rfl (y := vB (wgt k m i)) (by rw [bcells_get (by omega)]; simp [wgts])) rfl ?_
            rw [toB_nat _ (by omega)]
            refine WQ.rc rfl (poly_Eval_spec F1 Oq1.any _) rfl rfl rfl (by omega) ?_
            rintro _ rfl
            refine WQ.rc rfl (poly_Eval_spec F1 Od1.any _) rfl rfl rfl (by omega) ?_
            rintro _ rfl
            refine WQ.rc rfl (gf_Field_Mul_spec F1 _ _) rfl rfl rfl (by omega) ?_
            rintro _ rfl
            refine WQ.rc rfl (gf_Field_Div_spec F1 _ _) rfl rfl rfl (by omega) ?_
            rintro _ rfl
            iterate 3 refine WQ.s rfl rfl rfl ?_
            refine WQ.sL rfl rfl rfl ?_
            refine WQ.s rfl rfl rfl ?_
            refine WQ.nil ?_
            refine WC.seq (WC.region ?_)
            iterate 2 refine WR.s rfl rfl ?_
            have hol := erI_len w ms (k + m)
            refine WR.v (RunsV.ix (Oo1.1.has (by omega)) i (by omega) rfl rfl rfl) rfl ?_
            refine WR.v (RunsV.ldO Oo1.1 (by omega) rfl rfl (y := vB (ro.getD i 0)) (by rw [bcells_get (by omega)]; congr 2; exact (cf_lt _).symm)) rfl ?_
            refine WR.s rfl rfl ?_
            refine WR.v (RunsV.xorB rfl rfl) rfl ?_
            refine WR.v (RunsV.ix (Oo1.1.has (by omega)) i (by omega) rfl rfl rfl) rfl ?_
            refine WR.stepU (RunsU.stO Oo1.1 (by omega) rfl rfl rfl) ?_
            rintro k2 ⟨O2, g, hg, hg2, hgv, U2⟩
            obtain ⟨g1, g2⟩ := hgo g hgv
            have X2' := X.upd U2 (.inl g1)
            have hk2 : k2.size = k1.size := U2.1
            have Wt2 := Wt1.upd U2 (fun q => by have := (Ow.1.blk q); omega)
            have Oq2 := Oq1.upd U2 (fun q => by have := (Oq1.1.blk q).1; omega)
            have Of2 := Of1.upd U2 (fun q => by have := (Of1.1.blk q).1; omega)
            have Od2 := Od1.upd U2 (fun q => by have := (Od1.1.blk q).1; omega)
            have Ow2 := Ow1.upd U2 (fun q => by have := (Ow1.1.blk q).1; omega)
            have Oo2 := OB.set O2 Oo1.2
            refine WR.nil ?_
            refine WC.seq (WC.region ?_)
            have M2 := Sl.ext M1 X2'
            have hgd : ms[i]'(by omega) = ms.getD i false := by rw [List.getD_eq_getElem?_getD, List.getElem?_eq_getElem (by omega)]; rfl
            iterate 2 refine WR.s rfl rfl ?_
            refine WR.v (RunsV.ix (M2.has (by omega)) i (by omega) rfl rfl rfl) rfl ?_
            refine WR.v (RunsV.ldE M2 (by omega) rfl rfl (tcells_get (by omega))) rfl ?_
            refine WR.s rfl rfl (WR.nil ?_)
            rw [hgd]
            refine WC.ite rfl (fun e5 => ?_) (fun e5 => ?_)
            · simp only [Bool.not_eq_true'] at e5
              rw [if_neg (by rw [e5]; simp)] at hstep
              refine WC.region ?_
              iterate 2 refine WR.s rfl rfl ?_
              refine WR.ap1T Ow2.1 (by omega) rfl rfl (fun _ => rfl) rfl rfl rfl (by omega) (by omega) ?_
              rintro x vw' k3 O3' K3 -
              refine WR.sL rfl rfl (WR.nil ?_)
              refine WC.region ?_
              refine WR.v (RunsV.add rfl rfl (by omega)) rfl ?_
              refine WR.sL rfl rfl (WR.nil ?_)
              have kp : ∀ {v : Value} {l : List UInt8} {c : Nat}, OB t_uint8 k2 c v l → OB t_uint8 k3 c v l := fun {v l c} o => o.keep K3 fun b hb q => absurd ((o.ty hb).inj (Ow2.1.ty q)) (by decide)
              refine ⟨(i + 1, vw'), ⟨rfl, rfl, rfl, rfl, rfl, rfl, rfl, rfl, rfl, rfl, by rw [hstep]; rfl, rfl, rfl, trivial⟩, ⟨hi', Keeps.own X2' Ow2.1 (by omega) K3, by have := K3.size; omega, ?_, ?_, kp Wt2, kp Oq2, kp Of2, kp Od2⟩, by dsimp only; omega⟩
              · dsimp only; rw [hstep]; exact kp Oo2
              · dsimp only; rw [hstep]; exact OI.snoc O3' (by omega)
            · simp only [Bool.not_eq_false'] at e5
              rw [if_pos e5] at hstep
              refine WC.skip ?_
              refine WC.region ?_
              refine WR.v (RunsV.add rfl rfl (by omega)) rfl ?_
              refine WR.sL rfl rfl (WR.nil ?_)
              refine ⟨(i + 1, vw), ⟨rfl, rfl, rfl, rfl, rfl, rfl, rfl, rfl, rfl, rfl, by rw [hstep]; rfl, rfl, rfl, trivial⟩, ⟨hi', X2', by omega, ?_, ?_, Wt2, Oq2, Of2, Od2⟩, by dsimp only; omega⟩
              · dsimp only; rw [hstep]; exact Oo2
              · dsimp only; rw [hstep]; exact Ow2
        · refine WC.exit (exit_hit ?_)
          obtain rfl : i = k + m := by omega
          have X01 := X1.trans X
          have hol := erI_len w ms (k + m)
          refine WC.seq (WC.region ?_)
          iterate 4 refine WR.s rfl rfl ?_
          refine WR.callT (syndrome_Of_spec (F.ext X01) k m hk hkm Oo1.any (by omega)) rfl rfl rfl ?_
          rintro _ k2 ⟨vs2, rfl, Os2, X2'⟩
          iterate 3 refine WR.s rfl rfl ?_
          refine WR.sL rfl rfl ?_
          refine WR.nil ?_
          have hf2 := Of1.1.form
          have hfl2 := Of1.2
          refine WC.seq (WC.seq (WC.region ?_))
          iterate 2 refine WR.s rfl rfl ?_
          refine WR.v (RunsV.lenF hf2 rfl) rfl ?_
          refine WR.v (RunsV.sub rfl rfl (by omega)) rfl ?_
          iterate 2 refine WR.s rfl rfl ?_
          refine WG.start rfl rfl ?_
          refine WG.s rfl rfl rfl rfl ?_
          refine WG.call rfl (fun _ => slices_ContainsFunc_byte_byte_spec Os2.any f_errdec_Word_1 #[] (· != 0) (fun x => errdec_Word_1_spec x)) rfl rfl rfl rfl rfl ?_
          refine WG.or rfl rfl (WR.nil ?_)
          have Xe := X01.trans X2'
          have hs1' := X01.size
          refine WC.ite rfl (fun e4 => ?_) (fun e4 => ?_)
          · refine WC.seq (WC.region ?_)
            iterate 3 refine WR.sL rfl rfl ?_
            refine WR.nil (WC.ret ⟨_, rfl, Xe, ?_⟩)
            rw [if_pos (by simpa using e4)] at hwp
            rw [hwp]; rfl
          · refine WC.skip ?_
            refine WC.seq (WC.region ?_)
            iterate 2 refine WR.s rfl rfl ?_
            iterate 3 refine WR.sL rfl rfl ?_
            refine WR.nil (WC.ret ⟨_, rfl, Xe, ?_⟩)
            rw [if_neg (by simpa using e4)] at hwp
            rw [hwp]
            have hsz := X1.size
            exact ⟨_, _, rfl, (Oo1.ext X2').rebase (by omega), (Ow1.ext X2').rebase (by omega)⟩
end Go.Eng
