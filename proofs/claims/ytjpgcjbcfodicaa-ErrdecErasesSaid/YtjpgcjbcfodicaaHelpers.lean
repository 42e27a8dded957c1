/- Steps of the proof: lemmas for every input, without conditions but those that each states. -/
import Derived.Test.YtjpgcjbcfodicaaInv
set_option linter.unusedSimpArgs false
set_option linter.unusedVariables false
namespace Go.Eng
def cntI (l : List Bool) (i : Nat) : Nat := ((l.take i).filter id).length
theorem cntI_succ {l : List Bool} {i : Nat} (hi : i < l.length) : cntI l (i + 1) = cntI l i + (if l[i] = true then 1 else 0) := by
  unfold cntI
  rw [List.take_succ_eq_append_getElem hi, List.filter_append, List.length_append]
  cases l[i] <;> simp
theorem cntI_le (l : List Bool) (i : Nat) : cntI l i ≤ i := by
  unfold cntI
  have := List.length_filter_le id (l.take i)
  rw [List.length_take] at this
  omega
theorem aumbrylaw10_count_spec {S : Nat → Prop} {h : Heap} {v : Value} {l : List Bool} (B : Bools S h v l) : Spec PP f_aumbrylaw10_count #[v] h (fun r h' => r = vI (cntI l l.length) ∧ h' = h) := by
  have hl := B.2.1
  refine Spec.body (C := c_aumbrylaw10_count) [(0, v)] h_aumbrylaw10_count rfl rfl rfl ⟨rfl, trivial⟩ rfl ?_
  refine WC.seq (WC.region ?_)
  refine WR.sL rfl rfl (WR.nil ?_)
  refine WC.seq (WC.region ?_)
  refine WR.sL rfl rfl (WR.nil ?_)
  refine WC.seq (WC.seq (WC.region ?_))
  refine WR.sL rfl rfl (WR.nil ?_)
  refine WC.block ?_
  refine WC.loop (σ := Nat) (fun i => [(0, v), (3, vI (cntI l i)), (4, vI i)]) (fun i h' => i ≤ l.length ∧ h' = h) (fun i => l.length - i) 0 (fun _ => rfl)
    ⟨rfl, rfl, rfl, trivial⟩ ⟨by omega, rfl⟩ ?_
  rintro i h ⟨hi, rfl⟩
  have hc := cntI_le l i
  refine WC.seq (WC.seq (WC.region ?_))
  iterate 2 refine WR.s rfl rfl ?_
  refine WR.v (RunsV.lenSl B rfl) rfl ?_
  refine WR.s rfl rfl (WR.nil ?_)
  refine WC.itep rfl (fun e => ?_) (fun e => ?_)
  · have hi' : i < l.length := by omega
    refine WC.skip ?_
    refine WC.seq (WC.block ?_)
    refine WC.seq (WC.region ?_)
    iterate 2 refine WR.s rfl rfl ?_
    refine WR.v (RunsV.ix (B.has (by omega)) i hi' rfl rfl rfl) rfl ?_
    refine WR.v (RunsV.ldE B (by omega) rfl rfl (tcells_get hi')) rfl (WR.nil ?_)
    refine WC.ite rfl (fun e2 => ?_) (fun e2 => ?_)
    · refine WC.region ?_
      refine WR.s rfl rfl ?_
      refine WR.v (RunsV.to (v' := vI ((cntI l i + 1 : Nat))) (RunsV.add rfl rfl (by omega)) (by simp)) rfl ?_
      refine WR.sL rfl rfl (WR.nil ?_)
      refine WC.region ?_
      refine WR.s rfl rfl ?_
      refine WR.v (RunsV.add rfl rfl (by omega)) rfl ?_
      refine WR.sL rfl rfl (WR.nil ?_)
      exact ⟨i + 1, ⟨rfl, by rw [cntI_succ hi', if_pos e2]; rfl, rfl, trivial⟩, ⟨hi', rfl⟩, by dsimp only; omega⟩
    · refine WC.skip ?_
      refine WC.region ?_
      refine WR.s rfl rfl ?_
      refine WR.v (RunsV.add rfl rfl (by omega)) rfl ?_
      refine WR.sL rfl rfl (WR.nil ?_)
      exact ⟨i + 1, ⟨rfl, by rw [cntI_succ hi', if_neg (by rw [e2]; simp)]; rfl, rfl, trivial⟩, ⟨hi', rfl⟩, by dsimp only; omega⟩
  · refine WC.exit (exit_hit ?_)
    obtain rfl : i = l.length := by omega
    refine WC.seq (WC.region ?_)
    refine WR.s rfl rfl ?_
    refine WR.sL rfl rfl (WR.nil ?_)
    exact WC.ret ⟨_, rfl, rfl, rfl⟩
theorem aumbryref02_Same_spec {S T : Nat → Prop} {h : Heap} {v w : Value} {l k : List UInt8} (B : Bytes S h v l) (D : Bytes T h w k) : Spec PP f_aumbryref02_Same #[v, w] h (fun r h' => r = vb (decide (l = k)) ∧ h' = h) := by
  have hl := B.2.1
  have hl2 := D.2.1
  refine Spec.body (C := c_aumbryref02_Same) [(0, v), (1, w)] h_aumbryref02_Same rfl rfl rfl ⟨rfl, rfl, trivial⟩ rfl ?_
  refine WC.seq (WC.region ?_)
  refine WR.sL rfl rfl (WR.nil ?_)
  refine WC.seq (WC.seq (WC.region ?_))
  refine WR.s rfl rfl ?_
  refine WR.v (RunsV.lenSl B rfl) rfl ?_
  refine WR.s rfl rfl ?_
  refine WR.v (RunsV.lenSl D rfl) rfl ?_
  refine WR.s rfl rfl (WR.nil ?_)
  refine WC.itep rfl (fun e => ?_) (fun e => ?_)
  · refine WC.seq (WC.region ?_)
    refine WR.sL rfl rfl (WR.nil ?_)
    refine WC.ret ⟨_, rfl, ?_, rfl⟩
    rw [decide_eq_false (fun q => by subst q; exact e rfl)]; rfl
  · have hle : l.length = k.length := by omega
    refine WC.skip ?_
    refine WC.seq (WC.seq (WC.region ?_))
    refine WR.sL rfl rfl (WR.nil ?_)
    refine WC.block ?_
    refine WC.loop (σ := Nat) (fun i => [(0, v), (1, w), (4, vb false), (5, vI i)]) (fun i h' => i ≤ l.length ∧ h' = h ∧ l.take i = k.take i) (fun i => l.length - i) 0 (fun _ => rfl)
      ⟨rfl, rfl, rfl, rfl, trivial⟩ ⟨by omega, rfl, rfl⟩ ?_
    rintro i h ⟨hi, rfl, ht⟩
    refine WC.seq (WC.seq (WC.region ?_))
    iterate 2 refine WR.s rfl rfl ?_
    refine WR.v (RunsV.lenSl B rfl) rfl ?_
    refine WR.s rfl rfl (WR.nil ?_)
    refine WC.itep rfl (fun e2 => ?_) (fun e2 => ?_)
    · have hi' : i < l.length := by omega
      refine WC.skip ?_
      refine WC.seq (WC.block ?_)
      refine WC.seq ?_
      refine WC.draw [(false,0),(false,1),(false,2),(false,3),(false,4),(false,5),(false,6),(false,7),(false,8)] (same _) (by decide +kernel) (fun _ _ _ _ _ _ q => q) rfl ?_
      iterate 2 refine WQ.s rfl rfl rfl ?_
      refine WQ.rd rfl (RunsV.ix (B.has (by omega)) i hi' rfl rfl rfl) rfl ?_
      refine WQ.rd rfl (RunsV.ldE B (by omega) rfl rfl (bcells_get hi')) rfl ?_
      iterate 2 refine WQ.s rfl rfl rfl ?_
      refine WQ.rd rfl (RunsV.ix (D.has (by omega)) i (by omega) rfl rfl rfl) rfl ?_
      refine WQ.rd rfl (RunsV.ldE D (by omega) rfl rfl (bcells_get (by omega))) rfl ?_
      refine WQ.s rfl rfl rfl ?_
      refine WQ.nil ?_
      refine WC.itep rfl (fun e3 => ?_) (fun e3 => ?_)
      · refine WC.seq (WC.region ?_)
        refine WR.sL rfl rfl (WR.nil ?_)
        refine WC.ret ⟨_, rfl, ?_, rfl⟩
        rw [decide_eq_false (fun q => by subst q; exact e3 rfl)]; rfl
      · refine WC.skip ?_
        refine WC.region ?_
        refine WR.s rfl rfl ?_
        refine WR.v (RunsV.add rfl rfl (by omega)) rfl ?_
        refine WR.sL rfl rfl (WR.nil ?_)
        refine ⟨i + 1, ⟨rfl, rfl, rfl, rfl, trivial⟩, ⟨hi', rfl, ?_⟩, by dsimp only; omega⟩
        have : l[i] = k[i]'(by omega) := by
          have : l[i].toNat = (k[i]'(by omega)).toNat := by omega
          exact UInt8.toNat_inj.1 this
        rw [List.take_succ_eq_append_getElem hi', List.take_succ_eq_append_getElem (show i < k.length by omega), ht, this]
    · refine WC.exit (exit_hit ?_)
      obtain rfl : i = l.length := by omega
      rw [List.take_length, hle, List.take_length] at ht
      refine WC.seq (WC.region ?_)
      refine WR.sL rfl rfl (WR.nil ?_)
      refine WC.ret ⟨_, rfl, ?_, rfl⟩
      rw [decide_eq_true ht]; rfl
end Go.Eng
namespace Go.Eng
/-- Each byte as a shard. -/
def colL (l : List UInt8) : List (List UInt8) := l.map fun x => [x]
theorem aumbryref08_Column_spec {S : Nat → Prop} {h : Heap} {v : Value} {l : List UInt8} (B : Bytes S h v l) (hl : l.length ≤ 100000) : Spec PP f_aumbryref08_Column #[v] h (fun r h' => ∃ vs, Rows false h' h.size r vs (colL l) ∧ Ext h h') := by
  refine Spec.body (C := c_aumbryref08_Column) [(0, v)] h_aumbryref08_Column rfl rfl rfl ⟨rfl, trivial⟩ rfl ?_
  refine WC.seq (WC.region ?_)
  refine WR.sL rfl rfl (WR.nil ?_)
  refine WC.seq (WC.region ?_)
  refine WR.sL rfl rfl (WR.nil ?_)
  refine WC.seq (WC.seq (WC.region ?_))
  refine WR.sL rfl rfl (WR.nil ?_)
  refine WC.block ?_
  refine WC.loop (σ := Nat × Value) (fun q => [(0, v), (3, q.2), (4, vI q.1)]) (fun q h' => q.1 ≤ l.length ∧ Ext h h' ∧ ∃ vs, Rows false h' h.size q.2 vs (colL (l.take q.1))) (fun q => l.length - q.1) (0, .slice none 0 0) (fun _ => rfl)
    ⟨rfl, rfl, rfl, trivial⟩ ⟨by simp, Ext.refl _, [], by simpa [colL] using Rows.nils (n := 0) (Own.nil h h.size t_sl_uint8 1) (by omega)⟩ ?_
  rintro ⟨i, o⟩ h1 ⟨hi, X, vs, R⟩
  dsimp only at hi R
  have hcl : (colL (l.take i)).length = i := by simp [colL]; omega
  refine WC.seq (WC.seq (WC.region ?_))
  iterate 2 refine WR.s rfl rfl ?_
  refine WR.v (RunsV.lenSl (B.ext X) rfl) rfl ?_
  refine WR.s rfl rfl (WR.nil ?_)
  refine WC.itep rfl (fun e => ?_) (fun e => ?_)
  · have hi' : i < l.length := by omega
    have B1 := B.ext X
    have hs := X.size
    refine WC.skip ?_
    refine WC.seq (WC.block ?_)
    refine WC.region ?_
    iterate 3 refine WR.s rfl rfl ?_
    refine WR.v (RunsV.ix (B1.has (by omega)) i hi' rfl rfl rfl) rfl ?_
    refine WR.v (RunsV.ldE B1 (by omega) rfl rfl (bcells_get hi')) rfl ?_
    refine WR.stepT (Runs.bs1 rfl rfl rfl) rfl ?_
    rintro _ h2 ⟨rfl, e2⟩
    have X2 : Ext h1 h2 := by rw [e2]; exact (Ext.refl _).push _
    have O2 : OB t_uint8 h2 h1.size (.slice (some ⟨h1.size, 0, none⟩) 1 1) [l[i]] := by rw [e2]; exact OB.lit1
    have R2 := R.keep X2 (fun _ _ _ => trivial)
    refine WR.ap1T R2.own (by have := X2.size; omega) rfl rfl (fun _ => rfl) rfl rfl rfl (by omega) (by omega) ?_
    rintro x v' h3 O3 K3 -
    refine WR.sL rfl rfl (WR.nil ?_)
    refine WC.region ?_
    refine WR.s rfl rfl ?_
    refine WR.v (RunsV.add rfl rfl (by omega)) rfl ?_
    refine WR.sL rfl rfl (WR.nil ?_)
    have R3 := R2.snoc O2 X.size (fun j x g hj e1 e2 => (R.lt hj e1 rfl e2).2) K3 O3 (by omega)
    refine ⟨(i + 1, v'), ⟨rfl, rfl, rfl, trivial⟩, ⟨hi', Keeps.own (X.trans X2) R2.own (Nat.le_refl _) K3, vs ++ [.slice (some ⟨h1.size, 0, none⟩) 1 1], ?_⟩, by dsimp only; omega⟩
    dsimp only
    rw [List.take_succ_eq_append_getElem hi', colL, List.map_append]
    exact R3
  · refine WC.exit (exit_hit ?_)
    obtain rfl : i = l.length := by omega
    rw [List.take_length] at R
    refine WC.seq (WC.region ?_)
    refine WR.s rfl rfl ?_
    refine WR.sL rfl rfl (WR.nil ?_)
    exact WC.ret ⟨_, rfl, vs, R, X⟩
theorem aumbryref08_Line_spec {S : Nat → Prop} {h : Heap} {v : Value} {ll : List (List UInt8)} (D : BytesL S h v ll) (hl : ll.length ≤ 100000) (hl1 : ∀ l ∈ ll, l.length ≤ 100000) : Spec PP f_aumbryref08_Line #[v] h (fun r h' => OB t_uint8 h' h.size r ll.flatten ∧ Ext h h') := by
  obtain ⟨us, Q, rows⟩ := D
  refine Spec.body (C := c_aumbryref08_Line) [(0, v)] h_aumbryref08_Line rfl rfl rfl ⟨rfl, trivial⟩ rfl ?_
  refine WC.seq (WC.region ?_)
  refine WR.sL rfl rfl (WR.nil ?_)
  refine WC.seq (WC.region ?_)
  refine WR.sL rfl rfl (WR.nil ?_)
  refine WC.seq (WC.seq (WC.region ?_))
  refine WR.sL rfl rfl (WR.nil ?_)
  refine WC.block ?_
  refine WC.loop (σ := Nat × Value) (fun q => [(0, v), (3, q.2), (4, vI q.1)]) (fun q h' => q.1 ≤ ll.length ∧ Ext h h' ∧ OB t_uint8 h' h.size q.2 (ll.take q.1).flatten ∧ (ll.take q.1).flatten.length ≤ q.1 * 100000) (fun q => ll.length - q.1) (0, .slice none 0 0) (fun _ => rfl)
    ⟨rfl, rfl, rfl, trivial⟩ ⟨by simp, Ext.refl _, by simpa using OB.nil _ _ _, by simp⟩ ?_
  rintro ⟨i, o⟩ h1 ⟨hi, X, O, hb⟩
  dsimp only at hi O hb
  refine WC.seq (WC.seq (WC.region ?_))
  iterate 2 refine WR.s rfl rfl ?_
  refine WR.v (RunsV.lenSl (Q.ext X) rfl) rfl ?_
  refine WR.s rfl rfl (WR.nil ?_)
  refine WC.itep rfl (fun e => ?_) (fun e => ?_)
  · have hi' : i < ll.length := by omega
    have Q1 := Q.ext X
    obtain ⟨x, hx, Dx⟩ := rows i hi'
    have D1 := Dx.ext X
    have hs := X.size
    have hli := hl1 _ (List.getElem_mem hi')
    have hib : i * 100000 ≤ 100000 * 100000 := Nat.mul_le_mul_right _ (by omega)
    refine WC.skip ?_
    refine WC.seq (WC.block ?_)
    refine WC.region ?_
    iterate 3 refine WR.s rfl rfl ?_
    refine WR.v (RunsV.ix (Q1.has (by omega)) i hi' rfl rfl rfl) rfl ?_
    refine WR.v (RunsV.ldE Q1 (by omega) rfl rfl hx) rfl ?_
    refine WR.stepT (Runs.ap O.1 hs D1 rfl rfl rfl (by omega) (bcells_one _) (by omega) (by omega)) rfl ?_
    rintro v' h2 ⟨O2, K2, -⟩
    refine WR.sL rfl rfl (WR.nil ?_)
    refine WC.region ?_
    refine WR.s rfl rfl ?_
    refine WR.v (RunsV.add rfl rfl (by omega)) rfl ?_
    refine WR.sL rfl rfl (WR.nil ?_)
    have ef : (ll.take (i + 1)).flatten = (ll.take i).flatten ++ ll[i] := by rw [List.take_succ_eq_append_getElem hi', List.flatten_append]; simp
    have hlen : ((ll.take i).flatten ++ ll[i]).length = (ll.take i).flatten.length + ll[i].length := List.length_append
    refine ⟨(i + 1, v'), ⟨rfl, rfl, rfl, trivial⟩, ⟨hi', Keeps.own X O.1 (Nat.le_refl _) K2, ?_, ?_⟩, by dsimp only; omega⟩
    · dsimp only
      rw [ef]
      exact ⟨by rw [hlen, bcells_append]; exact O2, by omega⟩
    · dsimp only
      rw [ef, hlen, Nat.succ_mul]
      omega
  · refine WC.exit (exit_hit ?_)
    obtain rfl : i = ll.length := by omega
    rw [List.take_length] at O
    refine WC.seq (WC.region ?_)
    refine WR.s rfl rfl ?_
    refine WR.sL rfl rfl (WR.nil ?_)
    exact WC.ret ⟨_, rfl, O, X⟩
end Go.Eng
namespace Go.Eng
theorem aumbryref06_Same_spec {S T : Nat → Prop} {h : Heap} {v w : Value} {l k : List (List UInt8)} (B : BytesL S h v l) (D : BytesL T h w k) : Spec PP f_aumbryref06_Same #[v, w] h (fun r h' => r = vb (decide (l = k)) ∧ h' = h) := by
  obtain ⟨us, Q, rows⟩ := B
  obtain ⟨ws, Q', rows'⟩ := D
  have hl := Q.2.1
  have hl2 := Q'.2.1
  refine Spec.body (C := c_aumbryref06_Same) [(0, v), (1, w)] h_aumbryref06_Same rfl rfl rfl ⟨rfl, rfl, trivial⟩ rfl ?_
  refine WC.seq (WC.region ?_)
  refine WR.sL rfl rfl (WR.nil ?_)
  refine WC.seq (WC.seq (WC.region ?_))
  refine WR.s rfl rfl ?_
  refine WR.v (RunsV.lenSl Q rfl) rfl ?_
  refine WR.s rfl rfl ?_
  refine WR.v (RunsV.lenSl Q' rfl) rfl ?_
  refine WR.s rfl rfl (WR.nil ?_)
  refine WC.itep rfl (fun e => ?_) (fun e => ?_)
  · refine WC.seq (WC.region ?_)
    refine WR.sL rfl rfl (WR.nil ?_)
    refine WC.ret ⟨_, rfl, ?_, rfl⟩
    rw [decide_eq_false (fun q => by subst q; exact e rfl)]; rfl
  · have hle : l.length = k.length := by omega
    refine WC.skip ?_
    refine WC.seq (WC.seq (WC.region ?_))
    refine WR.sL rfl rfl (WR.nil ?_)
    refine WC.block ?_
    refine WC.loop (σ := Nat) (fun i => [(0, v), (1, w), (4, vb false), (5, vI i)]) (fun i h' => i ≤ l.length ∧ h' = h ∧ l.take i = k.take i) (fun i => l.length - i) 0 (fun _ => rfl)
      ⟨rfl, rfl, rfl, rfl, trivial⟩ ⟨by omega, rfl, rfl⟩ ?_
    rintro i h ⟨hi, rfl, ht⟩
    refine WC.seq (WC.seq (WC.region ?_))
    iterate 2 refine WR.s rfl rfl ?_
    refine WR.v (RunsV.lenSl Q rfl) rfl ?_
    refine WR.s rfl rfl (WR.nil ?_)
    refine WC.itep rfl (fun e2 => ?_) (fun e2 => ?_)
    · have hi' : i < l.length := by omega
      obtain ⟨x, hx, Dx⟩ := rows i hi'
      obtain ⟨y, hy, Dy⟩ := rows' i (by omega)
      refine WC.skip ?_
      refine WC.seq (WC.block ?_)
      refine WC.seq ?_
      refine WC.draw [(false,0),(false,1),(false,2),(false,3),(false,4),(false,5),(false,6),(false,7),(true,8),(false,9)] (same _) (by decide +kernel) (fun _ _ _ _ _ _ q => q) rfl ?_
      iterate 2 refine WQ.s rfl rfl rfl ?_
      refine WQ.rd rfl (RunsV.ix (Q.has (by omega)) i hi' rfl rfl rfl) rfl ?_
      refine WQ.rd rfl (RunsV.ldE Q (by omega) rfl rfl hx) rfl ?_
      iterate 2 refine WQ.s rfl rfl rfl ?_
      refine WQ.rd rfl (RunsV.ix (Q'.has (by omega)) i (by omega) rfl rfl rfl) rfl ?_
      refine WQ.rd rfl (RunsV.ldE Q' (by omega) rfl rfl hy) rfl ?_
      refine WQ.rc rfl (aumbryref02_Same_spec Dx Dy) rfl rfl rfl (by omega) ?_
      rintro _ rfl
      refine WQ.sL rfl rfl rfl ?_
      refine WQ.nil ?_
      refine WC.seq (WC.region ?_)
      iterate 2 refine WR.s rfl rfl ?_
      refine WR.nil ?_
      refine WC.ite rfl (fun e3 => ?_) (fun e3 => ?_)
      · refine WC.seq (WC.region ?_)
        refine WR.sL rfl rfl (WR.nil ?_)
        refine WC.ret ⟨_, rfl, ?_, rfl⟩
        rw [decide_eq_false (fun q => by subst q; simp at e3)]; rfl
      · refine WC.skip ?_
        refine WC.region ?_
        refine WR.s rfl rfl ?_
        refine WR.v (RunsV.add rfl rfl (by omega)) rfl ?_
        refine WR.sL rfl rfl (WR.nil ?_)
        refine ⟨i + 1, ⟨rfl, rfl, rfl, rfl, trivial⟩, ⟨hi', rfl, ?_⟩, by dsimp only; omega⟩
        have : l[i] = k[i]'(by omega) := by simpa using e3
        rw [List.take_succ_eq_append_getElem hi', List.take_succ_eq_append_getElem (show i < k.length by omega), ht, this]
    · refine WC.exit (exit_hit ?_)
      obtain rfl : i = l.length := by omega
      rw [List.take_length, hle, List.take_length] at ht
      refine WC.seq (WC.region ?_)
      refine WR.sL rfl rfl (WR.nil ?_)
      refine WC.ret ⟨_, rfl, ?_, rfl⟩
      rw [decide_eq_true ht]; rfl
end Go.Eng
