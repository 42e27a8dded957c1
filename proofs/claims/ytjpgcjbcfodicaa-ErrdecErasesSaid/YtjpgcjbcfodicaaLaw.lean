/- The law's own walk: over any bytes and bools it returns true if the plain facts of L10 hold; L10 is its one condition. -/
import Derived.Test.YtjpgcjbcfodicaaErase
set_option linter.unusedSimpArgs false
set_option linter.unusedVariables false
namespace Go.Eng
section
variable {C : Ctx} {tm lo : Env} {h : Heap}
/-- []T{x, y, z}. -/
theorem Runs.bs3 {T E : TypeId} {z : Value} {bytes : Nat} [u : Und C.P T (.slice E)] [i : Inf C.P E z 1 bytes] (hz : z.cells = #[z]) {x y t : Operand} {a b c : Value} (hx : opv tm lo x = some a) (hy : opv tm lo y = some b) (ht : opv tm lo t = some c) (h1 : oneCell a = true) (h2 : oneCell b = true) (h3 : oneCell c = true) :
    Runs C tm lo h (.buildSlice T 3 #[(0, x), (1, y), (2, t)]) (fun v h' => Own h' h.size E 1 v 3 [a, b, c] ∧ Ext h h') := fun c' w F hh _ _ _ _ _ => by
  subst hh
  obtain ⟨info, hi, hi1, hi2, hi3⟩ := i.parts
  refine ⟨.slice (some ⟨w.heap.size, 0, none⟩) 3 3, { w with heap := w.heap.push (.cells #[a, b, c] E (0, 0)) }, ?_, ⟨rfl, rfl, rfl⟩, Own.lit (cs := [a, b, c]) (by simp), (Ext.refl _).push _⟩
  have hca := oneCell_cells h1
  have hcb := oneCell_cells h2
  have hcc := oneCell_cells h3
  simp [execOp, Instr.buildSlice, underlying, u.h, sizeOf, typeInfo, hi, hi1, hi2, zeroValue, hz, Instr.fill, F.eval hx, F.eval hy, F.eval ht, hca, hcb, hcc, newRow]
  have : (((Array.map (fun x => [z][x % 1]?.getD default) (Array.range 3)).setIfInBounds 0 a).setIfInBounds 1 b).setIfInBounds 2 c = #[a, b, c] := by
    apply Array.ext
    · simp
    · intro i h1 h2
      have : i = 0 ∨ i = 1 ∨ i = 2 := by simp at h2; omega
      rcases this with rfl | rfl | rfl <;> simp
  first | rw [this]; rfl | exact congrArg (fun q => w.alloc (Obj.cells q E)) this
end
theorem Fld.one {S : Nat → Prop} {h : Heap} {b : Nat} (F : Fld S h b) : Fld (fun i => i = b) h b ∧ b < h.size := by
  refine ⟨⟨rfl, F.2.1, F.2.2⟩, ?_⟩
  have := F.2.1 0 (by omega)
  rcases Nat.lt_or_ge b h.size with q | q
  · exact q
  · unfold hc at this
    rw [Array.getElem?_eq_none q] at this
    cases this
theorem aw10_a : wordP 1 2 [5, 9, 140] [false, false, false] = some ([5, 5, 140], [1]) := by decide +kernel
theorem aw10_g : wordP 1 2 [5, 9, 7] [false, false, false] = none := by decide +kernel
theorem aw10_n : sizeP 1 2 [true, false, true] [[14], [], [7]] = 1 := by decide +kernel
theorem aw10_s : shI 1 2 [true, false, true] [[14], [], [7]] 1 = some ([[14], [14], [7]], []) := by decide +kernel
theorem tcells3 {h : Heap} {base : Nat} {v : Value} {a b c : Bool} (o : Own h base t_bool 1 v 3 [.bool a, .bool b, .bool c]) : Bools (fun b => v.ownBlock = some b) h v [a, b, c] := o.sl (by omega)
theorem ob3 {h : Heap} {base : Nat} {v : Value} {a b c : UInt8} (o : Own h base t_uint8 1 v 3 [vB a, vB b, vB c]) : OB t_uint8 h base v [a, b, c] := ⟨o, by simp⟩
/-- Three rows. -/
theorem rows3 {h : Heap} {base : Nat} {S : Nat → Prop} {v x y z : Value} {a b c : List UInt8} (o : Own h base t_sl_uint8 1 v 3 [x, y, z]) (ho : ∀ g, v.ownBlock = some g → S g) (hx : Bytes S h x a) (hy : Bytes S h y b) (hz : Bytes S h z c) : BytesL S h v [a, b, c] :=
  ⟨[x, y, z], Sl.mono (o.sl (by omega)) (fun b _ e => ho b e) (by omega), fun i hi => by
    have : i = 0 ∨ i = 1 ∨ i = 2 := by simp at hi; omega
    rcases this with rfl | rfl | rfl
    · exact ⟨x, rfl, hx⟩
    · exact ⟨y, rfl, hy⟩
    · exact ⟨z, rfl, hz⟩⟩
theorem aumbrylaw10_awake_spec {h : Heap} : Spec PP f_aumbrylaw10_awake #[] h (fun v h' => v = vb true ∧ Ext h h') := by
  refine Spec.body (args := []) (C := c_aumbrylaw10_awake) [] h_aumbrylaw10_awake rfl rfl rfl trivial rfl ?_
  refine WC.seq (WC.region ?_)
  refine WR.sL rfl rfl (WR.nil ?_)
  refine WC.seq (WC.region ?_)
  refine WR.callT gf_New_spec rfl rfl rfl ?_
  rintro _ h1 ⟨f, rfl, F0, X1⟩
  have F := F0.one.1
  clear F0
  refine WR.sL rfl rfl (WR.nil ?_)
  refine WC.seq (WC.seq (WC.region ?_))
  refine WR.s rfl rfl ?_
  refine WR.v (RunsV.eqNil rfl rfl) rfl ?_
  refine WR.nil ?_
  refine WC.ff rfl rfl (WC.skip ?_)
  refine WC.seq (WC.region ?_)
  refine WR.s rfl rfl ?_
  refine WR.stepT (Runs.bs3 rfl rfl rfl rfl rfl rfl rfl) rfl ?_
  rintro w1 h2 ⟨W1, X2⟩
  refine WR.stepT (Runs.bs3 rfl rfl rfl rfl rfl rfl rfl) rfl ?_
  rintro m1 h3 ⟨M1, X3⟩
  refine WR.callT (errdec_Word_spec (F.ext (X2.trans X3)) 1 2 (by omega) (by omega) (ob3 (a := 5) (b := 9) (c := 140) (W1.ext X3)).bytes (tcells3 M1) rfl rfl) rfl rfl rfl ?_
  rw [aw10_a]
  rintro _ h4 ⟨X4, a, w, rfl, A, W⟩
  iterate 4 refine WR.s rfl rfl ?_
  iterate 3 refine WR.sL rfl rfl ?_
  refine WR.nil ?_
  have X14 := (X2.trans X3).trans X4
  have F4 := F.ext X14
  have X04 := X1.trans X14
  clear W1 M1 X1 X2 X3 X4 F
  refine WC.seq (WC.region ?_)
  refine WR.s rfl rfl ?_
  refine WR.stepT (Runs.bs3 rfl rfl rfl rfl rfl rfl rfl) rfl ?_
  rintro w1 h2 ⟨W1, X2⟩
  refine WR.stepT (Runs.bs3 rfl rfl rfl rfl rfl rfl rfl) rfl ?_
  rintro m1 h3 ⟨M1, X3⟩
  refine WR.callT (errdec_Word_spec (F4.ext (X2.trans X3)) 1 2 (by omega) (by omega) (ob3 (a := 5) (b := 9) (c := 7) (W1.ext X3)).bytes (tcells3 M1) rfl rfl) rfl rfl rfl ?_
  rw [aw10_g]
  rintro _ h5 ⟨X5, rfl⟩
  iterate 4 refine WR.s rfl rfl ?_
  iterate 2 refine WR.s rfl rfl ?_
  refine WR.sL rfl rfl ?_
  refine WR.nil ?_
  have X45 := (X2.trans X3).trans X5
  have F5 := F4.ext X45
  have A5 := A.ext X45
  have O5 := W.ext X45
  have X05 := X04.trans X45
  clear W1 M1 X2 X3 X5 F4 A W X04 X45 X14
  refine WC.seq (WC.region ?_)
  refine WR.s rfl rfl ?_
  refine WR.stepT (Runs.bs3 rfl rfl rfl rfl rfl rfl rfl) rfl ?_
  rintro m1 h6 ⟨M1, X6⟩
  refine WR.stepT (Runs.bs1 rfl (e := vB 14) rfl rfl) rfl ?_
  rintro _ h7 ⟨rfl, e7⟩
  refine WR.stepT (Runs.bs1 rfl (e := vB 7) rfl rfl) rfl ?_
  rintro _ h8 ⟨rfl, e8⟩
  refine WR.stepT (Runs.bs3 rfl rfl rfl rfl rfl rfl rfl) rfl ?_
  rintro s1 h9 ⟨S1, X9⟩
  have X7 : Ext h6 h7 := by rw [e7]; exact (Ext.refl _).push _
  have X8 : Ext h7 h8 := by rw [e8]; exact (Ext.refl _).push _
  have X69 := (X7.trans X8).trans X9
  have X59 := X6.trans X69
  have D1 : OB t_uint8 h7 h6.size (.slice (some ⟨h6.size, 0, none⟩) 1 1) [14] := by rw [e7]; exact OB.lit1
  have D2 : OB t_uint8 h8 h7.size (.slice (some ⟨h7.size, 0, none⟩) 1 1) [7] := by rw [e8]; exact OB.lit1
  have DL : BytesL (fun _ => True) h9 s1 [[14], [], [7]] := rows3 S1 (fun _ _ => trivial) (D1.ext (X8.trans X9)).any (OB.nil t_uint8 h9 0).any (D2.ext X9).any
  have F9 := F5.ext X59
  refine WR.callT (errdec_Shards_spec F9 (fun i e => by subst e; exact F9.one.2) (1 : Nat) (2 : Nat) (tcells3 (M1.ext X69)) DL (by show sizeP 1 2 [true, false, true] [[14], [], [7]] ≤ 1000000; rw [aw10_n]; omega)) rfl rfl rfl ?_
  have e1 : sizeP (((1 : Nat) : Int)).toNat (((2 : Nat) : Int)).toNat [true, false, true] [[14], [], [7]] = 1 := aw10_n
  have e2 : shI (((1 : Nat) : Int)).toNat (((2 : Nat) : Int)).toNat [true, false, true] [[14], [], [7]] (1 : Int).toNat = some ([[14], [14], [7]], []) := aw10_s
  rw [e1, e2]
  rintro _ hA ⟨XA, ⟨q, _⟩ | ⟨_, q, _⟩ | ⟨_, _, x, vs, y, rfl, R, Y⟩⟩
  · exact absurd (chk_iff.2 (by omega)) q
  · omega
  iterate 4 refine WR.s rfl rfl ?_
  iterate 3 refine WR.sL rfl rfl ?_
  refine WR.nil ?_
  have Y' : OI t_int hA h9.size y [] := by
    have q : Lib.compact (([] : List Int).mergeSort fun x y => decide (x ≤ y)) = [] := by rw [List.mergeSort_nil]; rfl
    exact q ▸ Y
  have X5A := X59.trans XA
  have A6 := A5.ext X5A
  have O6 := O5.ext X5A
  have X0A := X05.trans X5A
  refine WC.seq (WC.region ?_)
  refine WR.s rfl rfl ?_
  refine WR.stepT (Runs.bs3 rfl rfl rfl rfl rfl rfl rfl) rfl ?_
  rintro w1 hB ⟨W1, XB⟩
  refine WR.callT (aumbryref02_Same_spec (A6.ext XB).bytes (ob3 (a := 5) (b := 5) (c := 140) W1).bytes) rfl rfl rfl ?_
  rintro _ hB ⟨rfl, rfl⟩
  refine WR.sL rfl rfl (WR.nil ?_)
  refine WC.seq (WC.region ?_)
  refine WR.s rfl rfl ?_
  refine WR.stepT (Runs.bs1 rfl (e := vB 14) rfl rfl) rfl ?_
  rintro _ hC ⟨rfl, eC⟩
  refine WR.stepT (Runs.bs1 rfl (e := vB 14) rfl rfl) rfl ?_
  rintro _ hD ⟨rfl, eD⟩
  refine WR.stepT (Runs.bs1 rfl (e := vB 7) rfl rfl) rfl ?_
  rintro _ hE ⟨rfl, eE⟩
  refine WR.stepT (Runs.bs3 rfl rfl rfl rfl rfl rfl rfl) rfl ?_
  rintro s2 hF ⟨S2, XF⟩
  have XC : Ext hB hC := by rw [eC]; exact (Ext.refl _).push _
  have XD : Ext hC hD := by rw [eD]; exact (Ext.refl _).push _
  have XE : Ext hD hE := by rw [eE]; exact (Ext.refl _).push _
  have D1 : OB t_uint8 hC hB.size (.slice (some ⟨hB.size, 0, none⟩) 1 1) [14] := by rw [eC]; exact OB.lit1
  have D2 : OB t_uint8 hD hC.size (.slice (some ⟨hC.size, 0, none⟩) 1 1) [14] := by rw [eD]; exact OB.lit1
  have D3 : OB t_uint8 hE hD.size (.slice (some ⟨hD.size, 0, none⟩) 1 1) [7] := by rw [eE]; exact OB.lit1
  have DL2 : BytesL (fun _ => True) hF s2 [[14], [14], [7]] := rows3 S2 (fun _ _ => trivial) (D1.ext ((XD.trans XE).trans XF)).any (D2.ext (XE.trans XF)).any (D3.ext XF).any
  have XBF : Ext hB hF := ((XC.trans XD).trans XE).trans XF
  have XAF := XB.trans XBF
  refine WR.callT (aumbryref06_Same_spec (R.keep XAF (fun _ _ _ => trivial)).read DL2) rfl rfl rfl ?_
  rintro _ hF ⟨rfl, rfl⟩
  refine WR.sL rfl rfl (WR.nil ?_)
  have O7 := (O6.ext XAF).ints
  have Y7 := (Y'.ext XAF).ints
  refine WC.seq (WC.region ?_)
  iterate 2 refine WR.s rfl rfl ?_
  refine WG.start rfl rfl ?_
  refine WG.s rfl rfl rfl rfl ?_
  refine WG.and rfl rfl ?_
  refine WR.s rfl rfl ?_
  refine WG.start rfl rfl ?_
  refine WG.s rfl rfl rfl rfl ?_
  refine WG.v rfl (fun e => RunsV.lenSl O7 rfl) rfl rfl ?_
  refine WG.s rfl rfl rfl rfl ?_
  refine WG.and rfl rfl ?_
  refine WR.s rfl rfl ?_
  refine WG.start rfl rfl ?_
  refine WG.s rfl rfl rfl rfl ?_
  refine WG.v rfl (fun e => RunsV.ix (O7.has (by simp)) 0 (by simp) rfl rfl rfl) rfl rfl ?_
  refine WG.v rfl (fun e => RunsV.ldE O7 (by simp) rfl rfl (y := vI 1) rfl) rfl rfl ?_
  refine WG.s rfl rfl rfl rfl ?_
  refine WG.and rfl rfl ?_
  refine WR.s rfl rfl ?_
  refine WG.start rfl rfl ?_
  iterate 2 refine WG.s rfl rfl rfl rfl ?_
  refine WG.and rfl rfl ?_
  refine WR.s rfl rfl ?_
  refine WG.start rfl rfl ?_
  iterate 2 refine WG.s rfl rfl rfl rfl ?_
  refine WG.and rfl rfl ?_
  refine WR.s rfl rfl ?_
  refine WG.start rfl rfl ?_
  refine WG.s rfl rfl rfl rfl ?_
  refine WG.v rfl (fun e => RunsV.lenSl Y7 rfl) rfl rfl ?_
  refine WG.s rfl rfl rfl rfl ?_
  refine WG.and rfl rfl ?_
  refine WR.s rfl rfl ?_
  refine WG.start rfl rfl ?_
  iterate 2 refine WG.s rfl rfl rfl rfl ?_
  refine WG.and rfl rfl ?_
  refine WR.sL rfl rfl (WR.nil ?_)
  exact WC.ret ⟨_, rfl, rfl, X0A.trans XAF⟩
end Go.Eng
namespace Go.Eng
theorem chkd_ok {k m L : Nat} {ll : List (List UInt8)} (hk : 1 ≤ k) (hkm : k + m ≤ 256) (hl : ll.length = k) (hL : ∀ l ∈ ll, l.length = L) : chkd k m k ll = 0 := by
  unfold chkd
  rw [chk_iff.2 (by omega)]
  have : fits k ll = true := by
    unfold fits
    rw [hl]
    simp only [decide_true, Bool.true_and, List.all_eq_true, beq_iff_eq]
    intro l hl2
    have h0 : 0 < ll.length := by omega
    rw [hL l hl2, headD_get h0, hL _ (List.getElem_mem _)]
  simp [this]
theorem encP_row {k m L : Nat} {ll : List (List UInt8)} (hk : 1 ≤ k) (hl : ll.length = k) (hL : ∀ l ∈ ll, l.length = L) : ∀ l ∈ encP k m ll, l.length = L := by
  intro l h
  have h0 : 0 < ll.length := by omega
  have e : (ll.headD []).length = L := by rw [headD_get h0, hL _ (List.getElem_mem _)]
  rw [encI_row (fun l hl => by rw [hL l hl, e]) k (by omega) l h, e]
theorem colL_row {l : List UInt8} : ∀ x ∈ colL l, x.length = 1 := by
  intro x hx
  obtain ⟨y, _, rfl⟩ := List.mem_map.1 hx
  rfl
/-- What the law rests on, of plain lists alone. -/
structure L10 (k m : Nat) (d : List UInt8) (ms : List Bool) : Prop where
  len : (encP k m (colL d)).flatten.length = k + m
  few : m < cntI ms ms.length → wordP k m (encP k m (colL d)).flatten ms = none ∧ (fndI k (ms.map (!·)) (k + m)).length < k
  enough : cntI ms ms.length ≤ m → wordP k m (encP k m (colL d)).flatten ms = some ((encP k m (colL d)).flatten, []) ∧ wordP k m (encP k m (colL d)).flatten (List.replicate (k + m) false) = some ((encP k m (colL d)).flatten, []) ∧
    (fndI k (ms.map (!·)) (k + m)).length = k ∧ ∃ W, invI (pickM (genM k) (fndI k (ms.map (!·)) (k + m)) k) k k = some W ∧ (encP k m (decL W (fndI k (ms.map (!·)) (k + m)) (colL (encP k m (colL d)).flatten) k 1)).flatten = (encP k m (colL d)).flatten
theorem ErrdecErases_spec {S T : Nat → Prop} {h : Heap} {dv mv : Value} {d : List UInt8} {ms : List Bool} (k m : Int) (D : Bytes S h dv d) (M : Bools T h mv ms)
    (law : ∀ kk mm : Nat, 1 ≤ kk → kk + mm ≤ 60 → d.length = kk → ms.length = kk + mm → L10 kk mm d ms) :
    Spec PP f_aumbrylaw10_ErrdecErases #[vI k, vI m, dv, mv] h (fun v h' => v = vb true ∧ Ext h h') := by
  refine Spec.body (C := c_aumbrylaw10_ErrdecErases) [(0, vI k), (1, vI m), (2, dv), (3, mv)] h_aumbrylaw10_ErrdecErases rfl rfl rfl ⟨rfl, rfl, rfl, rfl, trivial⟩ rfl ?_
  have hD := D.2.1
  have hM := M.2.1
  refine WC.seq (WC.region ?_)
  refine WR.sL rfl rfl (WR.nil ?_)
  refine WC.seq (WC.region ?_)
  refine WR.callT aumbrylaw10_awake_spec rfl rfl rfl ?_
  rintro _ h1 ⟨rfl, X1⟩
  refine WR.sL rfl rfl (WR.nil ?_)
  refine WC.seq (WC.region ?_)
  refine WR.callT gf_New_spec rfl rfl rfl ?_
  rintro _ h2 ⟨f, rfl, F0, X2⟩
  have F := F0.one.1
  clear F0
  refine WR.sL rfl rfl (WR.nil ?_)
  refine WC.seq (WC.seq (WC.region ?_))
  iterate 3 refine WR.s rfl rfl ?_
  refine WG.start rfl rfl ?_
  refine WG.s rfl rfl rfl rfl ?_
  refine WG.v rfl (fun _ => RunsV.eqNil rfl rfl) rfl rfl ?_
  refine WG.or rfl rfl (WR.nil ?_)
  refine WC.ff rfl rfl (WC.skip ?_)
  have X02 := X1.trans X2
  refine WC.seq (WC.seq (WC.region ?_))
  iterate 2 refine WR.s rfl rfl ?_
  refine WR.callT (cauchy_Check_spec k m) rfl rfl rfl ?_
  rintro _ h2 ⟨rfl, rfl⟩
  iterate 2 refine WR.s rfl rfl ?_
  refine WG.start rfl rfl ?_
  iterate 2 refine WG.s rfl rfl rfl rfl ?_
  refine WG.v rfl (fun e => RunsV.add rfl rfl (by
    have : chk k m = 0 := by simpa using e
    have := chk_iff.1 this
    omega)) rfl rfl ?_
  refine WG.s rfl rfl rfl rfl ?_
  refine WG.or rfl rfl ?_
  refine WR.s rfl rfl ?_
  refine WG.start rfl rfl ?_
  refine WG.s rfl rfl rfl rfl ?_
  refine WG.v rfl (fun _ => RunsV.lenSl (D.ext X02) rfl) rfl rfl ?_
  iterate 2 refine WG.s rfl rfl rfl rfl ?_
  refine WG.or rfl rfl ?_
  refine WR.s rfl rfl ?_
  refine WG.start rfl rfl ?_
  refine WG.s rfl rfl rfl rfl ?_
  refine WG.v rfl (fun _ => RunsV.lenSl (Sl.ext M X02) rfl) rfl rfl ?_
  iterate 2 refine WG.s rfl rfl rfl rfl ?_
  refine WG.v rfl (fun e => RunsV.add rfl rfl (by
    have : chk k m = 0 := by
      simp only [Bool.or_eq_false_iff, decide_eq_false_iff_not, Decidable.not_not] at e
      exact e.1.1
    have := chk_iff.1 this
    omega)) rfl rfl ?_
  refine WG.s rfl rfl rfl rfl ?_
  refine WG.or rfl rfl (WR.nil ?_)
  refine WC.ite rfl (fun e => ?_) (fun e => ?_)
  · refine WC.seq (WC.region ?_)
    refine WR.sL rfl rfl (WR.nil ?_)
    exact WC.ret ⟨_, rfl, rfl, X02⟩
  have e' : chk k m = 0 ∧ ¬ 60 < k + m ∧ (d.length : Int) = k ∧ (ms.length : Int) = k + m := by
    simp only [Bool.or_eq_false_iff, decide_eq_false_iff_not, Decidable.not_not] at e
    exact ⟨e.1.1.1, by omega, e.1.2, e.2⟩
  clear e
  obtain ⟨c1, c2, c3, c4⟩ := e'
  have c5 := chk_iff.1 c1
  obtain ⟨kk, rfl⟩ : ∃ kk : Nat, k = kk := ⟨k.toNat, by omega⟩
  obtain ⟨mm, rfl⟩ : ∃ mm : Nat, m = mm := ⟨m.toNat, by omega⟩
  have hk1 : 1 ≤ kk := by omega
  have hkm : kk + mm ≤ 60 := by omega
  have hd : d.length = kk := by omega
  have hms : ms.length = kk + mm := by omega
  obtain ⟨Wlen, few, enough⟩ := law kk mm hk1 hkm hd hms
  refine WC.skip ?_
  have hcl : (colL d).length = kk := by simp [colL, hd]
  have hel : (encP kk mm (colL d)).length = kk + mm := by rw [encP, encI_len, hcl]
  have her := encP_row (m := mm) hk1 hcl colL_row
  refine WC.seq (WC.region ?_)
  iterate 4 refine WR.s rfl rfl ?_
  refine WR.callT (aumbryref08_Column_spec (D.ext X02) (by omega)) rfl rfl rfl ?_
  rintro cv h3 ⟨cvs, RC, X3⟩
  have F3 := F.ext X3
  refine WR.callT (bulk_Encode_spec F3 (fun i e => by subst e; exact F3.one.2) kk mm RC.read) rfl rfl rfl ?_
  rintro _ h4 ⟨X4, ⟨q, _⟩ | ⟨_, all, avs, rfl, RA⟩⟩
  · exact absurd (chkd_ok hk1 (by omega) hcl colL_row) q
  iterate 3 refine WR.s rfl rfl ?_
  iterate 2 refine WR.sL rfl rfl ?_
  refine WR.nil ?_
  have RA' : Rows false h4 h3.size all avs (encP kk mm (colL d)) := RA
  have X24 := X3.trans X4
  have X04 := X02.trans X24
  have F4 := F.ext X24
  clear RA RC F3 X3 X4 X24 F X02
  refine WC.seq (WC.region ?_)
  refine WR.s rfl rfl ?_
  refine WR.callT (aumbryref08_Line_spec RA'.read (by omega) (fun l hl => by rw [her l hl]; omega)) rfl rfl rfl ?_
  rintro wv h5 ⟨WO, X5⟩
  have F5 := F4.ext X5
  have X05 := X04.trans X5
  refine WR.sL rfl rfl (WR.nil ?_)
  revert WO Wlen few enough
  generalize (encP kk mm (colL d)).flatten = w
  intro Wlen few enough WO
  clear RA' F4 X5 X04 her hel hcl
  refine WC.seq (WC.seq (WC.region ?_))
  iterate 3 refine WR.s rfl rfl ?_
  refine WG.start rfl rfl ?_
  refine WG.s rfl rfl rfl rfl ?_
  refine WG.v rfl (fun _ => RunsV.lenSl WO.bytes rfl) rfl rfl ?_
  iterate 2 refine WG.s rfl rfl rfl rfl ?_
  refine WG.v rfl (fun e => RunsV.add rfl rfl (by omega)) rfl rfl ?_
  refine WG.s rfl rfl rfl rfl ?_
  refine WG.or rfl rfl (WR.nil ?_)
  refine WC.ff rfl (by simp [Wlen]) (WC.skip ?_)
  refine WC.seq (WC.region ?_)
  refine WR.sL rfl rfl (WR.nil ?_)
  refine WC.seq (WC.seq (WC.region ?_))
  refine WR.sL rfl rfl (WR.nil ?_)
  refine WC.block ?_
  refine WC.loop (σ := Nat × Value) (fun q => [(0, vI kk), (1, vI mm), (2, dv), (3, mv), (10, ptr f), (13, wv), (14, q.2), (15, vI q.1)])
    (fun q h' => q.1 ≤ kk + mm ∧ Ext h5 h' ∧ Own h' h5.size t_bool 1 q.2 q.1 (tcells ((ms.take q.1).map (!·)))) (fun q => kk + mm - q.1) (0, .slice none 0 0) (fun _ => rfl)
    ⟨rfl, rfl, rfl, rfl, rfl, rfl, rfl, rfl, trivial⟩ ⟨by simp, Ext.refl _, Own.nil _ _ _ _⟩ ?_
  rintro ⟨i, o⟩ h6 ⟨hi, X6, O⟩
  dsimp only at hi O
  refine WC.seq (WC.seq (WC.region ?_))
  iterate 3 refine WR.s rfl rfl ?_
  refine WR.v (RunsV.add rfl rfl (by omega)) rfl ?_
  refine WR.s rfl rfl (WR.nil ?_)
  refine WC.itep rfl (fun e => ?_) (fun e => ?_)
  · have hi' : i < kk + mm := by omega
    have M6 := Sl.ext M (X05.trans X6)
    refine WC.skip ?_
    refine WC.seq (WC.block ?_)
    refine WC.region ?_
    iterate 3 refine WR.s rfl rfl ?_
    refine WR.v (RunsV.ix (M6.has (by omega)) i (by omega) rfl rfl rfl) rfl ?_
    refine WR.v (RunsV.ldE M6 (by omega) rfl rfl (tcells_get (by omega))) rfl ?_
    refine WR.s rfl rfl ?_
    refine WR.ap1T O (by have := X6.size; omega) rfl rfl (fun _ => rfl) rfl rfl rfl (by omega) (by omega) ?_
    rintro x v' h7 O7 K7 -
    refine WR.sL rfl rfl (WR.nil ?_)
    refine WC.region ?_
    refine WR.s rfl rfl ?_
    refine WR.v (RunsV.add rfl rfl (by omega)) rfl ?_
    refine WR.sL rfl rfl (WR.nil ?_)
    refine ⟨(i + 1, v'), ⟨rfl, rfl, rfl, rfl, rfl, rfl, rfl, rfl, trivial⟩, ⟨hi', Keeps.own X6 O (Nat.le_refl _) K7, ?_⟩, by dsimp only; omega⟩
    dsimp only
    rw [List.take_succ_eq_append_getElem (by omega), List.map_append, tcells, List.map_append]
    exact O7
  refine WC.exit (exit_hit ?_)
  obtain rfl : i = kk + mm := by omega
  rw [List.take_of_length_le (by omega)] at O
  have hhl : (ms.map (!·)).length = kk + mm := by simpa using hms
  have B6 : Bools (fun b => o.ownBlock = some b) h6 o (ms.map (!·)) := by
    have := O.sl (by omega)
    unfold Bools
    rw [hhl]
    exact this
  have X06 := X05.trans X6
  have F6 := F5.ext X6
  have W6 := WO.ext X6
  have M6 := Sl.ext M X06
  clear O WO F5 X6 X05
  refine WC.seq (WC.region ?_)
  iterate 5 refine WR.s rfl rfl ?_
  refine WR.callT (errdec_Word_spec F6 kk mm hk1 (by omega) W6.bytes M6 Wlen hms) rfl rfl rfl ?_
  rintro rv h7 ⟨X7, q⟩
  have F7 := F6.ext X7
  have W7 := W6.ext X7
  have B7 := Sl.ext B6 X7
  have M7 := Sl.ext M6 X7
  have X07 := X06.trans X7
  have hcw : (colL w).length = kk + mm := by simp [colL, Wlen]
  rcases Nat.lt_or_ge mm (cntI ms ms.length) with hc | hc
  · obtain ⟨g1, g2⟩ := few hc
    rw [g1] at q
    subst q
    clear F6 W6 B6 M6 X7 X06
    iterate 4 refine WR.s rfl rfl ?_
    iterate 3 refine WR.sL rfl rfl ?_
    refine WR.nil ?_
    refine WC.seq (WC.region ?_)
    iterate 5 refine WR.s rfl rfl ?_
    refine WR.callT (aumbryref08_Column_spec W7.bytes (by omega)) rfl rfl rfl ?_
    rintro cv h8 ⟨cvs, RC, X8⟩
    have F8 := F7.ext X8
    refine WR.callT (erase_Decode_spec F8 (fun i e => by subst e; exact F8.one.2) kk mm 1 hk1 (by omega) (Sl.ext B7 X8) RC.read hhl hcw colL_row (by omega) (fun e => by omega)) rfl rfl rfl ?_
    rintro _ h9 ⟨X9, ⟨_, rfl⟩ | ⟨q, _⟩⟩
    · iterate 3 refine WR.s rfl rfl ?_
      refine WR.sL rfl rfl ?_
      refine WR.sL rfl rfl ?_
      refine WR.nil ?_
      have X79 := X8.trans X9
      refine WC.seq (WC.seq (WC.region ?_))
      refine WR.s rfl rfl ?_
      refine WR.callT (aumbrylaw10_count_spec (Sl.ext M7 X79)) rfl rfl rfl ?_
      rintro _ h9 ⟨rfl, rfl⟩
      iterate 2 refine WR.s rfl rfl ?_
      refine WR.nil ?_
      refine WC.tt rfl (by simp; omega) ?_
      refine WC.seq (WC.region ?_)
      iterate 3 refine WR.s rfl rfl ?_
      refine WG.start rfl rfl ?_
      iterate 2 refine WG.s rfl rfl rfl rfl ?_
      refine WG.and rfl rfl ?_
      refine WR.sL rfl rfl (WR.nil ?_)
      exact WC.ret ⟨_, rfl, rfl, X07.trans X79⟩
    · omega
  · obtain ⟨g1, g2, g3, W, g4, g5⟩ := enough hc
    rw [g1] at q
    obtain ⟨xv, yv, rfl, XO, YO⟩ := q
    clear F6 W6 B6 M6 X7 X06
    iterate 4 refine WR.s rfl rfl ?_
    iterate 3 refine WR.sL rfl rfl ?_
    refine WR.nil ?_
    refine WC.seq (WC.region ?_)
    iterate 5 refine WR.s rfl rfl ?_
    refine WR.callT (aumbryref08_Column_spec W7.bytes (by omega)) rfl rfl rfl ?_
    rintro cv h8 ⟨cvs, RC, X8⟩
    have F8 := F7.ext X8
    refine WR.callT (erase_Decode_spec F8 (fun i e => by subst e; exact F8.one.2) kk mm 1 hk1 (by omega) (Sl.ext B7 X8) RC.read hhl hcw colL_row (by omega) (fun e => ⟨W, g4⟩)) rfl rfl rfl ?_
    rintro _ h9 ⟨X9, ⟨q, _⟩ | ⟨_, W', g4', z, zs, rfl, RZ⟩⟩
    · omega
    obtain rfl : W' = W := Option.some.inj (g4'.symm.trans g4)
    iterate 3 refine WR.s rfl rfl ?_
    iterate 2 refine WR.sL rfl rfl ?_
    refine WR.nil ?_
    have X79 := X8.trans X9
    have XO9 := XO.ext X79
    have YO9 := YO.ext X79
    have W9 := W7.ext X79
    have F9 := F7.ext X79
    have M9 := Sl.ext M7 X79
    have X09 := X07.trans X79
    clear XO YO W7 F7 M7 X8 X9 RC F8 X07 B7
    refine WC.seq (WC.seq (WC.region ?_))
    refine WR.s rfl rfl ?_
    refine WR.callT (aumbrylaw10_count_spec M9) rfl rfl rfl ?_
    rintro _ h9 ⟨rfl, rfl⟩
    iterate 2 refine WR.s rfl rfl ?_
    refine WR.nil ?_
    refine WC.ff rfl (by simp; omega) (WC.skip ?_)
    refine WC.seq (WC.region ?_)
    iterate 2 refine WR.s rfl rfl ?_
    refine WR.callT (aumbryref02_Same_spec XO9.bytes W9.bytes) rfl rfl rfl ?_
    rintro _ h9 ⟨rfl, rfl⟩
    refine WR.sL rfl rfl (WR.nil ?_)
    have hdl : (decL W' (fndI kk (ms.map (!·)) (kk + mm)) (colL w) kk 1).length = kk := by simp [decL]
    have hel : (encP kk mm (decL W' (fndI kk (ms.map (!·)) (kk + mm)) (colL w) kk 1)).length = kk + mm := by rw [encP, encI_len, hdl]
    have her := encP_row (m := mm) hk1 hdl (L := 1) (fun l hl => by
      obtain ⟨q, _, rfl⟩ := List.mem_map.1 hl
      exact decI_len ..)
    refine WC.seq (WC.region ?_)
    refine WR.s rfl rfl ?_
    refine WR.callT (aumbryref08_Line_spec RZ.read (by omega) (fun l hl => by rw [her l hl]; omega)) rfl rfl rfl ?_
    rw [g5]
    rintro lv h10 ⟨LO, X10⟩
    refine WR.s rfl rfl ?_
    have W10 := W9.ext X10
    refine WR.callT (aumbryref02_Same_spec LO.bytes W10.bytes) rfl rfl rfl ?_
    rintro _ h10 ⟨rfl, rfl⟩
    refine WR.sL rfl rfl (WR.nil ?_)
    have XO10 := XO9.ext X10
    have YO10 := YO9.ext X10
    have F10 := F9.ext X10
    have X010 := X09.trans X10
    refine WC.seq (WC.region ?_)
    iterate 6 refine WR.s rfl rfl ?_
    refine WR.v (RunsV.to (v' := vI ((kk + mm : Nat))) (RunsV.add rfl rfl (by omega)) (by simp)) rfl ?_
    refine WR.stepT (Runs.mk rfl (kk + mm) rfl rfl (by omega) (by omega)) rfl ?_
    rintro nv h11 ⟨NO, -, X11⟩
    have N11 : Bools (fun b => nv.ownBlock = some b) h11 nv (List.replicate (kk + mm) false) := by
      have := NO.sl (by omega)
      unfold Bools
      rw [List.length_replicate, ← tcells_rep]
      exact this
    refine WR.callT (errdec_Word_spec (F10.ext X11) kk mm hk1 (by omega) (XO10.ext X11).bytes N11 Wlen (by simp)) rfl rfl rfl ?_
    rw [g2]
    rintro _ h12 ⟨X12, zv, vv, rfl, ZO, VO⟩
    iterate 4 refine WR.s rfl rfl ?_
    iterate 3 refine WR.sL rfl rfl ?_
    refine WR.nil ?_
    have X1012 := X11.trans X12
    refine WC.seq (WC.region ?_)
    iterate 2 refine WR.s rfl rfl ?_
    refine WR.callT (aumbryref02_Same_spec ZO.bytes (XO10.ext X1012).bytes) rfl rfl rfl ?_
    rintro _ h12 ⟨rfl, rfl⟩
    refine WR.sL rfl rfl (WR.nil ?_)
    have Y12 := (YO10.ext X1012).ints
    refine WC.seq (WC.region ?_)
    iterate 2 refine WR.s rfl rfl ?_
    refine WG.start rfl rfl ?_
    refine WG.s rfl rfl rfl rfl ?_
    refine WG.and rfl rfl ?_
    refine WR.s rfl rfl ?_
    refine WG.start rfl rfl ?_
    refine WG.s rfl rfl rfl rfl ?_
    refine WG.and rfl rfl ?_
    refine WR.s rfl rfl ?_
    refine WG.start rfl rfl ?_
    iterate 2 refine WG.s rfl rfl rfl rfl ?_
    refine WG.and rfl rfl ?_
    refine WR.s rfl rfl ?_
    refine WG.start rfl rfl ?_
    iterate 2 refine WG.s rfl rfl rfl rfl ?_
    refine WG.and rfl rfl ?_
    refine WR.s rfl rfl ?_
    refine WG.start rfl rfl ?_
    iterate 2 refine WG.s rfl rfl rfl rfl ?_
    refine WG.and rfl rfl ?_
    refine WR.s rfl rfl ?_
    refine WG.start rfl rfl ?_
    refine WG.s rfl rfl rfl rfl ?_
    refine WG.v rfl (fun e => RunsV.lenSl Y12 rfl) rfl rfl ?_
    refine WG.s rfl rfl rfl rfl ?_
    refine WG.and rfl rfl ?_
    refine WR.s rfl rfl ?_
    refine WG.start rfl rfl ?_
    refine WG.s rfl rfl rfl rfl ?_
    refine WG.v rfl (fun e => RunsV.lenSl VO.ints rfl) rfl rfl ?_
    refine WG.s rfl rfl rfl rfl ?_
    refine WG.and rfl rfl ?_
    refine WR.sL rfl rfl (WR.nil ?_)
    refine WC.ret ⟨_, rfl, ?_, X010.trans X1012⟩
    simp
    rfl
end Go.Eng
