/- Steps of the proof: lemmas for every input, without conditions but those that each states. -/
import Derived.Test.YtjpgcjbcfodicaaDraws
set_option linter.unusedSimpArgs false
set_option linter.unusedVariables false
namespace Go.Eng
section
variable {C : Ctx} {K : K3} {tm lo : Env} {h : Heap}
theorem RunsV.minI {x y : Operand} {T U : TypeId} {a b : Nat} (hx : opv tm lo x = some (vI a)) (hy : opv tm lo y = some (vI b)) :
    RunsV C tm lo h (.call { callee := .builtin .min, args := #[x, y], argTypes := #[T, U] }) (vI ((min a b : Nat))) := fun c w F hh _ _ _ _ _ => by
  simp [execOp, resolve, invoke, builtin, F.eval hx, F.eval hy, Builtin.min_, Builtin.min2]
  split <;> congr 1 <;> omega
end
theorem Own.lit {h : Heap} {cs : List Value} {E : TypeId} (hn : cs.length ≤ 140737488355328) : Own (h.push (.cells cs.toArray E (0, 0))) h.size E 1 (.slice (some ⟨h.size, 0, none⟩) cs.length cs.length) cs.length cs :=
  ⟨by simp, .inr ⟨h.size, cs.length, cs.toArray, rfl, Nat.le_refl _, push_self _ _, Nat.le_refl _, by simp [maxLen]; omega, by simp, by simp⟩⟩
theorem OB.lit1 {h : Heap} {x : UInt8} {T : TypeId} : OB T (h.push (.cells #[vB x] T (0, 0))) h.size (.slice (some ⟨h.size, 0, none⟩) 1 1) [x] := ⟨Own.lit (cs := [vB x]) (by simp), by simp⟩
theorem OB.lit2 {h : Heap} {x y : UInt8} {T : TypeId} : OB T (h.push (.cells #[vB x, vB y] T (0, 0))) h.size (.slice (some ⟨h.size, 0, none⟩) 2 2) [x, y] := ⟨Own.lit (cs := [vB x, vB y]) (by simp), by simp⟩
theorem mul_le (p q : List UInt8) : (mulP p q).length ≤ p.length + q.length := nm_len_le (nm_mul p q) fun i hi => by
  rw [cf_mul]
  refine xsum_none fun a ha => ?_
  split
  · rfl
  · rw [cf_ge (by omega), zero_gmul]
/-- The polynomial whose roots points are. -/
def locP (l : List UInt8) : List UInt8 := l.foldl (fun o a => mulP o [a, 1]) [1]
theorem foldl_take1 {α β : Type} (f : β → α → β) (b : β) (l : List α) (i : Nat) (h : i < l.length) : (l.take (i + 1)).foldl f b = f ((l.take i).foldl f b) l[i] := by
  rw [List.take_succ_eq_append_getElem h, List.foldl_append]; rfl
theorem locP_le (l : List UInt8) : (locP l).length ≤ 1 + 2 * l.length := by
  suffices H : ∀ i, i ≤ l.length → (locP (l.take i)).length ≤ 1 + 2 * i by have := H l.length (Nat.le_refl _); rwa [List.take_length] at this
  intro i
  induction i with
  | zero => intro _; simp [locP]
  | succ i ih =>
    intro hi
    rw [locP, foldl_take1 _ _ _ _ (by omega)]
    have h1 := ih (by omega)
    have h2 := mul_le (locP (l.take i)) [l[i], 1]
    simp at h2
    show (mulP (locP (l.take i)) [l[i], 1]).length ≤ _
    omega
theorem keyeq_Locator_spec {S T : Nat → Prop} {h : Heap} {b : Nat} (F : Fld S h b) {v : Value} {l : List UInt8} (B : Bytes T h v l) (hl : l.length ≤ 1000) : Spec PP f_keyeq_Locator #[ptr b, v] h (fun r h' => OB t_uint8 h' h.size r (locP l) ∧ Ext h h') := by
  refine Spec.body (C := c_keyeq_Locator) [(0, ptr b), (1, v)] h_keyeq_Locator rfl rfl rfl ⟨rfl, rfl, trivial⟩ rfl ?_
  refine WC.seq (WC.region ?_)
  refine WR.sL rfl rfl (WR.nil ?_)
  refine WC.seq (WC.seq (WC.region ?_))
  refine WR.s rfl rfl ?_
  refine WR.v (RunsV.eqNil rfl rfl) rfl (WR.nil ?_)
  refine WC.f rfl (WC.skip ?_)
  refine WC.seq (WC.region ?_)
  refine WR.stepT (Runs.bs1 rfl (e := vB 1) rfl rfl) rfl ?_
  rintro _ _ ⟨rfl, rfl⟩
  refine WR.sL rfl rfl (WR.nil ?_)
  have X0 : Ext h (h.push (.cells #[vB 1] t_uint8 (0, 0))) := (Ext.refl h).push _
  refine WC.seq (WC.seq (WC.region ?_))
  refine WR.sL rfl rfl ?_
  refine WR.vL (RunsV.lenSl (B.ext X0) rfl) rfl ?_
  refine WR.sL rfl rfl (WR.nil ?_)
  refine WC.block ?_
  refine WC.loop (σ := Nat × Value) (fun q => [(0, ptr b), (5, q.2), (11, v), (12, vI l.length), (13, vI q.1)]) (fun q h' => q.1 ≤ l.length ∧ Ext h h' ∧ OB t_uint8 h' h.size q.2 (locP (l.take q.1))) (fun q => l.length - q.1) (0, _) (fun _ => rfl)
    ⟨rfl, rfl, rfl, rfl, rfl, trivial⟩ ⟨by simp, X0, OB.lit1⟩ ?_
  rintro ⟨i, o⟩ h1 ⟨hi, X, O⟩
  dsimp only at hi O
  refine WC.seq (WC.region ?_)
  refine WR.s rfl rfl (WR.nil ?_)
  refine WC.seq ?_
  refine WC.itep rfl (fun e => ?_) (fun e => ?_)
  · have hi' : i < l.length := by omega
    have B1 := B.ext X
    refine WC.skip ?_
    refine WC.seq (WC.block ?_)
    refine WC.seq (WC.region ?_)
    refine WR.v (RunsV.ix (B1.has (by omega)) i hi' rfl rfl rfl) rfl ?_
    refine WR.v (RunsV.ldE B1 (by omega) rfl rfl (bcells_get hi')) rfl ?_
    refine WR.sL rfl rfl (WR.nil ?_)
    refine WC.region ?_
    iterate 3 refine WR.s rfl rfl ?_
    refine WR.stepT (Runs.bs2 rfl (b := vB 1) rfl rfl rfl rfl) rfl ?_
    rintro _ _ ⟨rfl, rfl⟩
    have X2 := (Ext.refl h1).push (.cells #[vB l[i], vB 1] t_uint8 (0, 0))
    have hle := locP_le (l.take i)
    rw [List.length_take] at hle
    refine WR.callT (poly_Mul_spec ((F.ext X).ext X2) (O.ext X2).any (OB.lit2 (x := l[i]) (y := 1)).any (by simp; omega)) rfl rfl rfl ?_
    rintro r h3 ⟨O3, X3⟩
    refine WR.sL rfl rfl (WR.nil ?_)
    refine WC.region ?_
    refine WR.v (RunsV.add rfl rfl (by omega)) rfl ?_
    refine WR.sL rfl rfl (WR.nil ?_)
    refine ⟨(i + 1, r), ⟨rfl, rfl, rfl, rfl, rfl, trivial⟩, ⟨hi', X.trans (X2.trans X3), ?_⟩, by dsimp only; omega⟩
    dsimp only
    rw [locP, foldl_take1 _ _ _ _ hi']
    exact O3.rebase (Nat.le_trans X.size X2.size)
  · refine WC.exit (exit_hit ?_)
    obtain rfl : i = l.length := by omega
    rw [List.take_length] at O
    refine WC.seq (WC.region ?_)
    refine WR.s rfl rfl ?_
    refine WR.sL rfl rfl (WR.nil ?_)
    exact WC.ret ⟨_, rfl, O, X⟩
/-- The first and the last i places are swapped. -/
def revI (l : List UInt8) (i : Nat) : List UInt8 := (List.range l.length).map fun q => if q < i ∨ l.length - i ≤ q then cf l (l.length - 1 - q) else cf l q
theorem revI_len (l : List UInt8) (i : Nat) : (revI l i).length = l.length := by simp [revI]
theorem revI_get {l : List UInt8} {i q : Nat} (hq : q < l.length) : (revI l i)[q]'(by rw [revI_len]; exact hq) = if q < i ∨ l.length - i ≤ q then cf l (l.length - 1 - q) else cf l q := by simp [revI]
theorem revI_zero (l : List UInt8) : revI l 0 = l := by
  apply List.ext_getElem (revI_len l 0)
  intro q h1 h2
  rw [revI_get h2, if_neg (by omega), cf_lt h2]
theorem revI_step {l : List UInt8} {i : Nat} (h : 2 * i + 1 < l.length) : ((revI l i).set i (cf l (l.length - 1 - i))).set (l.length - 1 - i) (cf l i) = revI l (i + 1) := by
  apply List.ext_getElem (by simp [revI_len])
  intro q h1 h2
  rw [revI_len] at h2
  rw [revI_get h2, List.getElem_set]
  by_cases e1 : l.length - 1 - i = q
  · rw [if_pos e1, if_pos (by omega)]; congr 1; omega
  · rw [if_neg e1, List.getElem_set]
    by_cases e2 : i = q
    · rw [if_pos e2, if_pos (by omega)]; congr 1; omega
    · rw [if_neg e2, revI_get h2]
      by_cases c : q < i ∨ l.length - i ≤ q
      · rw [if_pos c, if_pos (by omega)]
      · rw [if_neg c, if_neg (by omega)]
theorem revI_end {l : List UInt8} {i : Nat} (h : l.length ≤ 2 * i + 1) : revI l i = l.reverse := by
  apply List.ext_getElem (by simp [revI_len])
  intro q h1 h2
  rw [revI_len] at h1
  rw [revI_get h1, List.getElem_reverse]
  by_cases c : q < i ∨ l.length - i ≤ q
  · rw [if_pos c, cf_lt (by omega)]
  · rw [if_neg c, cf_lt h1]; congr 1; omega
theorem slices_Reverse_byte_byte_spec {h : Heap} {base : Nat} {v : Value} {l : List UInt8} (O : OB t_uint8 h base v l) : Spec PP f_slices_Reverse_byte_byte #[v] h (fun w h' => w = .tuple #[] ∧ OB t_uint8 h' base v l.reverse ∧ Keeps (fun b => v.ownBlock ≠ some b) h h') := by
  refine Spec.body (C := c_slices_Reverse_byte_byte) [(0, v)] h_slices_Reverse_byte_byte rfl rfl rfl ⟨rfl, trivial⟩ rfl ?_
  have hl := O.2
  refine WC.seq (WC.region ?_)
  refine WR.s rfl rfl ?_
  refine WR.v (RunsV.lenO O.1 rfl) rfl ?_
  refine WR.v (RunsV.sub rfl rfl (by omega)) rfl ?_
  iterate 2 refine WR.sL rfl rfl ?_
  refine WR.nil ?_
  refine WC.block ?_
  refine WC.loop (σ := Nat) (fun i => [(0, v), (2, vI i), (3, vI ((l.length : Int) - 1 - i))]) (fun i h' => 2 * i ≤ l.length + 1 ∧ Own h' base t_uint8 1 v l.length (bcells (revI l i)) ∧ Keeps (fun b => v.ownBlock ≠ some b) h h') (fun i => l.length + 1 - i) 0 (fun _ => rfl)
    ⟨rfl, rfl, by show some (vI _) = some (vI _); congr 2; simp, trivial⟩ ⟨by omega, by rw [revI_zero]; exact O.1, Keeps.refl _ _⟩ ?_
  rintro i h1 ⟨hi, O1, K1⟩
  refine WC.seq (WC.seq (WC.region ?_))
  iterate 3 refine WR.s rfl rfl ?_
  refine WR.nil ?_
  refine WC.itep rfl (fun e => ?_) (fun e => ?_)
  · have hj : (l.length : Int) - 1 - i = ((l.length - 1 - i : Nat) : Int) := by omega
    have hjl : l.length - 1 - i < l.length := by omega
    have hil : i < l.length := by omega
    have hrl := revI_len l i
    refine WC.skip ?_
    refine WC.seq (WC.block ?_)
    refine WC.drawF 13 [(0,0),(0,1),(0,2),(0,3),(0,4),(0,5),(0,6),(0,8),(0,9),(0,10),(1,7),(1,11),(0,12),(3,13),(0,14),(3,15)] (same h1) (by decide +kernel) (fun _ _ _ _ _ _ q => q) rfl ?_
    iterate 6 refine WF.s rfl rfl rfl ?_
    refine WF.v rfl (fun _ => RunsV.ix (O1.has (by omega)) (l.length - 1 - i) hjl rfl rfl hj) rfl ?_
    iterate 2 refine WF.s rfl rfl rfl ?_
    refine WF.v rfl (fun _ => RunsV.ix (O1.has (by omega)) i hil rfl rfl rfl) rfl ?_
    refine WF.rd rfl (RunsV.ldO O1 (by omega) rfl rfl (y := vB (cf l (l.length - 1 - i))) (by rw [bcells_get (by omega), revI_get hjl, if_neg (by omega)])) rfl ?_
    refine WF.rd rfl (RunsV.ldO O1 (by omega) rfl rfl (y := vB (cf l i)) (by rw [bcells_get (by omega), revI_get hil, if_neg (by omega)])) rfl ?_
    refine WF.v rfl (fun _ => RunsV.ix (O1.has (by omega)) i hil rfl rfl rfl) rfl ?_
    refine WF.u rfl (RunsU.stO O1 hil rfl rfl rfl) ?_
    rintro h2 ⟨O2, g, hg, hg2, hgv, U2⟩
    refine WF.v rfl (fun _ => RunsV.ix (O2.has (by omega)) (l.length - 1 - i) hjl rfl rfl hj) rfl ?_
    refine WF.u rfl (RunsU.stO O2 hjl rfl rfl rfl) ?_
    rintro h3 ⟨O3, g', hg', hg2', hgv', U3⟩
    refine WF.nil ?_
    refine WC.region ?_
    refine WR.s rfl rfl ?_
    refine WR.v (RunsV.add rfl rfl (by omega)) rfl ?_
    refine WR.s rfl rfl ?_
    refine WR.v (RunsV.sub rfl rfl (by omega)) rfl ?_
    iterate 2 refine WR.sL rfl rfl ?_
    refine WR.nil ?_
    rw [bcells_set, bcells_set, revI_step (by omega)] at O3
    refine ⟨i + 1, ⟨rfl, rfl, by show some (vI _) = some (vI _); congr 2; omega, trivial⟩, ⟨by omega, O3, ?_⟩, by dsimp only; omega⟩
    exact (K1.upd U2 (.inr fun q => q hgv)).upd U3 (.inr fun q => q hgv')
  · refine WC.exit (exit_hit ?_)
    rw [revI_end (by omega)] at O1
    exact ⟨_, rfl, rfl, ⟨by rw [List.length_reverse]; exact O1, by simpa using hl⟩, K1⟩
theorem slices_IndexFunc_byte_byte_spec {S : Nat → Prop} {h : Heap} {v : Value} {l : List UInt8} (B : Bytes S h v l) (g : FuncId) [q : Fun PP g] (cap : Array Value) (p : UInt8 → Bool) (hp : ∀ x, Spec PP g (#[vB x] ++ cap) h (fun w h' => w = vb (p x) ∧ h' = h)) :
    Spec PP f_slices_IndexFunc_byte_byte #[v, .func (.func g) #[] cap] h (fun w h' => (∃ r : Int, w = vI r ∧ (0 ≤ r ↔ l.any p = true)) ∧ h' = h) := by
  refine Spec.body (C := c_slices_IndexFunc_byte_byte) [(0, v), (1, .func (.func g) #[] cap)] h_slices_IndexFunc_byte_byte rfl rfl rfl ⟨rfl, rfl, trivial⟩ rfl ?_
  have hl := B.2.1
  refine WC.seq (WC.region ?_)
  refine WR.sL rfl rfl (WR.nil ?_)
  refine WC.seq (WC.seq (WC.region ?_))
  refine WR.s rfl rfl ?_
  refine WR.vL (RunsV.lenSl B rfl) rfl ?_
  refine WR.sL rfl rfl (WR.nil ?_)
  refine WC.block ?_
  refine WC.loop (σ := Nat) (fun i => [(0, v), (1, .func (.func g) #[] cap), (4, vI 0), (7, vI l.length), (8, vI i)]) (fun i h' => i ≤ l.length ∧ h' = h ∧ (l.take i).any p = false) (fun i => l.length - i) 0 (fun _ => rfl)
    ⟨rfl, rfl, rfl, rfl, rfl, trivial⟩ ⟨by omega, rfl, by simp⟩ ?_
  rintro i h1 ⟨hi, rfl, ha⟩
  refine WC.seq (WC.region ?_)
  refine WR.s rfl rfl (WR.nil ?_)
  refine WC.seq ?_
  refine WC.itep rfl (fun e => ?_) (fun e => ?_)
  · have hi' : i < l.length := by omega
    refine WC.skip ?_
    refine WC.seq (WC.block ?_)
    refine WC.seq (WC.region ?_)
    refine WR.s rfl rfl ?_
    refine WR.sL rfl rfl (WR.nil ?_)
    refine WC.seq (WC.region ?_)
    iterate 3 refine WR.s rfl rfl ?_
    refine WR.v (RunsV.ix (B.has (by omega)) i hi' rfl rfl rfl) rfl ?_
    refine WR.v (RunsV.ldE B (by omega) rfl rfl (bcells_get hi')) rfl ?_
    refine WR.callC (hp _) rfl rfl rfl rfl ?_
    rintro _ h1 ⟨rfl, rfl⟩
    refine WR.nil ?_
    refine WC.ite rfl (fun e2 => ?_) (fun e2 => ?_)
    · refine WC.seq (WC.region ?_)
      refine WR.s rfl rfl ?_
      refine WR.sL rfl rfl (WR.nil ?_)
      refine WC.ret ⟨_, rfl, ⟨i, rfl, ?_⟩, rfl⟩
      refine ⟨fun _ => List.any_eq_true.2 ⟨_, List.getElem_mem hi', e2⟩, fun _ => by omega⟩
    · refine WC.skip ?_
      refine WC.region ?_
      refine WR.v (RunsV.add rfl rfl (by omega)) rfl ?_
      refine WR.sL rfl rfl (WR.nil ?_)
      refine ⟨i + 1, ⟨rfl, rfl, rfl, rfl, rfl, trivial⟩, ⟨by omega, rfl, ?_⟩, by dsimp only; omega⟩
      rw [List.take_succ_eq_append_getElem hi', List.any_append, ha]
      simp [e2]
  · refine WC.exit (exit_hit ?_)
    obtain rfl : i = l.length := by omega
    rw [List.take_length] at ha
    refine WC.seq (WC.region ?_)
    refine WR.sL rfl rfl (WR.nil ?_)
    refine WC.ret ⟨_, rfl, ⟨-1, rfl, ?_⟩, rfl⟩
    rw [ha]
    exact ⟨fun q => absurd q (by omega), fun q => (by cases q)⟩
theorem slices_ContainsFunc_byte_byte_spec {S : Nat → Prop} {h : Heap} {v : Value} {l : List UInt8} (B : Bytes S h v l) (g : FuncId) [q : Fun PP g] (cap : Array Value) (p : UInt8 → Bool) (hp : ∀ x, Spec PP g (#[vB x] ++ cap) h (fun w h' => w = vb (p x) ∧ h' = h)) :
    Spec PP f_slices_ContainsFunc_byte_byte #[v, .func (.func g) #[] cap] h (fun w h' => w = vb (l.any p) ∧ h' = h) := by
  refine Spec.body (C := c_slices_ContainsFunc_byte_byte) [(0, v), (1, .func (.func g) #[] cap)] h_slices_ContainsFunc_byte_byte rfl rfl rfl ⟨rfl, rfl, trivial⟩ rfl ?_
  refine WC.seq (WC.region ?_)
  refine WR.sL rfl rfl (WR.nil ?_)
  refine WC.seq (WC.region ?_)
  iterate 2 refine WR.s rfl rfl ?_
  refine WR.callT (slices_IndexFunc_byte_byte_spec B g cap p hp) rfl rfl rfl ?_
  rintro _ h1 ⟨⟨r, rfl, hr⟩, rfl⟩
  refine WR.s rfl rfl ?_
  refine WR.sL rfl rfl (WR.nil ?_)
  refine WC.ret ⟨_, rfl, ?_, rfl⟩
  show vb (decide (0 ≤ r)) = _
  by_cases c : l.any p = true
  · rw [c, decide_eq_true (hr.2 c)]
  · rw [decide_eq_false (fun q => c (hr.1 q))]
    simp at c ⊢
    exact c
end Go.Eng
namespace Go.Eng
theorem OB.upd {T : TypeId} {h h' : Heap} {base : Nat} {v : Value} {l : List UInt8} (o : OB T h base v l) {i : Nat} (u : Upd i h h') (q : v.ownBlock ≠ some i) : OB T h' base v l := ⟨o.1.upd u q, o.2⟩
theorem OB.ne_box {h : Heap} {base : Nat} {T B : TypeId} {v u : Value} {l : List UInt8} (o : OB T h base v l) {b : Nat} (k : Box h b B u) (ne : T ≠ B) : v.ownBlock ≠ some b := o.1.ne_box k ne
/-- Four variables of bytes: what is low, high, a and b in Euclid's steps. -/
structure Four (h : Heap) (base bl bh ba bb : Nat) (low high a b : List UInt8) : Prop where
  fl : ∃ v, Box h bl t_sl_uint8 v ∧ OB t_uint8 h base v low
  fh : ∃ v, Box h bh t_sl_uint8 v ∧ OB t_uint8 h base v high
  fa : ∃ v, Box h ba t_sl_uint8 v ∧ OB t_uint8 h base v a
  fb : ∃ v, Box h bb t_sl_uint8 v ∧ OB t_uint8 h base v b
theorem Box.ne {h : Heap} {b c : Nat} {T U : TypeId} {u v : Value} (B : Box h b T u) (D : Box h c U v) (ne : T ≠ U) : b ≠ c := by
  rintro rfl
  exact ne (B.ty.inj D.ty)
theorem keyeq_Solve_1_spec {S : Nat → Prop} {h : Heap} {f bf bl bh ba bb base : Nat} (F : Fld S h f) (Bf : Box h bf t_ptr_gf_Field (ptr f)) {low high a b : List UInt8} (Q : Four h base bl bh ba bb low high a b) (hbase : base ≤ h.size)
    (hd : bl ≠ bh ∧ bl ≠ ba ∧ bl ≠ bb ∧ bh ≠ ba ∧ bh ≠ bb ∧ ba ≠ bb) (hh : strip high ≠ []) (hb : low.length + high.length ≤ 2000 ∧ b.length ≤ 2000) :
    Spec PP f_keyeq_Solve_1 #[ptr bf, ptr bl, ptr bh, ptr bb, ptr ba] h (fun w h' => w = .tuple #[] ∧ Four h' base bl bh ba bb high (divP low high).2 b (strip (pxor a (mulP (divP low high).1 b))) ∧
      Keeps (fun i => i ≠ bl ∧ i ≠ bh ∧ i ≠ ba ∧ i ≠ bb) h h') := by
  obtain ⟨⟨vl, Bl, Ol⟩, ⟨vh, Bh, Oh⟩, ⟨va, Ba, Oa⟩, ⟨vb, Bb, Ob⟩⟩ := Q
  obtain ⟨d1, d2, d3, d4, d5, d6⟩ := hd
  refine Spec.body (C := c_keyeq_Solve_1) [(0, ptr bf), (1, ptr bl), (2, ptr bh), (3, ptr bb), (4, ptr ba)] h_keyeq_Solve_1 rfl rfl rfl ⟨rfl, rfl, rfl, rfl, rfl, trivial⟩ rfl ?_
  refine WC.seq (WC.region ?_)
  refine WR.v (RunsV.ldB Bf rfl) rfl ?_
  refine WR.v (RunsV.ldB Bl rfl) rfl ?_
  refine WR.v (RunsV.ldB Bh rfl) rfl ?_
  refine WR.callT (poly_Divide_spec F Ol.any Oh.any (by omega) hh) rfl rfl rfl ?_
  rintro _ h1 ⟨vq, vr, rfl, Oq, Or, X1⟩
  iterate 4 refine WR.s rfl rfl ?_
  iterate 2 refine WR.sL rfl rfl ?_
  refine WR.s rfl rfl (WR.nil ?_)
  have hs1 := X1.size
  refine WC.seq (WC.region ?_)
  refine WR.v (RunsV.ldB (Bh.ext X1) rfl) rfl ?_
  refine WR.s rfl rfl ?_
  refine WR.stepU (RunsU.stB (Bl.ext X1) rfl rfl Oh.one1) ?_
  rintro h2 ⟨Bl2, U2⟩
  have Bh2 := (Bh.ext X1).upd U2 (Ne.symm d1)
  refine WR.stepU (RunsU.stB Bh2 rfl rfl Or.one1) ?_
  rintro h3 ⟨Bh3, U3⟩
  refine WR.nil ?_
  have Bl3 := Bl2.upd U3 d1
  have Ba3 := ((Ba.ext X1).upd U2 (Ne.symm d2)).upd U3 (Ne.symm d4)
  have Bb3 := ((Bb.ext X1).upd U2 (Ne.symm d3)).upd U3 (Ne.symm d5)
  have tr : ∀ {v : Value} {l : List UInt8} {c : Nat}, OB t_uint8 h1 c v l → OB t_uint8 h3 c v l := fun {v l c} o => by
    have o2 := o.upd U2 (o.ne_box (Bl.ext X1) (by decide))
    exact o2.upd U3 (o2.ne_box Bh2 (by decide))
  have Ol3 := tr (Ol.ext X1)
  have Oh3 := tr (Oh.ext X1)
  have Oa3 := tr (Oa.ext X1)
  have Ob3 := tr (Ob.ext X1)
  have Oq3 := tr Oq
  have Or3 := tr Or
  have K3 : Keeps (fun i => i ≠ bl ∧ i ≠ bh ∧ i ≠ ba ∧ i ≠ bb) h h3 := ((X1.mono (T := fun i => i ≠ bl ∧ i ≠ bh ∧ i ≠ ba ∧ i ≠ bb) fun _ _ _ => trivial).upd U2 (.inr fun q => q.1 rfl)).upd U3 (.inr fun q => q.2.1 rfl)
  have hfb : bf ≠ bl ∧ bf ≠ bh ∧ bf ≠ ba ∧ bf ≠ bb := ⟨Bf.ne Bl (by decide), Bf.ne Bh (by decide), Bf.ne Ba (by decide), Bf.ne Bb (by decide)⟩
  have Bf3 := Bf.keep K3 hfb
  have hqs := (divP_spec (p := low) hh).2.2.2.2
  have hql : (divP low high).1.length ≤ 2001 := by
    have h1 := strip_length low
    by_cases c : (strip high).length ≤ (strip low).length
    · have := hqs c; omega
    · have h0 : Nm (divP low high).1 := (divP_spec (p := low) hh).1
      have e1 : divP low high = (strip (List.replicate (strip low).length 0), strip low) := by
        unfold divP
        simp only [divL, if_neg c]
      rw [e1]
      have := strip_length (List.replicate (strip low).length (0 : UInt8))
      simp only [List.length_replicate] at this
      show (strip _).length ≤ _
      omega
  -- the field in h3
  have hcell : ∀ i, i = bl ∨ i = bh ∨ i = ba ∨ i = bb → ∀ o v, hc h i o = some v → o = 0 := by
    intro i hi o v hv
    have : ∃ u, Box h i t_sl_uint8 u := by rcases hi with rfl | rfl | rfl | rfl; exact ⟨_, Bl⟩; exact ⟨_, Bh⟩; exact ⟨_, Ba⟩; exact ⟨_, Bb⟩
    obtain ⟨u, hu⟩ := this
    unfold Box at hu
    simp only [hc, hu] at hv
    have := (Array.getElem?_eq_some_iff.1 hv).1
    simp at this
    exact this
  have F' : Fld (fun i => i ≠ bl ∧ i ≠ bh ∧ i ≠ ba ∧ i ≠ bb) h f := by
    refine ⟨?_, F.2⟩
    have h1 := F.2.1 1 (by omega)
    refine ⟨?_, ?_, ?_, ?_⟩ <;> (rintro rfl; have := hcell f (by simp) _ _ h1; omega)
  have F3 := F'.keep K3 fun _ q => q
  refine WC.drawF 7 [(1,0),(1,1),(1,2),(0,3),(1,4),(2,5),(2,6),(3,7),(3,8)] (fun h' => Ext h3 h') (by decide +kernel) (fun _ _ _ _ _ _ q => q) (Ext.refl _) ?_
  refine WF.q rfl (fun h' s => RunsV.ldB (Bb3.ext s) rfl) rfl ?_
  refine WF.q rfl (fun h' s => RunsV.ldB (Ba3.ext s) rfl) rfl ?_
  refine WF.q rfl (fun h' s => RunsV.ldB (Bf3.ext s) rfl) rfl ?_
  refine WF.s rfl rfl rfl ?_
  refine WF.q rfl (fun h' s => RunsV.ldB (Bb3.ext s) rfl) rfl ?_
  refine WF.call true rfl (poly_Mul_spec F3 Oq3.any Ob3.any (by omega)) rfl rfl rfl rfl (fun _ s v h' q => s.trans q.2) ?_
  rintro vm h4 ⟨Om, X4⟩
  refine WF.call true rfl (poly_Add_spec (Oa3.ext X4).any Om.any) rfl rfl rfl rfl (fun _ s v h' q => s.trans q.2) ?_
  rintro vn h5 ⟨On, X5⟩
  have X35 := X4.trans X5
  refine WF.u rfl (RunsU.stB (Ba3.ext X35) rfl rfl Ob.one1) ?_
  rintro h6 ⟨Ba6, U6⟩
  have Bb6 := (Bb3.ext X35).upd U6 (Ne.symm d6)
  refine WF.u rfl (RunsU.stB Bb6 rfl rfl On.one1) ?_
  rintro h7 ⟨Bb7, U7⟩
  refine WF.nil ?_
  have tr7 : ∀ {v : Value} {l : List UInt8} {c : Nat}, OB t_uint8 h5 c v l → OB t_uint8 h7 c v l := fun {v l c} o => by
    have o2 := o.upd U6 (o.ne_box (Ba3.ext X35) (by decide))
    exact o2.upd U7 (o2.ne_box Bb6 (by decide))
  have hs3 := K3.size
  have hs4 := X4.size
  have e3 : h3.size = h1.size := by rw [U3.1, U2.1]
  refine ⟨_, rfl, rfl, ⟨⟨_, ((Bl3.ext X35).upd U6 d2).upd U7 d3, tr7 (Oh3.ext X35)⟩, ⟨_, ((Bh3.ext X35).upd U6 d4).upd U7 d5, tr7 ((Or3.ext X35).rebase hbase)⟩, ⟨_, Ba6.upd U7 d6, tr7 (Ob3.ext X35)⟩, ⟨_, Bb7, tr7 (On.rebase (by omega))⟩⟩, ?_⟩
  exact ((K3.then (T := fun _ => True) X35 fun _ _ _ => trivial).upd U6 (.inr fun q => q.2.2.1 rfl)).upd U7 (.inr fun q => q.2.2.2 rfl)
/-- Euclid's steps. -/
def solveL (m e : Nat) : Nat → List UInt8 → List UInt8 → List UInt8 → List UInt8 → Option (List UInt8)
  | 0, _, _, _, _ => none
  | n + 1, low, high, a, b =>
    if 2 * (b.length - 1) + e > m then none
    else if high.length ≤ e + (b.length - 1) then some b
    else solveL m e n high (divP low high).2 b (strip (pxor a (mulP (divP low high).1 b)))
/-- What is reckoned of the syndromes, and the locator of what is known. -/
def solveP (s g : List UInt8) : Option (List UInt8 × List UInt8) :=
  let m := s.length
  let p := mulP g s.reverse
  match solveL m (g.length - 1) (m + 2) (List.replicate m 0 ++ [1]) (strip (p.take m)) [] [1] with
  | none => none
  | some b => let b' := mulP b [ginv (top b)]
              some (b', strip ((mulP b' p).drop m))
/-- The invariant of Euclid's steps. -/
structure Euc (m : Nat) (low high a b : List UInt8) : Prop where
  nl : Nm low
  nh : Nm high
  nb : Nm b
  lt : high.length < low.length
  lb : a.length < b.length
  le : low.length ≤ m + 1
theorem Euc.step {m : Nat} {low high a b : List UInt8} (E : Euc m low high a b) (hh : high ≠ []) : Euc m high (divP low high).2 b (strip (pxor a (mulP (divP low high).1 b))) ∧ (strip (pxor a (mulP (divP low high).1 b))).length = low.length - high.length + b.length := by
  have hh' : strip high ≠ [] := by rw [E.nh]; exact hh
  obtain ⟨q1, q2, q3, q4, q5⟩ := divP_spec (p := low) hh'
  rw [E.nh, E.nl] at q5
  rw [E.nh] at q3
  have hq := q5 (Nat.le_of_lt E.lt)
  have b0 : b ≠ [] := List.length_pos_iff.1 (by have := E.lb; omega)
  have p0 : (divP low high).1 ≠ [] := List.length_pos_iff.1 (by omega)
  have hm := mul_len q1 E.nb p0 b0
  have hlt := E.lt
  have hlb := E.lb
  have ha := add_len (p := a) (nm_mul (divP low high).1 b) (by omega)
  exact ⟨⟨E.nh, q2, nm_strip _, q3, by omega, by have := E.le; omega⟩, by omega⟩
end Go.Eng
namespace Go.Eng
theorem Four.keep {h h' : Heap} {base bl bh ba bb : Nat} {low high a b : List UInt8} (q : Four h base bl bh ba bb low high a b) (k : Ext h h') : Four h' base bl bh ba bb low high a b := by
  obtain ⟨⟨v1, B1, O1⟩, ⟨v2, B2, O2⟩, ⟨v3, B3, O3⟩, ⟨v4, B4, O4⟩⟩ := q
  exact ⟨⟨v1, B1.ext k, O1.ext k⟩, ⟨v2, B2.ext k, O2.ext k⟩, ⟨v3, B3.ext k, O3.ext k⟩, ⟨v4, B4.ext k, O4.ext k⟩⟩
theorem OB.set {T : TypeId} {h : Heap} {base : Nat} {v : Value} {l : List UInt8} {i : Nat} {x : UInt8} (o : Own h base T 1 v l.length ((bcells l).set i (vB x))) (hl : l.length ≤ 140737488355328) : OB T h base v (l.set i x) :=
  ⟨by rw [← bcells_set, List.length_set]; exact o, by rw [List.length_set]; exact hl⟩
theorem take_min {α : Type} (l : List α) (m : Nat) : l.take (min l.length m) = l.take m := by
  rcases Nat.le_total l.length m with q | q
  · rw [Nat.min_eq_left q, List.take_length, List.take_of_length_le q]
  · rw [Nat.min_eq_right q]
theorem drop_min {α : Type} (l : List α) (m : Nat) : l.drop (min l.length m) = l.drop m := by
  rcases Nat.le_total l.length m with q | q
  · rw [Nat.min_eq_left q, List.drop_length, List.drop_eq_nil_of_le q]
  · rw [Nat.min_eq_right q]
theorem low_set (m : Nat) : (List.replicate (m + 1) (0 : UInt8)).set m 1 = List.replicate m 0 ++ [1] := by
  rw [List.replicate_succ']
  rw [List.set_append_right _ _ (by simp)]
  simp
theorem RunsV.lenF {C : Ctx} {tm lo : Env} {h : Heap} {v : Value} {n : Nat} (hf : ∃ A cap, v = .slice A n cap) {x : Operand} {T E : TypeId} [u : Und C.P T (.slice E)] (hx : opv tm lo x = some v) :
    RunsV C tm lo h (.call { callee := .builtin .len, args := #[x], argTypes := #[T] }) (vI n) := by
  obtain ⟨A, cap, rfl⟩ := hf
  exact RunsV.len hx
theorem keyeq_Solve_spec {S T U : Nat → Prop} {h : Heap} {f : Nat} (F : Fld S h f) {sv gv : Value} {s g : List UInt8} (Bs : Bytes T h sv s) (Bg : Bytes U h gv g) (hg : Nm g) (g0 : g ≠ []) (hgs : g.length ≤ s.length + 1) (hs : s.length ≤ 300) :
    Spec PP f_keyeq_Solve #[ptr f, sv, gv] h (fun w h' => Ext h h' ∧ match solveP s g with
      | none => w = .tuple #[.slice none 0 0, .slice none 0 0, vI 100]
      | some q => ∃ x y, w = .tuple #[x, y, vI 0] ∧ OB t_uint8 h' h.size x q.1 ∧ OB t_uint8 h' h.size y q.2) := by
  have hgl := List.length_pos_iff.2 g0
  refine Spec.body (C := c_keyeq_Solve) [(0, ptr f), (1, sv), (2, gv)] h_keyeq_Solve rfl rfl rfl ⟨rfl, rfl, rfl, trivial⟩ rfl ?_
  refine WC.seq (WC.region ?_)
  refine WR.stepL (Runs.bx rfl rfl) rfl ?_
  rintro _ h1 ⟨bf, rfl, hbf, Bf, X1⟩
  iterate 3 refine WR.sL rfl rfl ?_
  refine WR.nil ?_
  refine WC.scope ?_
  refine WC.seq (WC.region ?_)
  refine WR.s rfl rfl ?_
  refine WR.callT (poly_Norm_spec (Bg.ext X1)) rfl rfl rfl ?_
  rintro vg h2 ⟨Og, X2⟩
  rw [hg] at Og
  refine WR.sL rfl rfl (WR.nil ?_)
  have X02 := X1.trans X2
  have Bs2 := Bs.ext X02
  refine WC.seq (WC.region ?_)
  refine WR.s rfl rfl ?_
  refine WR.v (RunsV.lenSl Bs2 rfl) rfl ?_
  refine WR.s rfl rfl ?_
  refine WR.v (RunsV.lenO Og.1 rfl) rfl ?_
  refine WR.v (RunsV.to (v' := vI ((g.length - 1 : Nat))) (RunsV.sub rfl rfl (by omega)) (by show vI _ = vI _; congr 1; omega)) rfl ?_
  iterate 2 refine WR.sL rfl rfl ?_
  refine WR.nil ?_
  refine WC.seq (WC.seq (WC.region ?_))
  refine WR.v (RunsV.ldB (Bf.ext X2) rfl) rfl ?_
  refine WR.v (RunsV.eqNil rfl rfl) rfl ?_
  refine WR.s rfl rfl ?_
  refine WG.start rfl rfl ?_
  iterate 2 refine WG.s rfl rfl rfl rfl ?_
  refine WG.or rfl rfl ?_
  refine WR.s rfl rfl ?_
  refine WG.start rfl rfl ?_
  iterate 3 refine WG.s rfl rfl rfl rfl ?_
  refine WG.or rfl rfl (WR.nil ?_)
  refine WC.ff rfl (by simp; omega) (WC.skip ?_)
  refine WC.seq (WC.region ?_)
  refine WR.s rfl rfl ?_
  refine WR.callT (slices_Clone_byte_byte_spec Bs2) rfl rfl rfl ?_
  rintro vt h3 ⟨Ot, X3⟩
  refine WR.sL rfl rfl (WR.nil ?_)
  refine WC.seq (WC.region ?_)
  refine WR.s rfl rfl ?_
  refine WR.callT (slices_Reverse_byte_byte_spec Ot) rfl rfl rfl ?_
  rintro _ h4 ⟨rfl, Or, K4⟩
  refine WR.nil ?_
  have X24 : Ext h2 h4 := Keeps.own X3 Ot.1 (Nat.le_refl _) K4
  have X04 := X02.trans X24
  refine WC.seq (WC.region ?_)
  refine WR.v (RunsV.ldB ((Bf.ext X2).ext X24) rfl) rfl ?_
  iterate 2 refine WR.s rfl rfl ?_
  refine WR.callT (poly_Mul_spec (F.ext X04) (Og.ext X24).any Or.any (by simp; omega)) rfl rfl rfl ?_
  rintro vp h5 ⟨Op, X5⟩
  refine WR.sL rfl rfl (WR.nil ?_)
  have X05 := X04.trans X5
  have hpl := mul_le g s.reverse
  rw [List.length_reverse] at hpl
  obtain ⟨p, hp⟩ : ∃ p, p = mulP g s.reverse := ⟨_, rfl⟩
  rw [← hp] at Op hpl
  have hm := Op.1.form
  refine WC.seq ?_
  refine WC.drawG 1000000 [0,1,3,4,5,6,7,8] [2,9,10,11] [(true,12),(true,13)] (fun _ => True) (by decide +kernel) (fun _ _ _ _ _ _ q => q) trivial ?_
  refine WQG.s rfl rfl rfl ?_
  refine WQG.q rfl (fun _ _ => RunsV.to (v' := vI ((s.length + 1 : Nat))) (RunsV.add rfl rfl (by omega)) (by simp)) rfl ?_
  iterate 2 refine WQG.s rfl rfl rfl ?_
  refine WQG.q rfl (fun _ _ => RunsV.lenF hm rfl) rfl ?_
  refine WQG.s rfl rfl rfl ?_
  refine WQG.q rfl (fun _ _ => RunsV.minI rfl rfl) rfl ?_
  refine WQG.q rfl (fun _ _ => RunsV.subH (min p.length s.length) rfl rfl hm rfl (Nat.le_trans (Nat.min_le_left _ _) Op.1.cap)) rfl ?_
  refine WQG.par4 (g1 := ⟨2, 51, fun v h' => OB t_uint8 h' h5.size v (List.replicate (s.length + 1) 0), true⟩) (g2 := ⟨9, 58, fun v h' => OB t_uint8 h' h5.size v (strip (p.take s.length)), true⟩)
    (g3 := ⟨10, 14, fun v h' => ∃ b, v = ptr b ∧ h.size ≤ b ∧ Box h' b t_sl_uint8 (.slice none 0 0), false⟩) (g4 := ⟨11, 15, fun v h' => ∃ b, v = ptr b ∧ h.size ≤ b ∧ Box h' b t_sl_uint8 (.slice none 0 0), false⟩) rfl (by decide) ?_ ?_ ?_ ?_ (by simp) (fun _ _ => trivial) ?_
  · refine GrowR.runs true rfl rfl rfl (fun v a b q x => q.ext x) fun h' X => ?_
    intro a w F hh d t p af gd
    obtain ⟨v, w', r1, r2, r3, r4, r5⟩ := Runs.mk (C := c_keyeq_Solve) (T := t_sl_uint8) (E := t_uint8) (bytes := 1) (l := .tmp 50) (c := .tmp 50) (k := .i64) (k' := .i64) rfl (s.length + 1) rfl rfl (by omega) (by omega) a w F hh d t p af gd
    have := X.size
    have := X05.size
    exact ⟨v, w', r1, r2, (⟨by rw [List.length_replicate, ← bcells_rep]; exact r3.rebase (by omega), by simp; omega⟩ : OB t_uint8 _ _ _ _), r5, fun b e => r3.blkOf e⟩
  · refine GrowR.call true rfl rfl rfl rfl rfl (fun v a b q x => q.ext x) fun h' X => ?_
    have hsub := (Op.ext X).bytes.sub (Nat.zero_le (min p.length s.length)) (Nat.min_le_left _ _)
    simp only [List.drop_zero, Nat.sub_zero, take_min] at hsub
    refine (poly_Norm_spec hsub).mono fun v h'' q => ⟨q.1.rebase ?_, q.2, fun b e => q.1.1.blkOf e⟩
    have := X.size
    have := X05.size
    omega
  · refine GrowR.runs false rfl rfl rfl (fun v a b q x => by obtain ⟨c, q1, q2, q3⟩ := q; exact ⟨c, q1, q2, q3.ext x⟩) fun h' X => ?_
    intro a w F hh d t p af gd
    obtain ⟨v, w', r1, r2, c, r3, r4, r5, r6⟩ := Runs.al (C := c_keyeq_Solve) (E := t_sl_uint8) rfl a w F hh d t p af gd
    have := X.size
    have := X05.size
    exact ⟨v, w', r1, r2, ⟨c, r3, by omega, r5⟩, r6, fun b e => by rw [r3] at e; cases e; exact ⟨r4, r5.lt⟩⟩
  · refine GrowR.runs false rfl rfl rfl (fun v a b q x => by obtain ⟨c, q1, q2, q3⟩ := q; exact ⟨c, q1, q2, q3.ext x⟩) fun h' X => ?_
    intro a w F hh d t p af gd
    obtain ⟨v, w', r1, r2, c, r3, r4, r5, r6⟩ := Runs.al (C := c_keyeq_Solve) (E := t_sl_uint8) rfl a w F hh d t p af gd
    have := X.size
    have := X05.size
    exact ⟨v, w', r1, r2, ⟨c, r3, by omega, r5⟩, r6, fun b e => by rw [r3] at e; cases e; exact ⟨r4, r5.lt⟩⟩
  rintro v1 v2 v3 v4 h6 X6 D Ol Oh ⟨bl, rfl, hbl, Bl⟩ ⟨bh, rfl, hbh, Bh⟩
  have dlh : bl ≠ bh := by
    rintro rfl
    simp only [Dist, List.pairwise_cons] at D
    exact D.2.2.1 (ptr bl) (by simp) bl rfl rfl
  have dv : ∀ b, v1.ownBlock = some b → v2.ownBlock ≠ some b := fun b e1 e2 => by
    simp only [Dist, List.pairwise_cons] at D
    have tr : ∀ {v : Value} {c : Nat}, v.ownBlock = some c → blkOf v = some c := fun {v c} q => by
      cases v with
      | slice A n cap => cases A with
        | none => cases q
        | some a => exact q
      | _ => cases q
    exact D.1 v2 (by simp) b (tr e1) (tr e2)
  dsimp only at Ol Oh
  refine WQ.u rfl (RunsU.stB Bl rfl rfl Ol.one1) (fun _ _ _ _ => trivial) (by omega) ?_
  rintro h7 ⟨Bl7, U7⟩
  have Bh7 := Bh.upd U7 (Ne.symm dlh)
  have Ol7 := Ol.upd U7 (Ol.ne_box Bl (by decide))
  have Oh7 := Oh.upd U7 (Oh.ne_box Bl (by decide))
  refine WQ.u rfl (RunsU.stB Bh7 rfl rfl Oh7.one1) (fun _ _ _ _ => trivial) (by omega) ?_
  rintro h8 ⟨Bh8, U8⟩
  have Bl8 := Bl7.upd U8 dlh
  have Ol8 := Ol7.upd U8 (Ol7.ne_box Bh7 (by decide))
  have Oh8 := Oh7.upd U8 (Oh7.ne_box Bh7 (by decide))
  have X08 : Ext h h8 := ((X05.trans X6).upd U7 (.inl hbl)).upd U8 (.inl hbh)
  have Bf6 := (((Bf.ext X2).ext X24).ext X5).ext X6
  have Bf8 := (Bf6.upd U7 (Bf6.ne Bl (by decide))).upd U8 ((Bf6.upd U7 (Bf6.ne Bl (by decide))).ne Bh7 (by decide))
  have Op6 := Op.ext X6
  have Op7 := Op6.upd U7 (Op6.ne_box Bl (by decide))
  have Op8 := Op7.upd U8 (Op7.ne_box Bh7 (by decide))
  clear Bl Bh Bl7 Bh7 Ol Oh Ol7 Oh7 Bf6 Op6 Op7 U7 U8 X6 hbf D Og Bs2 Ot Or K4
  refine WQ.nil ?_
  refine WC.seq (WC.region ?_)
  refine WR.v (RunsV.ldB Bl8 rfl) rfl ?_
  refine WR.s rfl rfl ?_
  have Ol8' : Own h8 h5.size t_uint8 1 v1 (s.length + 1) (bcells (List.replicate (s.length + 1) 0)) := by have := Ol8.1; rwa [List.length_replicate] at this
  refine WR.v (RunsV.ix (Ol8'.has (by omega)) s.length (by omega) rfl rfl rfl) rfl ?_
  refine WR.stepU (RunsU.stO (e := vB 1) Ol8' (by omega) rfl rfl rfl) ?_
  rintro h9 ⟨O9, g9, hg9, hg9', hgv9, U9⟩
  have hgb : ∀ {b : Nat} {u : Value} {T : TypeId}, Box h8 b T u → t_uint8 ≠ T → b ≠ g9 := fun B ne => by
    rintro rfl
    exact ne ((Ol8'.ty hgv9).inj B.ty)
  have Bl9 := Bl8.upd U9 (hgb Bl8 (by decide))
  have Bh9 := Bh8.upd U9 (hgb Bh8 (by decide))
  have Bf9 := Bf8.upd U9 (hgb Bf8 (by decide))
  have hs5 := X05.size
  have X09 : Ext h h9 := X08.upd U9 (.inl (by omega))
  have Oh9 := Oh8.upd U9 (dv g9 hgv9)
  have Op9 := Op8.upd U9 (fun q => by have := (Op.1.blk q); omega)
  have Ol9 : OB t_uint8 h9 h.size v1 (List.replicate s.length 0 ++ [1]) := by
    rw [← low_set]
    exact (OB.set (by rw [List.length_replicate]; exact O9) (by simp; omega)).rebase hs5
  refine WR.nil ?_
  refine WC.seq (WC.region ?_)
  refine WR.stepT (Runs.bs1 rfl (e := vB 1) rfl rfl) rfl ?_
  rintro _ _ ⟨rfl, rfl⟩
  have XA := (Ext.refl h9).push (.cells #[vB 1] t_uint8 (0, 0))
  have Ob0 : OB t_uint8 (h9.push (.cells #[vB 1] t_uint8 (0, 0))) h9.size (.slice (some ⟨h9.size, 0, none⟩) 1 1) [1] := OB.lit1
  refine WR.stepL (Runs.al rfl) rfl ?_
  rintro _ h10 ⟨ba, rfl, hba, Ba, XB⟩
  refine WR.stepL (Runs.al rfl) rfl ?_
  rintro _ h11 ⟨bb, rfl, hbb, Bb, XC⟩
  have X911 : Ext h9 h11 := (XA.trans XB).trans XC
  have dab : ba ≠ bb := by have := Ba.lt; omega
  have hba' : h9.size < ba := by have := hba; simp at this; omega
  have hbb' : ba < bb := Nat.lt_of_lt_of_le Ba.lt hbb
  have dla : bl ≠ ba ∧ bh ≠ ba := by have := Bl9.lt; have := Bh9.lt; constructor <;> omega
  have dlb : bl ≠ bb ∧ bh ≠ bb := by have := Bl9.lt; have := Bh9.lt; constructor <;> omega
  have Ba11 := Ba.ext XC
  refine WR.stepU (RunsU.stB Ba11 rfl rfl rfl) ?_
  rintro h12 ⟨Ba12, U12⟩
  have Bb12 := Bb.upd U12 (Ne.symm dab)
  refine WR.stepU (RunsU.stB Bb12 rfl rfl rfl) ?_
  rintro h13 ⟨Bb13, U13⟩
  have tr : ∀ {v : Value} {l : List UInt8} {c : Nat}, OB t_uint8 h11 c v l → OB t_uint8 h13 c v l := fun {v l c} o => by
    have o2 := o.upd U12 (o.ne_box Ba11 (by decide))
    exact o2.upd U13 (o2.ne_box Bb12 (by decide))
  have hs09 := X09.size
  have X0 : Ext h h13 := ((X09.trans X911).upd U12 (.inl (by omega))).upd U13 (.inl (by omega))
  have Q13 : Four h13 h.size bl bh ba bb (List.replicate s.length 0 ++ [1]) (strip (p.take s.length)) [] [1] :=
    ⟨⟨v1, ((Bl9.ext X911).upd U12 dla.1).upd U13 dlb.1, tr (Ol9.ext X911)⟩, ⟨v2, ((Bh9.ext X911).upd U12 dla.2).upd U13 dlb.2, (tr (Oh9.ext X911)).rebase hs5⟩, ⟨_, Ba12.upd U13 dab, OB.nil _ _ _⟩, ⟨_, Bb13, (tr ((Ob0.ext XB).ext XC)).rebase hs09⟩⟩
  have Bf13 : Box h13 bf t_ptr_gf_Field (ptr f) := by
    have b1 := Bf9.ext X911
    have b2 := b1.upd U12 (b1.ne Ba11 (by decide))
    exact b2.upd U13 (b2.ne Bb12 (by decide))
  have Op13 := tr (Op9.ext X911)
  have E13 : Euc s.length (List.replicate s.length 0 ++ [1]) (strip (p.take s.length)) [] [1] := by
    refine ⟨?_, nm_strip _, ?_, ?_, by simp, by simp⟩
    · refine nm_of_top ?_
      rw [cf_lt (by simp)]
      simp
    · refine nm_of_top ?_
      decide
    · have := strip_length (p.take s.length)
      rw [List.length_take] at this
      simp
      omega
  clear Ba Ba11 Ba12 Bb Bb12 Bb13 Ob0 XA XB XC X911 U12 U13 tr Ol9 Oh9 Op9 O9 U9 Bl9 Bh9 Bf9 hgb X09 Ol8 Oh8 Op8 X08 Bl8 Bh8 Bf8
  refine WR.nil ?_
  refine WC.seq (WC.region ?_)
  refine WR.s rfl rfl ?_
  refine WR.sL rfl rfl (WR.nil ?_)
  refine WC.seq (WC.label ?_)
  refine WC.seq (WC.block ?_)
  have hR : solveP s g = match solveL s.length (g.length - 1) (s.length + 2) (List.replicate s.length 0 ++ [1]) (strip (p.take s.length)) [] [1] with
      | none => none
      | some b => some (mulP b [ginv (top b)], strip ((mulP (mulP b [ginv (top b)]) p).drop s.length)) := by rw [hp]; rfl
  obtain ⟨R, hRe⟩ : ∃ R, R = solveL s.length (g.length - 1) (s.length + 2) (List.replicate s.length 0 ++ [1]) (strip (p.take s.length)) [] [1] := ⟨_, rfl⟩
  rw [← hRe] at hR
  have hhl : (strip (p.take s.length)).length ≤ s.length := by
    have := strip_length (p.take s.length)
    rw [List.length_take] at this
    omega
  refine WC.loop (σ := (List UInt8 × List UInt8) × List UInt8 × List UInt8) (fun _ => [(3, ptr bf), (10, vI s.length), (11, vI ((g.length - 1 : Nat))), (13, vp), (15, ptr bh), (17, ptr bb), (18, .func (.func f_keyeq_Solve_1) #[] #[ptr bf, ptr bl, ptr bh, ptr bb, ptr ba])])
    (fun q h' => Ext h h' ∧ Four h' h.size bl bh ba bb q.1.1 q.1.2 q.2.1 q.2.2 ∧ Box h' bf t_ptr_gf_Field (ptr f) ∧ OB t_uint8 h' h4.size vp p ∧ Euc s.length q.1.1 q.1.2 q.2.1 q.2.2 ∧ ∃ n, q.1.2.length < n ∧ solveL s.length (g.length - 1) n q.1.1 q.1.2 q.2.1 q.2.2 = R)
    (fun q => q.1.2.length) ((List.replicate s.length 0 ++ [1], strip (p.take s.length)), [], [1]) (fun _ => rfl)
    ⟨rfl, rfl, rfl, rfl, rfl, rfl, rfl, trivial⟩ ⟨X0, Q13, Bf13, Op13, E13, s.length + 2, by dsimp only; omega, hRe.symm⟩ ?_
  clear X0 Q13 Bf13 Op13 E13
  rintro ⟨⟨low, high⟩, a, b⟩ k1 ⟨X, Q, Bf1, Op1, Eu, n, hn, hsol⟩
  dsimp only at Q Eu hn hsol ⊢
  have hlb := Eu.lb
  have b0 : b ≠ [] := List.length_pos_iff.1 (by omega)
  have hbl : b.length ≤ 140737488355328 := by obtain ⟨v, _, o⟩ := Q.fb; exact o.2
  obtain ⟨n, rfl⟩ : ∃ n', n = n' + 1 := ⟨n - 1, by omega⟩
  rw [solveL] at hsol
  obtain ⟨vb, Bb, Ob⟩ := id Q.fb
  obtain ⟨vh, Bh, Oh⟩ := id Q.fh
  refine WC.block ?_
  refine WC.seq (WC.region ?_)
  refine WR.v (RunsV.ldB Bb rfl) rfl ?_
  refine WR.v (RunsV.lenO Ob.1 rfl) rfl ?_
  refine WR.v (RunsV.to (v' := vI ((b.length - 1 : Nat))) (RunsV.sub rfl rfl (by omega)) (by show vI _ = vI _; congr 1; omega)) rfl ?_
  refine WR.sL rfl rfl (WR.nil ?_)
  refine WC.seq (WC.block ?_)
  refine WC.seq (WC.region ?_)
  refine WR.s rfl rfl ?_
  refine WR.v (RunsV.to (v' := vI ((2 * (b.length - 1) : Nat))) (RunsV.mul rfl rfl (by omega)) (by simp)) rfl ?_
  refine WR.s rfl rfl ?_
  refine WR.v (RunsV.to (v' := vI ((2 * (b.length - 1) + (g.length - 1) : Nat))) (RunsV.add rfl rfl (by omega)) (by simp)) rfl ?_
  iterate 3 refine WR.s rfl rfl ?_
  refine WR.nil ?_
  refine WC.itep rfl (fun e => ?_) (fun e => ?_)
  · refine WC.seq (WC.region ?_)
    iterate 3 refine WR.sL rfl rfl ?_
    refine WR.nil ?_
    rw [if_pos (by omega)] at hsol
    refine WC.ret ⟨_, rfl, X, ?_⟩
    rw [hR, ← hsol]
    rfl
  · rw [if_neg (by omega)] at hsol
    refine WC.seq (WC.region ?_)
    refine WR.v (RunsV.ldB Bh rfl) rfl ?_
    refine WR.v (RunsV.lenO Oh.1 rfl) rfl ?_
    iterate 2 refine WR.s rfl rfl ?_
    refine WR.v (RunsV.to (v' := vI ((g.length - 1 + (b.length - 1) : Nat))) (RunsV.add rfl rfl (by omega)) (by simp)) rfl ?_
    iterate 2 refine WR.s rfl rfl ?_
    refine WR.nil ?_
    refine WC.itep rfl (fun e2 => ?_) (fun e2 => ?_)
    · rw [if_pos (by omega)] at hsol
      refine WC.exit (exit_miss (by decide) (exit_miss (by decide) (exit_hit ?_)))
      rw [← hsol] at hR
      have hbt : b.length - 1 < b.length := by omega
      refine WC.seq ?_
      refine WC.draw [(false,0),(false,1),(false,2),(false,3),(false,4),(false,5),(false,6),(true,7),(false,8),(false,9),(false,10),(false,11),(false,12)] (same _) (by decide +kernel) (fun _ _ _ _ _ _ q => q) rfl ?_
      refine WQ.rd rfl (RunsV.ldB Bf1 rfl) rfl ?_
      iterate 2 refine WQ.rd rfl (RunsV.ldB Bb rfl) rfl ?_
      refine WQ.rd rfl (RunsV.lenO Ob.1 rfl) rfl ?_
      refine WQ.rd rfl (RunsV.sub rfl rfl (by omega)) rfl ?_
      refine WQ.rd rfl (RunsV.ix (Ob.1.has (by omega)) (b.length - 1) hbt rfl rfl (by omega)) rfl ?_
      refine WQ.rd rfl (RunsV.ldO Ob.1 (by omega) rfl rfl (y := vB (top b)) (by rw [bcells_get hbt, top_get (by omega)])) rfl ?_
      refine WQ.rc rfl (gf_Field_Inv_spec (F.ext X) _) rfl rfl rfl (by omega) ?_
      rintro _ rfl
      iterate 3 refine WQ.s rfl rfl rfl ?_
      refine WQ.sL rfl rfl rfl ?_
      refine WQ.s rfl rfl rfl ?_
      refine WQ.nil ?_
      refine WC.seq (WC.region ?_)
      refine WR.v (RunsV.ldB Bf1 rfl) rfl ?_
      refine WR.v (RunsV.ldB Bb rfl) rfl ?_
      refine WR.s rfl rfl ?_
      refine WR.stepT (Runs.bs1 rfl (e := vB (ginv (top b))) rfl rfl) rfl ?_
      rintro _ _ ⟨rfl, rfl⟩
      have XA := (Ext.refl k1).push (.cells #[vB (ginv (top b))] t_uint8 (0, 0))
      refine WR.callT (poly_Mul_spec ((F.ext X).ext XA) (Ob.ext XA).any (OB.lit1 (x := ginv (top b))).any (by simp; omega)) rfl rfl rfl ?_
      rintro v2 k2 ⟨O2, X2⟩
      have X12 := XA.trans X2
      refine WR.stepU (RunsU.stB (Bb.ext X12) rfl rfl O2.one1) ?_
      rintro k3 ⟨Bb3, U3⟩
      have O3 := O2.upd U3 (O2.ne_box (Bb.ext X12) (by decide))
      have Op3 := (Op1.ext X12).upd U3 ((Op1.ext X12).ne_box (Bb.ext X12) (by decide))
      have Bf3 := (Bf1.ext X12).upd U3 ((Bf1.ext X12).ne (Bb.ext X12) (by decide))
      have hbb2 : h.size ≤ bb := by omega
      have X3 : Ext h k3 := (X.trans X12).upd U3 (.inl hbb2)
      have hml := mul_le b [ginv (top b)]
      refine WR.nil ?_
      refine WC.seq (WC.region ?_)
      refine WR.v (RunsV.ldB Bf3 rfl) rfl ?_
      refine WR.v (RunsV.ldB Bb3 rfl) rfl ?_
      refine WR.s rfl rfl ?_
      refine WR.callT (poly_Mul_spec (F.ext X3) O3.any Op3.any (by simp at hml; omega)) rfl rfl rfl ?_
      rintro v4 k4 ⟨O4, X4⟩
      refine WR.sL rfl rfl (WR.nil ?_)
      have hf4 := O4.1.form
      obtain ⟨al, hal⟩ : ∃ al, al = mulP (mulP b [ginv (top b)]) p := ⟨_, rfl⟩
      have hR : solveP s g = some (mulP b [ginv (top b)], strip ((mulP (mulP b [ginv (top b)]) p).drop s.length)) := hR
      rw [← hal] at O4 hf4 hR
      refine WC.seq ?_
      have B4 := O4.any.sub (Nat.min_le_left al.length s.length) (Nat.le_refl _)
      rw [drop_min, List.take_of_length_le (by rw [List.length_drop]; omega)] at B4
      refine WC.draw [(false,0),(false,1),(false,2),(false,3),(false,4),(false,5),(false,6),(true,7),(false,8),(false,9),(false,10)] (fun h' => Ext k4 h') (by decide +kernel) (fun _ _ _ _ _ _ q => q) (Ext.refl _) ?_
      refine WQ.q rfl (fun h' x => RunsV.ldB ((Bb3.ext X4).ext x) rfl) rfl ?_
      iterate 2 refine WQ.s rfl rfl rfl ?_
      refine WQ.q rfl (fun h' x => RunsV.lenF hf4 rfl) rfl ?_
      refine WQ.s rfl rfl rfl ?_
      refine WQ.q rfl (fun h' x => RunsV.minI rfl rfl) rfl ?_
      refine WQ.q rfl (fun h' x => RunsV.subL (min al.length s.length) rfl rfl hf4 rfl (Nat.min_le_left _ _)) rfl ?_
      refine WQ.call rfl (poly_Norm_spec B4) rfl rfl rfl (fun _ x v h' q => x.trans q.2) (by omega) ?_
      rintro v5 k5 ⟨O5, X5⟩
      iterate 3 refine WQ.sL rfl rfl rfl ?_
      refine WQ.nil ?_
      have X05' := (X3.trans X4).trans X5
      refine WC.ret ⟨_, rfl, X05', ?_⟩
      rw [hR]
      refine ⟨_, _, rfl, ((O3.ext X4).ext X5).rebase ?_, O5.rebase ?_⟩
      · simp only [Array.size_push]; have := X.size; omega
      · have := X3.size; have := X4.size; omega
    · rw [if_neg (by omega)] at hsol
      have hh0 : high ≠ [] := List.length_pos_iff.1 (by omega)
      obtain ⟨Eu', hlen⟩ := Eu.step hh0
      have hq := (divP_spec (p := low) (q := high) (by rw [Eu.nh]; exact hh0)).2.2.1
      rw [Eu.nh] at hq
      have hlow := Eu.le
      have hlt := Eu.lt
      refine WC.skip ?_
      refine WC.region ?_
      refine WR.s rfl rfl ?_
      refine WR.callC (keyeq_Solve_1_spec (F.ext X) Bf1 Q X.size ⟨dlh, dla.1, dlb.1, dla.2, dlb.2, dab⟩ (by rw [Eu.nh]; exact hh0) (by omega)) rfl rfl rfl rfl ?_
      rintro _ k2 ⟨rfl, Q2, K2⟩
      refine WR.nil ?_
      have X2 : Ext h k2 := X.then K2 fun i hi _ => ⟨by omega, by omega, by omega, by omega⟩
      obtain ⟨vl, Bl, Ol⟩ := id Q.fl
      obtain ⟨va, Ba, Oa⟩ := id Q.fa
      have Bf2 : Box k2 bf t_ptr_gf_Field (ptr f) := Bf1.keep K2 ⟨Bf1.ne Bl (by decide), Bf1.ne Bh (by decide), Bf1.ne Ba (by decide), Bf1.ne Bb (by decide)⟩
      have Op2 : OB t_uint8 k2 h4.size vp p := Op1.keep K2 fun i hi => ⟨fun q => Op1.ne_box Bl (by decide) (q ▸ hi), fun q => Op1.ne_box Bh (by decide) (q ▸ hi), fun q => Op1.ne_box Ba (by decide) (q ▸ hi), fun q => Op1.ne_box Bb (by decide) (q ▸ hi)⟩
      refine ⟨((high, (divP low high).2), b, strip (pxor a (mulP (divP low high).1 b))), ⟨rfl, rfl, rfl, rfl, rfl, rfl, rfl, trivial⟩, ⟨X2, Q2, Bf2, Op2, Eu', n, by dsimp only; omega, hsol⟩, by dsimp only; omega⟩
end Go.Eng
