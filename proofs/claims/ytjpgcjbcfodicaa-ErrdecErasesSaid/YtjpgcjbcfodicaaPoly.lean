/- Steps of the proof: lemmas for every input, without conditions but those that each states. -/
import Derived.Test.YtjpgcjbcfodicaaField
import Derived.Test.YtjpgcjbcfodicaaEngC
set_option linter.unusedSimpArgs false
set_option linter.unusedVariables false
namespace Go.Eng
open Go.Proofs

/-! ### Polynomials as lists -/
def pxor : List UInt8 → List UInt8 → List UInt8
  | [], q => q
  | p, [] => p
  | a :: p, b :: q => (a ^^^ b) :: pxor p q
theorem pxor_nil (p : List UInt8) : pxor p [] = p := by cases p <;> rfl
theorem pxor_length : ∀ p q : List UInt8, (pxor p q).length = max p.length q.length
  | [], q => by simp [pxor]
  | a :: p, [] => by simp [pxor]
  | a :: p, b :: q => by simp only [pxor, List.length_cons, pxor_length p q]; omega
theorem pxor_snoc : ∀ (p q : List UInt8) (c : UInt8), pxor p (q ++ [c]) = if q.length < p.length then (pxor p q).set q.length ((pxor p q).getD q.length 0 ^^^ c) else pxor p q ++ [c]
  | [], q, c => by simp [pxor]
  | a :: p, [], c => by simp [pxor, pxor_nil]
  | a :: p, b :: q, c => by
    have ih := pxor_snoc p q c
    simp only [List.cons_append, pxor, ih, List.length_cons, Nat.add_lt_add_iff_right]
    split <;> simp [List.getD]
def strip (l : List UInt8) : List UInt8 := (l.reverse.dropWhile (· == 0)).reverse
theorem strip_snoc (l : List UInt8) (c : UInt8) : strip (l ++ [c]) = if c = 0 then strip l else l ++ [c] := by
  simp only [strip, List.reverse_append, List.reverse_cons, List.reverse_nil, List.nil_append, List.cons_append, List.dropWhile_cons]
  by_cases e : c = 0
  · simp [e]
  · simp [e]
theorem strip_length (l : List UInt8) : (strip l).length ≤ l.length := by
  unfold strip
  rw [List.length_reverse]
  exact Nat.le_trans (List.dropWhile_sublist _).length_le (by simp)
def sumP (l : List (List UInt8)) : List UInt8 := strip (l.foldl pxor [])

theorem foldl_take_succ {α β : Type} (f : β → α → β) (b : β) (l : List α) (i : Nat) (h : i < l.length) : (l.take (i + 1)).foldl f b = f ((l.take i).foldl f b) l[i] := by
  rw [List.take_succ_eq_append_getElem h, List.foldl_append]; rfl

theorem poly_sum_spec {S : Nat → Prop} {h : Heap} {v : Value} {ll : List (List UInt8)} (L : BytesL S h v ll) : Spec PP f_poly_sum #[v] h (fun r h' => OB t_uint8 h' h.size r (sumP ll) ∧ Ext h h') := by
  obtain ⟨vs, hL, hB⟩ := id L
  refine Spec.body (C := c_poly_sum) [(0, v)] h_poly_sum rfl rfl rfl ⟨rfl, trivial⟩ rfl ?_
  refine WC.seq (WC.region (WR.sL rfl rfl (WR.nil ?_)))
  refine WC.seq (WC.region (WR.sL rfl rfl (WR.nil ?_)))
  refine WC.seq (WC.seq (WC.region ?_))
  refine WR.sL rfl rfl ?_
  refine WR.vL (RunsV.lenSl hL rfl) rfl ?_
  refine WR.sL rfl rfl (WR.nil ?_)
  refine WC.block ?_
  refine WC.loop (σ := Nat × Value) (fun s => [(3, s.2), (8, v), (9, vI ll.length), (10, vI s.1)]) (fun s h' => s.1 ≤ ll.length ∧ OB t_uint8 h' h.size s.2 ((ll.take s.1).foldl pxor []) ∧ Ext h h') (fun s => ll.length - s.1) (0, .slice none 0 0) (fun _ => rfl)
    ⟨rfl, rfl, rfl, rfl, trivial⟩ ⟨Nat.zero_le _, OB.nil _ _ _, Ext.refl h⟩ ?_
  have hn := hL.2.1
  rintro ⟨k, r⟩ h1 ⟨hk, O, X⟩
  dsimp only at hk O
  refine WC.seq (WC.region ?_)
  refine WR.s rfl rfl (WR.nil ?_)
  refine WC.seq ?_
  refine WC.itep rfl (fun e => ?_) (fun e => ?_)
  · have hk' : k < ll.length := by omega
    obtain ⟨u, hu, B0⟩ := hB k hk'
    have hL1 := hL.ext X
    refine WC.skip ?_
    refine WC.seq (WC.block ?_)
    refine WC.seq (WC.region ?_)
    refine WR.v (RunsV.ix (hL1.has (by omega)) k hk' rfl rfl rfl) rfl ?_
    refine WR.v (RunsV.ldE hL1 (by omega) rfl rfl hu) rfl ?_
    refine WR.sL rfl rfl (WR.nil ?_)
    have B1 := B0.ext X
    have hm := B0.2.1
    refine WC.seq (WC.region ?_)
    refine WR.sL rfl rfl ?_
    refine WR.vL (RunsV.lenSl B1 rfl) rfl ?_
    refine WR.sL rfl rfl (WR.nil ?_)
    refine WC.block ?_
    refine WC.loop (σ := Nat × Value) (fun s => [(3, s.2), (8, v), (9, vI ll.length), (10, vI k), (14, u), (15, vI ll[k].length), (16, vI s.1)]) (fun s h' => s.1 ≤ ll[k].length ∧ OB t_uint8 h' h.size s.2 (pxor ((ll.take k).foldl pxor []) (ll[k].take s.1)) ∧ Ext h h') (fun s => ll[k].length - s.1) (0, r) (fun _ => rfl)
      ⟨rfl, rfl, rfl, rfl, rfl, rfl, rfl, trivial⟩ ⟨Nat.zero_le _, by simpa [pxor_nil] using O, X⟩ ?_
    clear O X B1 hL1
    rintro ⟨i, r2⟩ h2 ⟨hi, O, X⟩
    dsimp only at hi O
    have B2 := B0.ext X
    refine WC.seq (WC.region ?_)
    refine WR.s rfl rfl (WR.nil ?_)
    refine WC.seq ?_
    refine WC.itep rfl (fun e2 => ?_) (fun e2 => ?_)
    · have hi' : i < ll[k].length := by omega
      refine WC.skip ?_
      refine WC.seq (WC.block ?_)
      refine WC.seq (WC.region ?_)
      refine WR.s rfl rfl ?_
      refine WR.v (RunsV.ix (B2.has (by omega)) i hi' rfl rfl rfl) rfl ?_
      refine WR.v (RunsV.ldE B2 (by omega) rfl rfl (bcells_get hi')) rfl ?_
      iterate 2 refine WR.sL rfl rfl ?_
      refine WR.nil ?_
      have hsn := pxor_snoc ((ll.take k).foldl pxor []) (ll[k].take i) ll[k][i]
      rw [← List.take_succ_eq_append_getElem hi'] at hsn
      have hlen := pxor_length ((ll.take k).foldl pxor []) (ll[k].take i)
      have htl : (ll[k].take i).length = i := by rw [List.length_take]; omega
      rw [htl] at hsn hlen
      generalize hacc : pxor ((ll.take k).foldl pxor []) (ll[k].take i) = acc at *
      generalize (ll.take k).foldl pxor [] = acc0 at *
      refine WC.cut1 3 (fun r3 h3 => ∃ acc', OB t_uint8 h3 h.size r3 acc' ∧ Ext h h3 ∧ i < acc'.length ∧ acc'.set i (acc'.getD i 0 ^^^ ll[k][i]) = pxor acc0 (ll[k].take (i + 1))) rfl ?_ ?_
      · refine WC.seq (WC.region ?_)
        iterate 2 refine WR.s rfl rfl ?_
        refine WR.v (RunsV.lenO O.1 rfl) rfl ?_
        refine WR.s rfl rfl (WR.nil ?_)
        refine WC.itep rfl (fun e3 => ?_) (fun e3 => ?_)
        · have ei : i = acc.length := by omega
          refine WC.region ?_
          refine WR.s rfl rfl ?_
          refine WR.ap1T O.1 (by have := X.size; omega) rfl rfl (fun _ => rfl) rfl rfl rfl (by omega) (by omega) ?_
          rintro x r3 h3 O3 k3 _
          refine WR.sL rfl rfl (WR.nil (cut1_hit ?_))
          refine ⟨acc ++ [0], ⟨by rw [bcells_append, List.length_append]; exact O3, by simp; omega⟩, X.own O.1 (Nat.le_refl _) k3, by simp; omega, ?_⟩
          rw [hsn, if_neg (by omega)]
          generalize ll[k][i] = c
          subst ei
          simp
        · refine WC.skip (cut1_same rfl ⟨acc, O, X, by omega, ?_⟩)
          rw [hsn, if_pos (by omega)]
      · rintro r3 h3 ⟨acc', O3, X3, hl3, heq⟩
        refine WC.region ?_
        iterate 2 refine WR.s rfl rfl ?_
        refine WR.v (RunsV.ix (O3.1.has (by omega)) i hl3 rfl rfl rfl) rfl ?_
        refine WR.v (RunsV.ldO O3.1 (by omega) rfl rfl (bcells_get hl3)) rfl ?_
        refine WR.s rfl rfl ?_
        refine WR.v (RunsV.xorB rfl rfl) rfl ?_
        refine WR.v (RunsV.ix (O3.1.has (by omega)) i hl3 rfl rfl rfl) rfl ?_
        refine WR.stepU (RunsU.stO O3.1 hl3 rfl rfl rfl) ?_
        rintro h4 ⟨O4, g, hg1, hg2, hg3, U⟩
        refine WR.nil ?_
        refine WC.region ?_
        refine WR.v (RunsV.add rfl rfl (by omega)) rfl ?_
        refine WR.sL rfl rfl (WR.nil ?_)
        refine ⟨(i + 1, r3), ⟨rfl, rfl, rfl, rfl, rfl, rfl, rfl, trivial⟩, ⟨by dsimp only; omega, ?_, X3.upd U (.inl hg1)⟩, by dsimp only; omega⟩
        dsimp only
        rw [← heq]
        refine ⟨?_, by simpa using O3.2⟩
        rw [bcells_set] at O4
        have e5 : acc'.getD i 0 = acc'[i] := by simp [List.getD, hl3]
        rw [e5, List.length_set]
        exact O4
    · have ei : i = ll[k].length := by omega
      refine WC.exit (exit_hit ?_)
      refine WC.region ?_
      refine WR.v (RunsV.add rfl rfl (by omega)) rfl ?_
      refine WR.sL rfl rfl (WR.nil ?_)
      refine ⟨(k + 1, r2), ⟨rfl, rfl, rfl, rfl, trivial⟩, ⟨by dsimp only; omega, ?_, X⟩, by dsimp only; omega⟩
      dsimp only
      rw [foldl_take_succ _ _ _ _ hk']
      rw [ei, List.take_length] at O
      exact O
  · have ek : k = ll.length := by omega
    rw [ek, List.take_length] at O
    refine WC.exit (exit_hit ?_)
    refine WC.seq (WC.block ?_)
    refine WC.loop (σ := Value × List UInt8) (fun s => [(3, s.1)]) (fun s h' => OB t_uint8 h' h.size s.1 s.2 ∧ strip s.2 = sumP ll ∧ Ext h h') (fun s => s.2.length) (r, ll.foldl pxor []) (fun _ => rfl)
      ⟨rfl, trivial⟩ ⟨O, rfl, X⟩ ?_
    clear O X
    rintro ⟨r, l⟩ h1 ⟨O, hs, X⟩
    dsimp only at O hs
    have hl := O.2
    refine WC.seq (WC.seq (WC.region ?_))
    refine WR.s rfl rfl ?_
    refine WR.v (RunsV.lenO O.1 rfl) rfl ?_
    iterate 2 refine WR.s rfl rfl ?_
    by_cases h0 : 0 < l.length
    · have hd : decide ((0 : Int) < (l.length : Int)) = true := by simpa using h0
      refine WR.gt rfl rfl hd (WR.s rfl rfl ?_)
      refine WR.gt rfl rfl hd (WR.s rfl rfl ?_)
      refine WR.gt rfl rfl hd (WR.v (RunsV.lenO O.1 rfl) rfl ?_)
      refine WR.gt rfl rfl hd (WR.v (RunsV.sub rfl rfl (by omega)) rfl ?_)
      refine WR.gt rfl rfl hd (WR.v (RunsV.ix (O.1.has (by omega)) (l.length - 1) (by omega) rfl rfl (by omega)) rfl ?_)
      refine WR.gt rfl rfl hd (WR.v (RunsV.ldO O.1 (by omega) rfl rfl (bcells_get (show l.length - 1 < l.length by omega))) rfl ?_)
      refine WR.gt rfl rfl hd (WR.s rfl rfl ?_)
      refine WR.v (RunsV.pickT rfl hd rfl) rfl (WR.nil ?_)
      have hsp : l = l.take (l.length - 1) ++ [l[l.length - 1]] := by
        rw [← List.take_succ_eq_append_getElem (by omega), show l.length - 1 + 1 = l.length by omega, List.take_length]
      have hss := strip_snoc (l.take (l.length - 1)) l[l.length - 1]
      rw [← hsp, hs] at hss
      refine WC.itep rfl (fun e => ?_) (fun e => ?_)
      · rw [byte0] at e
        rw [if_pos e] at hss
        refine WC.skip ?_
        refine WC.block (WC.region ?_)
        iterate 2 refine WR.s rfl rfl ?_
        refine WR.v (RunsV.lenO O.1 rfl) rfl ?_
        refine WR.v (RunsV.sub rfl rfl (by omega)) rfl ?_
        refine WR.v (RunsV.subH (l.length - 1) rfl rfl O.1.form (by omega) (Nat.le_trans (by omega) O.1.cap)) rfl ?_
        refine WR.sL rfl rfl (WR.nil ?_)
        have ht : (l.take (l.length - 1)).length = l.length - 1 := by rw [List.length_take]; omega
        refine ⟨(_, l.take (l.length - 1)), ⟨rfl, trivial⟩, ⟨⟨?_, by dsimp only; rw [ht]; omega⟩, hss.symm, X⟩, by dsimp only; omega⟩
        have := O.1.take (hi := l.length - 1) (by omega)
        rw [Nat.mul_one, bcells_take] at this
        rw [ht]
        exact this
      · rw [byte0] at e
        rw [if_neg e] at hss
        refine WC.exit (exit_hit ?_)
        refine WC.seq (WC.region ?_)
        refine WR.s rfl rfl ?_
        refine WR.sL rfl rfl (WR.nil ?_)
        refine WC.ret ⟨_, rfl, ?_, X⟩
        rw [hss]; exact O
    · have hd : decide ((0 : Int) < (l.length : Int)) = false := decide_eq_false (by omega)
      have hnil : l = [] := List.eq_nil_of_length_eq_zero (by omega)
      iterate 7 refine WR.gf rfl rfl hd rfl ?_
      refine WR.v (RunsV.pickF rfl hd rfl) rfl (WR.nil ?_)
      refine WC.f rfl ?_
      refine WC.exit (exit_hit ?_)
      refine WC.seq (WC.region ?_)
      refine WR.s rfl rfl ?_
      refine WR.sL rfl rfl (WR.nil ?_)
      refine WC.ret ⟨_, rfl, ?_, X⟩
      subst hnil
      rw [← hs]; exact O
end Go.Eng
namespace Go.Eng
open Go.Proofs

theorem poly_Norm_spec {S : Nat → Prop} {h : Heap} {v : Value} {l : List UInt8} (B : Bytes S h v l) : Spec PP f_poly_Norm #[v] h (fun r h' => OB t_uint8 h' h.size r (strip l) ∧ Ext h h') := by
  refine Spec.body (C := c_poly_Norm) [(0, v)] h_poly_Norm rfl rfl rfl ⟨rfl, trivial⟩ rfl ?_
  refine WC.seq (WC.region (WR.sL rfl rfl (WR.nil ?_)))
  refine WC.seq (WC.region ?_)
  refine WR.s rfl rfl ?_
  refine WR.stepT (Runs.bs1 rfl rfl B.one1) rfl ?_
  rintro _ _ ⟨rfl, rfl⟩
  refine WR.callT (poly_sum_spec (BytesL.one B)) rfl rfl rfl ?_
  rintro r h' ⟨O, X⟩
  refine WR.sL rfl rfl (WR.nil ?_)
  have X0 := (Ext.refl h).push (.cells #[v] 42 (0, 0))
  refine WC.ret ⟨_, rfl, ?_, ((Ext.refl h).push _).trans X⟩
  have e : sumP [l] = strip l := by simp [sumP, pxor]
  rw [e] at O
  exact O.rebase (by simp)
theorem poly_Add_spec {S : Nat → Prop} {h : Heap} {v w : Value} {l k : List UInt8} (B : Bytes S h v l) (D : Bytes S h w k) : Spec PP f_poly_Add #[v, w] h (fun r h' => OB t_uint8 h' h.size r (strip (pxor l k)) ∧ Ext h h') := by
  refine Spec.body (C := c_poly_Add) [(0, v), (1, w)] h_poly_Add rfl rfl rfl ⟨rfl, rfl, trivial⟩ rfl ?_
  refine WC.seq (WC.region (WR.sL rfl rfl (WR.nil ?_)))
  refine WC.seq (WC.region ?_)
  iterate 2 refine WR.s rfl rfl ?_
  refine WR.stepT (Runs.bs2 rfl rfl rfl B.one1 D.one1) rfl ?_
  rintro _ _ ⟨rfl, rfl⟩
  refine WR.callT (poly_sum_spec (BytesL.two B D)) rfl rfl rfl ?_
  rintro r h' ⟨O, X⟩
  refine WR.sL rfl rfl (WR.nil ?_)
  refine WC.ret ⟨_, rfl, ?_, ((Ext.refl h).push _).trans X⟩
  have e : sumP [l, k] = strip (pxor l k) := by simp [sumP, pxor]
  rw [e] at O
  exact O.rebase (by simp)

def scaledP (p : List UInt8) (c : UInt8) (n : Nat) : List UInt8 := List.replicate n 0 ++ p.map fun x => gmul x c
theorem scaledP_length (p : List UInt8) (c : UInt8) (n : Nat) : (scaledP p c n).length = n + p.length := by simp [scaledP]
def mulP (p q : List UInt8) : List UInt8 := sumP (q.mapIdx fun i c => scaledP p c i)
def evalP (p : List UInt8) (x : UInt8) : UInt8 := p.foldr (fun c a => gmul a x ^^^ c) 0

theorem poly_scaled_spec {S T : Nat → Prop} {h : Heap} {b : Nat} {v : Value} {p : List UInt8} (F : Fld S h b) (B : Bytes T h v p) (c : UInt8) (n : Nat) (hb : n + p.length ≤ 1000000) :
    Spec PP f_poly_scaled #[ptr b, v, vB c, vI n] h (fun r h' => OB t_uint8 h' h.size r (scaledP p c n) ∧ Ext h h') := by
  refine Spec.body (C := c_poly_scaled) [(0, ptr b), (1, v), (2, vB c), (3, vI n)] h_poly_scaled rfl rfl rfl ⟨rfl, rfl, rfl, rfl, trivial⟩ rfl ?_
  refine WC.seq (WC.region (WR.sL rfl rfl (WR.nil ?_)))
  refine WC.seq (WC.region ?_)
  iterate 2 refine WR.s rfl rfl ?_
  refine WR.v (RunsV.lenSl B rfl) rfl ?_
  refine WR.v (RunsV.add rfl rfl (by omega)) rfl ?_
  refine WR.stepT (Runs.mk rfl (n + p.length) rfl rfl (by omega) (by omega)) rfl ?_
  rintro r h1 ⟨O, hob, X⟩
  rw [show (Value.int IntKind.u8 0) = vB 0 from rfl, bcells_rep] at O
  refine WR.sL rfl rfl (WR.nil ?_)
  refine WC.seq (WC.seq (WC.region ?_))
  refine WR.s rfl rfl ?_
  refine WR.vL (RunsV.lenSl (B.ext X) rfl) rfl ?_
  refine WR.sL rfl rfl (WR.nil ?_)
  refine WC.block ?_
  have hA := scaledP_length p c n
  have hZ : (scaledP p c n).length = (List.replicate (n + p.length) (0 : UInt8)).length := by simp [hA]
  have h0 : mix (scaledP p c n) (List.replicate (n + p.length) 0) n = List.replicate (n + p.length) 0 := by
    simp [mix, scaledP]
  refine WC.loop (σ := Nat) (fun i => [(0, ptr b), (1, v), (2, vB c), (3, vI n), (9, r), (17, vI p.length), (18, vI i)])
    (fun i h' => i ≤ p.length ∧ Own h' h.size t_uint8 1 r (n + p.length) (bcells (mix (scaledP p c n) (List.replicate (n + p.length) 0) (n + i))) ∧ Ext h h') (fun i => p.length - i) 0 (fun _ => rfl)
    ⟨rfl, rfl, rfl, rfl, rfl, rfl, rfl, trivial⟩ ⟨Nat.zero_le _, by rw [Nat.add_zero, h0]; exact O, X⟩ ?_
  clear O X
  rintro i h1 ⟨hi, O, X⟩
  have B1 := B.ext X
  refine WC.seq (WC.region (WR.s rfl rfl (WR.nil ?_)))
  refine WC.seq (WC.itep rfl (fun e => ?_) (fun e => ?_))
  · have hi' : i < p.length := by omega
    refine WC.skip (WC.seq (WC.block ?_))
    refine WC.seq (WC.region (WR.s rfl rfl (WR.sL rfl rfl (WR.nil ?_))))
    refine WC.region ?_
    iterate 3 refine WR.s rfl rfl ?_
    refine WR.v (RunsV.add rfl rfl (by omega)) rfl ?_
    iterate 3 refine WR.s rfl rfl ?_
    refine WR.v (RunsV.ix (B1.has (by omega)) i hi' rfl rfl rfl) rfl ?_
    refine WR.v (RunsV.ldE B1 (by omega) rfl rfl (bcells_get hi')) rfl ?_
    refine WR.s rfl rfl ?_
    refine WR.callT (gf_Field_Mul_spec (F.ext X) p[i] c) rfl rfl rfl ?_
    rintro _ _ ⟨rfl, rfl⟩
    refine WR.v (RunsV.ix (O.has (by omega)) (n + i) (by omega) rfl rfl (by omega)) rfl ?_
    refine WR.stepU (RunsU.stO O (by omega) rfl rfl rfl) ?_
    rintro h2 ⟨O2, g, hg1, hg2, hg3, U⟩
    refine WR.nil (WC.region ?_)
    refine WR.v (RunsV.add rfl rfl (by omega)) rfl ?_
    refine WR.sL rfl rfl (WR.nil ?_)
    refine ⟨i + 1, ⟨rfl, rfl, rfl, rfl, rfl, rfl, rfl, trivial⟩, ⟨by omega, ?_, X.upd U (.inl hg1)⟩, by dsimp only; omega⟩
    rw [bcells_set] at O2
    have hm := mix_set hZ (show n + i < (scaledP p c n).length by omega)
    have hget : (scaledP p c n)[n + i]'(by omega) = gmul p[i] c := by
      simp [scaledP]
    rw [hget] at hm
    rw [hm] at O2
    exact O2
  · have hi' : i = p.length := by omega
    refine WC.exit (exit_hit ?_)
    refine WC.seq (WC.region (WR.s rfl rfl (WR.sL rfl rfl (WR.nil ?_))))
    refine WC.ret ⟨_, rfl, ⟨?_, by omega⟩, X⟩
    rw [mix_full hZ (by omega)] at O
    rw [hA]
    exact O

theorem poly_Mul_spec {S T : Nat → Prop} {h : Heap} {b : Nat} {v w : Value} {p q : List UInt8} (F : Fld S h b) (B : Bytes T h v p) (D : Bytes T h w q) (hb : p.length + q.length ≤ 1000000) :
    Spec PP f_poly_Mul #[ptr b, v, w] h (fun r h' => OB t_uint8 h' h.size r (mulP p q) ∧ Ext h h') := by
  refine Spec.body (C := c_poly_Mul) [(0, ptr b), (1, v), (2, w)] h_poly_Mul rfl rfl rfl ⟨rfl, rfl, rfl, trivial⟩ rfl ?_
  refine WC.seq (WC.region (WR.sL rfl rfl (WR.nil ?_)))
  refine WC.seq (WC.region (WR.sL rfl rfl (WR.nil ?_)))
  refine WC.seq (WC.seq (WC.region ?_))
  refine WR.sL rfl rfl ?_
  refine WR.vL (RunsV.lenSl D rfl) rfl ?_
  refine WR.sL rfl rfl (WR.nil ?_)
  refine WC.block ?_
  refine WC.loop (σ := Nat × Value) (fun s => [(0, ptr b), (1, v), (7, s.2), (10, w), (11, vI q.length), (12, vI s.1)])
    (fun s h' => s.1 ≤ q.length ∧ OBL t_sl_uint8 (fun _ => True) h' h.size s.2 ((q.mapIdx fun i c => scaledP p c i).take s.1) ∧ Ext h h') (fun s => q.length - s.1) (0, .slice none 0 0) (fun _ => rfl)
    ⟨rfl, rfl, rfl, rfl, rfl, rfl, trivial⟩ ⟨Nat.zero_le _, OBL.nil _ _ _ _, Ext.refl h⟩ ?_
  rintro ⟨i, r⟩ h1 ⟨hi, O, X⟩
  dsimp only at hi O
  refine WC.seq (WC.region (WR.s rfl rfl (WR.nil ?_)))
  refine WC.seq (WC.itep rfl (fun e => ?_) (fun e => ?_))
  · have hi' : i < q.length := by omega
    have D1 := D.ext X
    refine WC.skip (WC.seq (WC.block ?_))
    refine WC.seq (WC.region ?_)
    refine WR.s rfl rfl ?_
    refine WR.v (RunsV.ix (D1.has (by omega)) i hi' rfl rfl rfl) rfl ?_
    refine WR.v (RunsV.ldE D1 (by omega) rfl rfl (bcells_get hi')) rfl ?_
    iterate 2 refine WR.sL rfl rfl ?_
    refine WR.nil (WC.region ?_)
    iterate 5 refine WR.s rfl rfl ?_
    refine WR.callT (poly_scaled_spec (F.ext X) (B.ext X) q[i] i (by omega)) rfl rfl rfl ?_
    rintro u h2 ⟨O2, X2⟩
    have hlen : ((q.mapIdx fun i c => scaledP p c i).take i).length = i := by simp; omega
    refine WR.apBT (O.ext X2) O2.bytes (fun y hy he => ⟨trivial, fun e => by have := (O.choose_spec.1.blk e).2; omega⟩) (Nat.le_trans X.size X2.size) rfl rfl (fun _ => rfl) rfl rfl (by omega) (by omega) ?_
    rintro x r3 h3 O3 k3 _
    refine WR.sL rfl rfl (WR.nil ?_)
    refine WC.region ?_
    refine WR.v (RunsV.add rfl rfl (by omega)) rfl ?_
    refine WR.sL rfl rfl (WR.nil ?_)
    have X3 : Keeps (fun b => r.ownBlock ≠ some b) h1 h3 := (X2.mono fun _ _ _ => trivial).trans k3
    refine ⟨(i + 1, r3), ⟨rfl, rfl, rfl, rfl, rfl, rfl, trivial⟩, ⟨by dsimp only; omega, ?_, X.own O.choose_spec.1 (Nat.le_refl _) X3⟩, by dsimp only; omega⟩
    dsimp only
    rw [List.take_succ_eq_append_getElem (by simpa using hi')]
    have hq : (q.mapIdx fun i c => scaledP p c i)[i]'(by simpa using hi') = scaledP p q[i] i := by simp
    rw [hq]
    exact O3
  · have hi' : i = q.length := by omega
    refine WC.exit (exit_hit ?_)
    refine WC.seq (WC.region (WR.s rfl rfl ?_))
    refine WR.callT (poly_sum_spec O.read) rfl rfl rfl ?_
    rintro r' h2 ⟨O2, X2⟩
    refine WR.sL rfl rfl (WR.nil ?_)
    refine WC.ret ⟨_, rfl, ?_, X.trans X2⟩
    rw [List.take_of_length_le (by simp; omega)] at O2
    exact O2.rebase X.size

theorem poly_Eval_spec {S T : Nat → Prop} {h : Heap} {b : Nat} {v : Value} {p : List UInt8} (F : Fld S h b) (B : Bytes T h v p) (x : UInt8) :
    Spec PP f_poly_Eval #[ptr b, v, vB x] h (fun r h' => r = vB (evalP p x) ∧ h' = h) := by
  have hb := B.2.1
  refine Spec.body (C := c_poly_Eval) [(0, ptr b), (1, v), (2, vB x)] h_poly_Eval rfl rfl rfl ⟨rfl, rfl, rfl, trivial⟩ rfl ?_
  refine WC.seq (WC.region (WR.sL rfl rfl (WR.nil ?_)))
  refine WC.seq (WC.region (WR.sL rfl rfl (WR.nil ?_)))
  refine WC.seq (WC.seq (WC.region ?_))
  refine WR.s rfl rfl ?_
  refine WR.v (RunsV.lenSl B rfl) rfl ?_
  refine WR.v (RunsV.sub rfl rfl (by omega)) rfl ?_
  refine WR.sL rfl rfl (WR.nil ?_)
  refine WC.block ?_
  refine WC.loop (σ := Nat) (fun i => [(0, ptr b), (1, v), (2, vB x), (7, vB (evalP (p.drop i) x)), (8, vI ((i : Int) - 1))]) (fun i h' => i ≤ p.length ∧ h' = h) (fun i => i) p.length (fun _ => rfl)
    ⟨rfl, rfl, rfl, by rw [List.drop_length]; rfl, rfl, trivial⟩ ⟨Nat.le_refl _, rfl⟩ ?_
  rintro i _ ⟨hi, rfl⟩
  refine WC.seq (WC.seq (WC.region ?_))
  iterate 3 refine WR.s rfl rfl ?_
  refine WG.start rfl rfl ?_
  refine WG.s rfl rfl rfl rfl ?_
  refine WG.v rfl (fun e => RunsV.neNil rfl rfl) rfl rfl ?_
  refine WG.and rfl rfl (WR.nil ?_)
  refine WC.ite rfl (fun e => ?_) (fun e => ?_)
  · simp at e
    obtain ⟨j, rfl⟩ : ∃ j, i = j + 1 := ⟨i - 1, by omega⟩
    refine WC.skip (WC.seq (WC.block ?_))
    refine WC.draw [(false,0),(false,1),(false,2),(false,4),(false,5),(false,6),(false,7),(true,3),(false,8),(false,9)] (same _) (by decide +kernel) (fun _ _ _ _ _ _ q => q) rfl ?_
    iterate 5 refine WQ.s rfl rfl rfl ?_
    refine WQ.rd rfl (RunsV.ix (B.has (by omega)) j (by omega) rfl rfl (by omega)) rfl ?_
    refine WQ.rd rfl (RunsV.ldE B (by omega) rfl rfl (bcells_get (show j < p.length by omega))) rfl ?_
    refine WQ.rc rfl (gf_Field_Mul_spec F _ _) rfl rfl rfl (by omega) ?_
    rintro _ rfl
    refine WQ.rd rfl (RunsV.xorB rfl rfl) rfl ?_
    refine WQ.sL rfl rfl rfl (WQ.nil ?_)
    refine WC.region ?_
    refine WR.s rfl rfl ?_
    refine WR.v (RunsV.sub rfl rfl (by omega)) rfl ?_
    refine WR.sL rfl rfl (WR.nil ?_)
    refine ⟨j, ⟨rfl, rfl, rfl, ?_, ?_, trivial⟩, ⟨by omega, rfl⟩, by dsimp only; omega⟩
    · rw [List.drop_eq_getElem_cons (show j < p.length by omega)]; rfl
    · show some (vI _) = some (vI _)
      congr 2
      omega
  · simp at e
    obtain rfl : i = 0 := by omega
    refine WC.exit (exit_hit ?_)
    refine WC.seq (WC.region (WR.s rfl rfl (WR.sL rfl rfl (WR.nil ?_))))
    exact WC.ret ⟨_, rfl, rfl, rfl⟩

def derivR (p : List UInt8) : List UInt8 := (List.range p.length).map fun j => if j % 2 = 0 then p.getD (j + 1) 0 else 0
def derivP (p : List UInt8) : List UInt8 := strip (derivR p)
def derivAt (p : List UInt8) (i : Nat) : List UInt8 := (List.range p.length).map fun j => if j % 2 = 0 ∧ j + 1 < i then p.getD (j + 1) 0 else 0
theorem derivAt_set (p : List UInt8) (k : Nat) (hk : 2 * k + 1 < p.length) : (derivAt p (2 * k + 1)).set (2 * k) p[2 * k + 1] = derivAt p (2 * (k + 1) + 1) := by
  apply List.ext_getElem
  · simp [derivAt]
  · intro j h1 h2
    have hj : j < p.length := by simpa [derivAt] using h2
    rw [List.getElem_set]
    simp only [derivAt, List.getElem_map, List.getElem_range]
    by_cases e : 2 * k = j
    · subst e
      rw [if_pos rfl, if_pos (by omega)]
      simp [List.getD, hk]
    · rw [if_neg e]
      by_cases q : j % 2 = 0 ∧ j + 1 < 2 * k + 1
      · rw [if_pos q, if_pos (by omega)]
      · rw [if_neg q, if_neg (by omega)]
theorem derivAt_one (p : List UInt8) : derivAt p 1 = List.replicate p.length 0 := by
  apply List.ext_getElem
  · simp [derivAt]
  · intro j h1 h2
    simp [derivAt]
theorem derivAt_end (p : List UInt8) (i : Nat) (h : p.length ≤ i) : derivAt p i = derivR p := by
  apply List.map_congr_left
  intro j hj
  simp at hj
  by_cases e : j % 2 = 0
  · rw [if_pos e]
    split
    · rfl
    · rw [List.getD_eq_getElem?_getD, List.getElem?_eq_none (by omega)]; rfl
  · rw [if_neg e, if_neg (by omega)]

theorem poly_Deriv_spec {T : Nat → Prop} {h : Heap} {v : Value} {p : List UInt8} (B : Bytes T h v p) (hb : p.length ≤ 1000000) :
    Spec PP f_poly_Deriv #[v] h (fun r h' => OB t_uint8 h' h.size r (derivP p) ∧ Ext h h') := by
  refine Spec.body (C := c_poly_Deriv) [(0, v)] h_poly_Deriv rfl rfl rfl ⟨rfl, trivial⟩ rfl ?_
  refine WC.seq (WC.region (WR.sL rfl rfl (WR.nil ?_)))
  refine WC.seq (WC.region ?_)
  refine WR.s rfl rfl ?_
  refine WR.v (RunsV.lenSl B rfl) rfl ?_
  refine WR.stepT (Runs.mk rfl p.length rfl rfl (by omega) (by omega)) rfl ?_
  rintro r h1 ⟨O, hob, X⟩
  rw [show (Value.int IntKind.u8 0) = vB 0 from rfl, bcells_rep, ← derivAt_one] at O
  refine WR.sL rfl rfl (WR.nil ?_)
  refine WC.seq (WC.seq (WC.region (WR.sL rfl rfl (WR.nil ?_))))
  refine WC.block ?_
  refine WC.loop (σ := Nat) (fun k => [(0, v), (3, r), (4, vI (2 * (k : Int) + 1))]) (fun k h' => 2 * k + 1 ≤ p.length + 2 ∧ Own h' h.size t_uint8 1 r p.length (bcells (derivAt p (2 * k + 1))) ∧ Ext h h') (fun k => p.length - k) 0 (fun _ => rfl)
    ⟨rfl, rfl, rfl, trivial⟩ ⟨by omega, O, X⟩ ?_
  clear O X
  rintro k h1 ⟨hk, O, X⟩
  have B1 := B.ext X
  refine WC.seq (WC.seq (WC.region ?_))
  iterate 2 refine WR.s rfl rfl ?_
  refine WR.v (RunsV.lenSl B1 rfl) rfl ?_
  refine WR.s rfl rfl (WR.nil ?_)
  refine WC.itep rfl (fun e => ?_) (fun e => ?_)
  · refine WC.skip (WC.seq (WC.block (WC.region ?_)))
    iterate 2 refine WR.s rfl rfl ?_
    refine WR.v (RunsV.sub rfl rfl (by omega)) rfl ?_
    iterate 2 refine WR.s rfl rfl ?_
    refine WR.v (RunsV.ix (B1.has (by omega)) (2 * k + 1) (by omega) rfl rfl (by omega)) rfl ?_
    refine WR.v (RunsV.ldE B1 (by omega) rfl rfl (bcells_get (show 2 * k + 1 < p.length by omega))) rfl ?_
    refine WR.v (RunsV.ix (O.has (by omega)) (2 * k) (by omega) rfl rfl (by omega)) rfl ?_
    refine WR.stepU (RunsU.stO O (by omega) rfl rfl rfl) ?_
    rintro h2 ⟨O2, g, hg1, hg2, hg3, U⟩
    refine WR.nil (WC.region (WR.s rfl rfl ?_))
    refine WR.v (RunsV.add rfl rfl (by omega)) rfl ?_
    refine WR.sL rfl rfl (WR.nil ?_)
    refine ⟨k + 1, ⟨rfl, rfl, ?_, trivial⟩, ⟨by omega, ?_, X.upd U (.inl hg1)⟩, by dsimp only; omega⟩
    · show some (vI _) = some (vI _)
      congr 2
    · rw [bcells_set, derivAt_set p k (by omega)] at O2
      exact O2
  · refine WC.exit (exit_hit ?_)
    rw [derivAt_end p _ (by omega)] at O
    have hl : (derivR p).length = p.length := by simp [derivR]
    have OO : OB t_uint8 h1 h.size r (derivR p) := ⟨by rw [hl]; exact O, by rw [hl]; omega⟩
    refine WC.seq (WC.region (WR.s rfl rfl ?_))
    refine WR.callT (poly_Norm_spec OO.bytes) rfl rfl rfl ?_
    rintro r' h2 ⟨O2, X2⟩
    refine WR.sL rfl rfl (WR.nil ?_)
    exact WC.ret ⟨_, rfl, O2.rebase X.size, X.trans X2⟩
end Go.Eng
namespace Go.Eng
open Go.Proofs

def top (l : List UInt8) : UInt8 := l.getD (l.length - 1) 0
theorem top_get {l : List UInt8} (h : 0 < l.length) : top l = l[l.length - 1] := by
  unfold top
  rw [List.getD_eq_getElem?_getD, List.getElem?_eq_getElem (by omega)]; rfl
theorem snoc_top {l : List UInt8} (h : 0 < l.length) : l = l.take (l.length - 1) ++ [top l] := by
  rw [top_get h, ← List.take_succ_eq_append_getElem (by omega), show l.length - 1 + 1 = l.length by omega, List.take_length]
theorem strip_lt {l : List UInt8} (h : 0 < l.length) (e : top l = 0) : (strip l).length < l.length := by
  have hs := strip_snoc (l.take (l.length - 1)) (top l)
  rw [← snoc_top h, if_pos e] at hs
  rw [hs]
  have := strip_length (l.take (l.length - 1))
  rw [List.length_take] at this
  omega
theorem strip_top : ∀ (n : Nat) (l : List UInt8), l.length = n → 0 < (strip l).length → top (strip l) ≠ 0
  | 0, l, hl, h => by
    have : l = [] := List.eq_nil_of_length_eq_zero hl
    subst this
    simp [strip] at h
  | n + 1, l, hl, h => by
    have hs := strip_snoc (l.take (l.length - 1)) (top l)
    by_cases e : top l = 0
    · rw [if_pos e, ← snoc_top (show 0 < l.length by omega)] at hs
      rw [hs] at h ⊢
      exact strip_top n _ (by rw [List.length_take]; omega) h
    · rw [if_neg e] at hs
      rw [← snoc_top (show 0 < l.length by omega)] at hs
      rw [hs]
      exact e
theorem strip_of_top {l : List UInt8} (h : top l ≠ 0) : strip l = l := by
  have h0 : 0 < l.length := by
    rcases Nat.eq_zero_or_pos l.length with e | e
    · have : l = [] := List.eq_nil_of_length_eq_zero e
      subst this
      exact absurd rfl h
    · exact e
  have hs := strip_snoc (l.take (l.length - 1)) (top l)
  rw [← snoc_top h0, if_neg h] at hs
  exact hs

theorem pxor_getD : ∀ (p q : List UInt8) (i : Nat), (pxor p q).getD i 0 = p.getD i 0 ^^^ q.getD i 0
  | [], q, i => by simp [pxor]
  | a :: p, [], i => by simp [pxor]
  | a :: p, b :: q, 0 => by simp [pxor]
  | a :: p, b :: q, i + 1 => by
    have := pxor_getD p q i
    simpa [pxor] using this
theorem scaledP_getD (p : List UInt8) (c : UInt8) (n i : Nat) : (scaledP p c n).getD i 0 = if i < n then 0 else gmul (p.getD (i - n) 0) c := by
  unfold scaledP
  simp only [List.getD_eq_getElem?_getD, List.getElem?_append, List.length_replicate, List.getElem?_replicate, List.getElem?_map]
  split
  · rfl
  · cases p[i - n]? with
    | none => simp [zero_gmul]
    | some x => rfl

/-- One step of a division: what is left. -/
def divC (l b : List UInt8) : UInt8 := gmul (top l) (ginv (top b))
def divS (l b : List UInt8) : List UInt8 := strip (pxor l (scaledP b (divC l b) (l.length - b.length)))
theorem divS_lt {l b : List UInt8} (hb : 0 < b.length) (hl : b.length ≤ l.length) (ht : top b ≠ 0) : (divS l b).length < l.length := by
  have hlen : (pxor l (scaledP b (divC l b) (l.length - b.length))).length = l.length := by
    rw [pxor_length, scaledP_length]; omega
  have := strip_lt (l := pxor l (scaledP b (divC l b) (l.length - b.length))) (by omega) ?_
  · rw [hlen] at this; exact this
  · unfold top
    rw [hlen, pxor_getD, scaledP_getD, if_neg (by omega)]
    rw [show l.length - 1 - (l.length - b.length) = b.length - 1 by omega]
    show top l ^^^ gmul (top b) (divC l b) = 0
    rw [divC, gmul_div ht, xor_self8]
def divL : Nat → List UInt8 → List UInt8 → List UInt8 → List UInt8 × List UInt8
  | 0, l, o, _ => (o, l)
  | n + 1, l, o, b => if b.length ≤ l.length then divL n (divS l b) (o.set (l.length - b.length) (divC l b)) b else (o, l)
/-- The quotient, and what is left. -/
def divP (p q : List UInt8) : List UInt8 × List UInt8 :=
  let r := divL ((strip p).length + 1) (strip p) (List.replicate (strip p).length 0) (strip q)
  (strip r.1, r.2)

theorem poly_Divide_spec {S T U : Nat → Prop} {h : Heap} {b : Nat} {v w : Value} {p q : List UInt8} (F : Fld S h b) (B : Bytes T h v p) (D : Bytes U h w q) (hb : p.length + q.length ≤ 500000) (hq : strip q ≠ []) :
    Spec PP f_poly_Divide #[ptr b, v, w] h (fun r h' => ∃ x y, r = .tuple #[x, y, vI 0] ∧ OB t_uint8 h' h.size x (divP p q).1 ∧ OB t_uint8 h' h.size y (divP p q).2 ∧ Ext h h') := by
  have hqp : 0 < (strip q).length := by
    rcases Nat.eq_zero_or_pos (strip q).length with e | e
    · exact absurd (List.eq_nil_of_length_eq_zero e) hq
    · exact e
  have hqt := strip_top _ q rfl hqp
  have hpl := strip_length p
  have hql := strip_length q
  refine Spec.body (C := c_poly_Divide) [(0, ptr b), (1, v), (2, w)] h_poly_Divide rfl rfl rfl ⟨rfl, rfl, rfl, trivial⟩ rfl ?_
  refine WC.seq (WC.region ?_)
  iterate 3 refine WR.sL rfl rfl ?_
  refine WR.nil (WC.seq (WC.region (WR.s rfl rfl ?_)))
  refine WR.callT (poly_Norm_spec B) rfl rfl rfl ?_
  rintro l0 h1 ⟨L1, X1⟩
  refine WR.s rfl rfl ?_
  refine WR.callT (poly_Norm_spec (D.ext X1)) rfl rfl rfl ?_
  rintro by0 h2 ⟨Y2, X2⟩
  have L2 := (L1.ext X2)
  have X := X1.trans X2
  iterate 2 refine WR.sL rfl rfl ?_
  refine WR.nil (WC.seq (WC.block (WC.seq (WC.region (WR.s rfl rfl ?_)))))
  refine WR.v (RunsV.eqNil rfl rfl) rfl (WR.s rfl rfl (WR.nil ?_))
  refine WC.f rfl ?_
  refine WC.seq (WC.region (WR.s rfl rfl ?_))
  refine WR.v (RunsV.lenO Y2.1 rfl) rfl ?_
  iterate 2 refine WR.s rfl rfl ?_
  refine WR.nil (WC.ff rfl (decide_eq_false (by omega)) ?_)
  refine WC.skip (WC.seq (WC.region (WR.s rfl rfl ?_)))
  refine WR.v (RunsV.lenO L2.1 rfl) rfl ?_
  refine WR.stepT (Runs.mk rfl (strip p).length rfl rfl (by omega) (by omega)) rfl ?_
  rintro o h3 ⟨O, hob, X3⟩
  rw [show (Value.int IntKind.u8 0) = vB 0 from rfl, bcells_rep] at O
  refine WR.sL rfl rfl (WR.nil ?_)
  refine WC.seq (WC.block ?_)
  refine WC.loop (σ := Value × List UInt8 × List UInt8 × Nat) (fun s => [(0, ptr b), (9, s.1), (10, by0), (11, o)])
    (fun s h' => s.2.1.length < s.2.2.2 ∧ s.2.1.length ≤ (strip p).length ∧ s.2.2.1.length = (strip p).length ∧ divL s.2.2.2 s.2.1 s.2.2.1 (strip q) = divL ((strip p).length + 1) (strip p) (List.replicate (strip p).length 0) (strip q) ∧
      OB t_uint8 h' h.size s.1 s.2.1 ∧ s.1.ownBlock ≠ o.ownBlock ∧ Own h' h2.size t_uint8 1 o (strip p).length (bcells s.2.2.1) ∧ OB t_uint8 h' h1.size by0 (strip q) ∧ by0.ownBlock ≠ o.ownBlock ∧ Ext h h' ∧ o.ownBlock = some h2.size) (fun s => s.2.1.length) (l0, strip p, List.replicate (strip p).length 0, (strip p).length + 1) (fun _ => rfl)
    ⟨rfl, rfl, rfl, rfl, trivial⟩ ⟨by dsimp only; omega, Nat.le_refl _, by simp, rfl, L2.ext X3, ?_, O, Y2.ext X3, ?_, X.trans X3, hob⟩ ?_
  · rw [hob]; intro e; have := (L2.1.blk e).2; omega
  · rw [hob]; intro e; have := (Y2.1.blk e).2; omega
  have hsz := X.size
  have hsz2 := X2.size
  have hsz1 := X1.size
  clear X L1 L2 Y2 O X3 hob
  rintro ⟨l, ll, oo, n⟩ h3 ⟨hn, hll, hol, hdiv, L, lo, O, Y, yo, X, hob⟩
  dsimp only at hn hll hol hdiv L lo O
  obtain ⟨n, rfl⟩ : ∃ m, n = m + 1 := ⟨n - 1, by omega⟩
  refine WC.seq (WC.seq (WC.region (WR.s rfl rfl ?_)))
  refine WR.v (RunsV.lenO L.1 rfl) rfl (WR.s rfl rfl ?_)
  refine WR.v (RunsV.lenO Y.1 rfl) rfl (WR.s rfl rfl (WR.nil ?_))
  refine WC.itep rfl (fun e => ?_) (fun e => ?_)
  · rw [divL, if_pos (by omega)] at hdiv
    have hlt := divS_lt hqp (show (strip q).length ≤ ll.length by omega) hqt
    refine WC.skip (WC.block (WC.seq ?_))
    refine WC.draw [(false,0),(false,1),(false,2),(false,3),(false,4),(false,5),(false,6),(false,7),(false,8),(false,9),(false,10),(false,11),(false,12),(true,13),(false,14),(false,15),(false,16),(false,17),(false,18)] (same _) (by decide +kernel) (fun _ _ _ _ _ _ q => q) rfl ?_
    iterate 3 refine WQ.s rfl rfl rfl ?_
    refine WQ.rd rfl (RunsV.lenO L.1 rfl) rfl ?_
    refine WQ.rd rfl (RunsV.sub rfl rfl (by omega)) rfl ?_
    refine WQ.rd rfl (RunsV.ix (L.1.has (by omega)) (ll.length - 1) (by omega) rfl rfl (by omega)) rfl ?_
    refine WQ.rd rfl (RunsV.ldO L.1 (by omega) rfl rfl (bcells_get (show ll.length - 1 < ll.length by omega))) rfl ?_
    iterate 2 refine WQ.s rfl rfl rfl ?_
    refine WQ.rd rfl (RunsV.lenO Y.1 rfl) rfl ?_
    refine WQ.rd rfl (RunsV.sub rfl rfl (by omega)) rfl ?_
    refine WQ.rd rfl (RunsV.ix (Y.1.has (by omega)) ((strip q).length - 1) (by omega) rfl rfl (by omega)) rfl ?_
    refine WQ.rd rfl (RunsV.ldO Y.1 (by omega) rfl rfl (bcells_get (show (strip q).length - 1 < (strip q).length by omega))) rfl ?_
    refine WQ.rc rfl (gf_Field_Div_spec (F.ext X) _ _) rfl rfl rfl (by omega) ?_
    rintro _ rfl
    iterate 3 refine WQ.s rfl rfl rfl ?_
    have hc : gmul ll[ll.length - 1] (ginv (strip q)[(strip q).length - 1]) = divC ll (strip q) := by rw [divC, top_get (by omega), top_get hqp]
    refine WQ.rdL rfl (RunsV.to (RunsV.p rfl) (congrArg vB hc)) rfl ?_
    refine WQ.s rfl rfl rfl (WQ.nil ?_)
    refine WC.seq (WC.region (WR.s rfl rfl ?_))
    refine WR.v (RunsV.lenO L.1 rfl) rfl (WR.s rfl rfl ?_)
    refine WR.v (RunsV.lenO Y.1 rfl) rfl ?_
    refine WR.v (RunsV.to (v' := vI ((ll.length - (strip q).length : Nat) : Int)) (RunsV.sub rfl rfl (by omega)) (by congr 1; omega)) rfl ?_
    refine WR.sL rfl rfl (WR.nil ?_)
    refine WC.seq (WC.region ?_)
    iterate 3 refine WR.s rfl rfl ?_
    refine WR.v (RunsV.ix (O.has (by omega)) (ll.length - (strip q).length) (by omega) rfl rfl rfl) rfl ?_
    refine WR.stepU (RunsU.stO O (by omega) rfl rfl rfl) ?_
    rintro h4 ⟨O4, g, hg1, hg2, hg3, U4⟩
    have hgo : g = h2.size := by rw [hob] at hg3; simpa using hg3.symm
    have X4 := X.upd U4 (.inl (by omega))
    have L4 : OB t_uint8 h4 h.size l ll := L.keep U4.ext (fun y hy => by rintro rfl; exact lo (hy.trans hg3.symm))
    have Y4 : OB t_uint8 h4 h1.size by0 (strip q) := Y.keep U4.ext (fun y hy => by rintro rfl; exact yo (hy.trans hg3.symm))
    rw [bcells_set] at O4
    refine WR.nil (WC.region ?_)
    iterate 5 refine WR.s rfl rfl ?_
    refine WR.callT (poly_scaled_spec (F.ext X4) Y4.bytes (divC ll (strip q)) (ll.length - (strip q).length) (by omega)) rfl rfl rfl ?_
    rintro sc h5 ⟨S5, X5⟩
    refine WR.stepT (Runs.bs2 rfl rfl rfl L4.one1 S5.one1) rfl ?_
    rintro _ _ ⟨rfl, rfl⟩
    refine WR.callT (poly_sum_spec (BytesL.two (L4.ext X5).any S5.any)) rfl rfl rfl ?_
    rintro l' h7 ⟨L7, X7⟩
    have X6 := ((Ext.refl h5).push (.cells #[l, sc] 42 (0, 0)))
    have X57 : Ext h4 h7 := X5.trans (((Ext.refl h5).push _).trans X7)
    refine WR.sL rfl rfl (WR.nil ?_)
    have hsz4 := X4.size
    have hsz5 := X5.size
    have hdS : sumP [ll, scaledP (strip q) (divC ll (strip q)) (ll.length - (strip q).length)] = divS ll (strip q) := by simp [sumP, pxor, divS]
    rw [hdS] at L7
    refine ⟨(l', divS ll (strip q), oo.set (ll.length - (strip q).length) (divC ll (strip q)), n), ⟨rfl, rfl, rfl, rfl, trivial⟩, ⟨by dsimp only; omega, by dsimp only; omega, by simpa using hol, hdiv, L7.rebase (by simp; omega), ?_, O4.ext X57, Y4.ext X57, yo, X4.trans X57, hob⟩, hlt⟩
    dsimp only
    rw [hob]
    intro e7
    have h71 := (L7.1.blk e7).1
    have h2lt := (O.blk hob).2
    have := U4.1
    simp at h71
    omega
  · rw [divL, if_neg (by omega)] at hdiv
    refine WC.exit (exit_hit ?_)
    refine WC.seq (WC.region (WR.s rfl rfl ?_))
    have OO : OB t_uint8 h3 h2.size o oo := ⟨by rw [hol]; exact O, by omega⟩
    refine WR.callT (poly_Norm_spec OO.bytes) rfl rfl rfl ?_
    rintro x h4 ⟨R, X4⟩
    refine WR.s rfl rfl ?_
    iterate 3 refine WR.sL rfl rfl ?_
    refine WR.nil (WC.ret ⟨_, rfl, x, l, rfl, ?_, ?_, X.trans X4⟩)
    · unfold divP
      rw [← hdiv]
      exact R.rebase X.size
    · unfold divP
      rw [← hdiv]
      exact L.ext X4
end Go.Eng
