/- Steps of the proof: lemmas for every input, without conditions but those that each states. -/
import Derived.Test.YtjpgcjbcfodicaaCauchy
import Derived.Scope
import Derived.Laws.Cover3
set_option linter.unusedSimpArgs false
set_option linter.unusedVariables false
namespace Go.Eng
abbrev scopeK (K : K3) : K3
  | .goto _ => fun _ _ _ => False
  | x => K x
section
variable {C : Ctx} {K : K3} {tm lo : Env} {h : Heap}
theorem WC.scope {c : Code} (H : WC C c (scopeK K) tm lo h) : WC C (.scope c) K tm lo h := by
  intro w0 a w hr hh F
  refine wp_scope_straight (wp_mono (H w0 a w hr hh F) ?_)
  rintro x a w ⟨r, tm, lo, F, k⟩
  cases x <;> first | exact k.elim | exact ⟨r, tm, lo, F, k⟩
theorem WC.label {l : Nat} (H : K .normal tm lo h) : WC C (.label l) K tm lo h := fun _ _ _ hr hh F => wp_label ⟨hr, tm, lo, F, hh ▸ H⟩
/-- x == nil, x a slice. -/
theorem RunsV.eqNilS {x y : Operand} {T U E : TypeId} {A : Option Addr} {n cap : Nat} [u : Und C.P T (.slice E)] (hx : opv tm lo x = some (.slice A n cap)) (hy : opv tm lo y = some (.slice none 0 0)) :
    RunsV C tm lo h (.binOp .eql T x y U) (.bool A.isNone) := fun c w F _ _ _ _ _ _ => by
  have e := run_equalIn_slice_nil (P := C.P) w 9999 T E A n cap u.h
  have e2 : (binOp .eql T (.slice A n cap) (.slice none 0 0)).run C.P w = .ok (.bool A.isNone) w := by
    show (do pure (Value.bool (← Op.equalIn (9999 + 1) T (.slice A n cap) (.slice none 0 0))) : Sem Value).run C.P w = _
    simp only [Sem.run_bind, e, Result.andThen_ok, Sem.run_pure]
  simp only [execOp, F.eval hx, F.eval hy, Sem.run_bind, e2]
  simp [eqGuard, e2]
/-- []T{}. -/
theorem Runs.bs0 {T E : TypeId} {z : Value} {bytes : Nat} [u : Und C.P T (.slice E)] [i : Inf C.P E z 1 bytes] :
    Runs C tm lo h (.buildSlice T 0 #[]) (fun v h' => v = .slice (some ⟨h.size, 0, none⟩) 0 0 ∧ h' = h.push (.cells #[] E (0, 0))) := fun c w F hh _ _ _ _ _ => by
  subst hh
  obtain ⟨info, hi, hi1, hi2, hi3⟩ := i.parts
  refine ⟨_, { w with heap := w.heap.push (.cells #[] E (0, 0)) }, ?_, ⟨rfl, rfl, rfl⟩, rfl, rfl⟩
  simp [execOp, Instr.buildSlice, underlying, u.h, sizeOf, typeInfo, hi, hi1, hi2, zeroValue, Instr.fill, newRow]
  exact congrArg (fun q => w.alloc (Obj.cells q E)) (by simp)
theorem Own.empty {h : Heap} {E : TypeId} : Own (h.push (.cells #[] E (0, 0))) h.size E 1 (.slice (some ⟨h.size, 0, none⟩) 0 0) 0 [] :=
  ⟨rfl, .inr ⟨h.size, 0, #[], rfl, Nat.le_refl _, push_self _ _, Nat.le_refl _, by simp [maxLen], rfl, rfl⟩⟩
end

theorem slices_Clone_byte_byte_spec {S : Nat → Prop} {h : Heap} {v : Value} {l : List UInt8} (B : Bytes S h v l) : Spec PP f_slices_Clone_byte_byte #[v] h (fun u h' => OB t_uint8 h' h.size u l ∧ Ext h h') := by
  refine Spec.body (C := c_slices_Clone_byte_byte) [(0, v)] h_slices_Clone_byte_byte rfl rfl rfl ⟨rfl, trivial⟩ rfl ?_
  refine WC.seq (WC.region ?_)
  refine WR.sL rfl rfl (WR.nil ?_)
  refine WC.seq (WC.seq (WC.region ?_))
  obtain ⟨A, cap, rfl⟩ := Sl.form B
  refine WR.s rfl rfl ?_
  refine WR.v (RunsV.eqNilS rfl rfl) rfl (WR.nil ?_)
  refine WC.ite rfl (fun e => ?_) (fun e => ?_)
  · refine WC.seq (WC.region ?_)
    refine WR.sL rfl rfl (WR.nil ?_)
    refine WC.ret ⟨_, rfl, ?_, Ext.refl _⟩
    have : l = [] := by
      rcases Nat.eq_zero_or_pos l.length with q | q
      · exact List.eq_nil_of_length_eq_zero q
      · obtain ⟨_, _, A', cap', e', _, _, h4⟩ := B
        obtain ⟨b, off, rfl, _⟩ := h4 q
        simp at e'
        rw [e'.1] at e
        simp at e
    subst this
    exact OB.nil _ _ _
  · refine WC.skip ?_
    refine WC.seq (WC.region ?_)
    refine WR.stepT Runs.bs0 rfl ?_
    rintro _ _ ⟨rfl, rfl⟩
    refine WR.s rfl rfl ?_
    have B' := B.ext ((Ext.refl h).push (.cells #[] t_uint8 (0, 0)))
    have hl := B.2.1
    refine WR.stepT (Runs.ap Own.empty (by simp) B' rfl rfl rfl (by omega) (bcells_one l) (by omega) (by omega)) rfl ?_
    rintro v' h' ⟨o, k, -⟩
    refine WR.sL rfl rfl (WR.nil ?_)
    refine WC.ret ⟨_, rfl, ⟨by simp only [Nat.zero_add, List.nil_append] at o; exact o, hl⟩, ?_⟩
    exact Keeps.own ((Ext.refl h).push _) Own.empty (Nat.le_refl _) k

/-- Own rows of own rows of bytes, each apart. (e: a row that has nothing may be anybody's.) -/
structure Rows (e : Bool) (h : Heap) (base : Nat) (v : Value) (vs : List Value) (ll : List (List UInt8)) : Prop where
  own : Own h base t_sl_uint8 1 v ll.length vs
  len : ll.length ≤ 140737488355328
  row : ∀ i (hi : i < ll.length), ∃ u, vs[i]? = some u ∧ ((e = true ∧ ll[i] = [] ∧ ∃ A cap, u = .slice A 0 cap ∧ (A = none → cap = 0)) ∨ OB t_uint8 h base u ll[i])
  apart : ∀ i j (hi : i < ll.length) (hj : j < ll.length) u u' g, vs[i]? = some u → vs[j]? = some u' → (e = true → ll[i] ≠ [] ∧ ll[j] ≠ []) → u.ownBlock = some g → u'.ownBlock = some g → i = j
/-- A block of cells of this type. -/
def tyAt (h : Heap) (b : Nat) (T : TypeId) : Prop := ∃ cs q, h[b]? = some (.cells cs T q)
theorem OB.ty {B : TypeId} {h : Heap} {base : Nat} {v : Value} {l : List UInt8} (o : OB B h base v l) {g : Nat} (e : v.ownBlock = some g) : tyAt h g B := by
  rcases o.1.2 with ⟨rfl, _⟩ | ⟨g', cap, cur, rfl, hb, hg, r⟩
  · cases e
  · simp [Value.ownBlock] at e; subst e; exact ⟨cur, _, hg⟩
theorem Own.ty {h : Heap} {base T sz n : Nat} {v : Value} {xs : List Value} (o : Own h base T sz v n xs) {g : Nat} (e : v.ownBlock = some g) : tyAt h g T := by
  rcases o.2 with ⟨rfl, _⟩ | ⟨g', cap, cur, rfl, hb, hg, r⟩
  · cases e
  · simp [Value.ownBlock] at e; subst e; exact ⟨cur, _, hg⟩
theorem tyAt.inj {h : Heap} {b : Nat} {T U : TypeId} (x : tyAt h b T) (y : tyAt h b U) : T = U := by
  obtain ⟨c, q, e⟩ := x
  obtain ⟨d, r, e'⟩ := y
  rw [e] at e'
  simp at e'
  exact e'.2.1
theorem Blk.ty {h : Heap} {b : Nat} {cs : List Value} {T : TypeId} (B : Blk h b cs T) : tyAt h b T := ⟨_, _, B⟩
theorem Box.ty {h : Heap} {b : Nat} {u : Value} {T : TypeId} (B : Box h b T u) : tyAt h b T := ⟨_, _, B⟩
theorem tyAt.lt {h : Heap} {b : Nat} {T : TypeId} (x : tyAt h b T) : b < h.size := by
  obtain ⟨c, q, e⟩ := x
  exact (Array.getElem?_eq_some_iff.1 e).1
theorem tyAt.keep {S : Nat → Prop} {h h' : Heap} {b : Nat} {T : TypeId} (x : tyAt h b T) (k : Keeps S h h') (s : S b) : tyAt h' b T := by
  have := x.lt
  obtain ⟨c, q, e⟩ := x
  exact ⟨c, q, (k.blk b this s).trans e⟩
theorem Bytes.emp {S : Nat → Prop} {h : Heap} {A : Option Addr} {cap : Nat} (q : A = none → cap = 0) : Bytes S h (.slice A 0 cap) [] :=
  ⟨rfl, by simp, A, cap, rfl, Nat.zero_le _, q, fun q => absurd q (by simp)⟩
theorem Rows.keep {e : Bool} {h h' : Heap} {base : Nat} {v : Value} {vs : List Value} {ll : List (List UInt8)} (r : Rows e h base v vs ll) {S : Nat → Prop} (k : Keeps S h h') (s : ∀ b, base ≤ b → b < h.size → S b) : Rows e h' base v vs ll :=
  ⟨r.own.keep k fun b q => s b (r.own.blk q).1 (r.own.blk q).2, r.len, fun i hi => by
    obtain ⟨u, h1, h2⟩ := r.row i hi
    refine ⟨u, h1, h2.imp id fun o => o.keep k fun b q => s b (o.1.blk q).1 (o.1.blk q).2⟩, r.apart⟩
theorem Rows.bytes {e : Bool} {h : Heap} {base : Nat} {v : Value} {vs : List Value} {ll : List (List UInt8)} (r : Rows e h base v vs ll) (i : Nat) (hi : i < ll.length) : ∃ u, vs[i]? = some u ∧ Bytes (fun b => base ≤ b) h u ll[i] := by
  obtain ⟨u, h1, h2⟩ := r.row i hi
  rcases h2 with ⟨_, h2, A, cap, rfl, q⟩ | o
  · exact ⟨_, h1, by rw [h2]; exact Bytes.emp q⟩
  · exact ⟨u, h1, o.bytes⟩
theorem Rows.read {e : Bool} {h : Heap} {base : Nat} {v : Value} {vs : List Value} {ll : List (List UInt8)} (r : Rows e h base v vs ll) : BytesL (fun b => base ≤ b) h v ll :=
  ⟨vs, Sl.mono (r.own.sl r.len) (fun b _ q => (r.own.blk q).1) (by omega), fun i hi => r.bytes i hi⟩
theorem Rows.vlen {e : Bool} {h : Heap} {base : Nat} {v : Value} {vs : List Value} {ll : List (List UInt8)} (r : Rows e h base v vs ll) : vs.length = ll.length := by simpa using r.own.1
/-- A row's bytes are written. -/
theorem Rows.wr {e : Bool} {h h' : Heap} {base : Nat} {v : Value} {vs : List Value} {ll : List (List UInt8)} (r : Rows e h base v vs ll) {i g : Nat} (hi : i < ll.length) {u : Value} {l : List UInt8} (hu : vs[i]? = some u)
    (hne : e = true → ll[i] ≠ []) (hg : u.ownBlock = some g) (o : OB t_uint8 h base u ll[i]) (o' : OB t_uint8 h' base u l) (hl : l.length = ll[i].length) (U : Upd g h h') : Rows e h' base v vs (ll.set i l) := by
  have hty := o.ty hg
  have hle : (l ≠ [] ↔ ll[i] ≠ []) := by
    rw [← List.length_pos_iff, ← List.length_pos_iff, hl]
  have vne : v.ownBlock ≠ some g := fun q => by
    have := (r.own.ty q).inj hty
    exact absurd this (by decide)
  refine ⟨by rw [List.length_set]; exact r.own.upd U vne, by rw [List.length_set]; exact r.len, fun j hj => ?_, fun a b ha hb x y z e1 e2 e3 e4 e5 => ?_⟩
  · rw [List.length_set] at hj
    by_cases c : i = j
    · subst c
      exact ⟨u, hu, .inr (by simpa using o')⟩
    · obtain ⟨x, h1, h2⟩ := r.row j hj
      refine ⟨x, h1, ?_⟩
      rw [List.getElem_set_ne c]
      rcases h2 with h2 | h2
      · exact .inl h2
      · by_cases q : e = true ∧ ll[j] = []
        · left
          refine ⟨q.1, q.2, ?_⟩
          rw [q.2] at h2
          rcases h2.1.2 with ⟨rfl, _⟩ | ⟨g', cap, cur, rfl, _⟩
          · exact ⟨none, 0, rfl, fun _ => rfl⟩
          · exact ⟨_, cap, rfl, fun q => (nomatch q)⟩
        · right
          refine h2.keep U.ext fun b hb hbg => ?_
          subst hbg
          exact c (r.apart i j hi hj u x b hu h1 (fun he => ⟨hne he, fun z => q ⟨he, z⟩⟩) hg hb)
  · rw [List.length_set] at ha hb
    refine r.apart a b ha hb x y z e1 e2 (fun he => ?_) e4 e5
    obtain ⟨f1, f2⟩ := e3 he
    constructor
    · by_cases c : i = a
      · subst c; simp at f1; exact hle.1 f1
      · rw [List.getElem_set_ne c] at f1; exact f1
    · by_cases c : i = b
      · subst c; simp at f2; exact hle.1 f2
      · rw [List.getElem_set_ne c] at f2; exact f2
end Go.Eng
namespace Go.Eng
/-- A matrix of a row of bytes; its cells. -/
abbrev mat3 (R L : Int) (u : Value) : List Value := [vI R, vI L, u]
theorem cauchy_Parity_spec' {S : Nat → Prop} {h : Heap} {b : Nat} (F : Fld S h b) (k m : Int) :
    Spec PP f_cauchy_Parity #[ptr b, vI k, vI m] h (fun v h' => Ext h h' ∧ ∃ R L u, v = .tuple #[.agg (mat3 R L u).toArray, vI (chk k m)] ∧ oneCell u = true ∧
      (chk k m = 0 → R = m ∧ L = k ∧ OB t_uint8 h' h.size u (matL (par k.toNat) m.toNat k.toNat))) :=
  (cauchy_Parity_spec F k m).mono fun v h' q => by
    obtain ⟨X, ⟨e, rfl⟩ | ⟨e, u, rfl, O⟩⟩ := q
    · exact ⟨X, 0, 0, _, rfl, rfl, fun q => absurd q e⟩
    · exact ⟨X, m, k, u, by rw [e], O.1.one, fun _ => ⟨rfl, rfl, O⟩⟩
theorem mat3_one {R L : Int} {u : Value} (h : oneCell u = true) : (mat3 R L u).all oneCell = true := by
  show (oneCell _ && (oneCell _ && (oneCell u && true))) = true; rw [h]; rfl
/-- As many shards, and all as long as the first one. -/
def fits (n : Int) (ll : List (List UInt8)) : Bool := decide ((ll.length : Int) = n) && ll.all fun l => l.length == (ll.headD []).length
def chkd (k m n : Int) (ll : List (List UInt8)) : Int := if chk k m ≠ 0 then chk k m else if fits n ll then 0 else 60
theorem headD_get {ll : List (List UInt8)} (h : 0 < ll.length) : ll.headD [] = ll[0] := by
  cases ll with
  | nil => simp at h
  | cons a l => rfl
theorem fits_step {ll : List (List UInt8)} {i : Nat} (hi : i < ll.length) : (ll.take (i + 1)).all (fun l => l.length == (ll.headD []).length) = ((ll.take i).all (fun l => l.length == (ll.headD []).length) && (ll[i].length == (ll.headD []).length)) := by
  rw [List.take_succ_eq_append_getElem hi, List.all_append]
  simp
theorem all_of_take {α : Type} {l : List α} {p : α → Bool} {i : Nat} (h : (l.take i).all p = false) : l.all p = false := by
  rw [List.all_eq_false] at h ⊢
  obtain ⟨x, hx, hp⟩ := h
  exact ⟨x, List.mem_of_mem_take hx, hp⟩
theorem bulk_checked_spec {S T : Nat → Prop} {h : Heap} {b : Nat} (F : Fld S h b) (k m n : Int) {sv : Value} {ll : List (List UInt8)} (D : BytesL T h sv ll) :
    Spec PP f_bulk_checked #[ptr b, vI k, vI m, vI n, sv] h (fun v h' => Ext h h' ∧ ∃ R L u, v = .tuple #[.agg (mat3 R L u).toArray, vI (chkd k m n ll)] ∧ oneCell u = true ∧
      (chkd k m n ll = 0 → R = m ∧ L = k ∧ OB t_uint8 h' h.size u (matL (par k.toNat) m.toNat k.toNat))) := by
  refine Spec.bodyR (C := c_bulk_checked) [(0, ptr b), (1, vI k), (2, vI m), (3, vI n), (4, sv)] h_bulk_checked rfl rfl rfl ⟨rfl, rfl, rfl, rfl, rfl, trivial⟩ rfl ?_
  refine WC.seq (WC.region ?_)
  refine WR.stepL (Runs.alA (z := zMat)) rfl ?_
  rintro _ h1 ⟨b1, rfl, hb1, B1, X1⟩
  refine WR.sL rfl rfl (WR.nil ?_)
  refine WC.scope ?_
  refine WC.seq (WC.region ?_)
  iterate 3 refine WR.s rfl rfl ?_
  refine WR.callT (cauchy_Parity_spec' (F.ext X1) k m) rfl rfl rfl ?_
  rintro _ h2 ⟨X2, R, L, u, rfl, hu, hm⟩
  iterate 3 refine WR.s rfl rfl ?_
  refine WR.stepL (Runs.alA (z := zMat)) rfl ?_
  rintro _ h3 ⟨b2, rfl, hb2, B2, X3⟩
  refine WR.stepU (RunsU.stW (vs := mat3 R L u) B2 rfl rfl rfl rfl (mat3_one hu)) ?_
  rintro h4 ⟨B3, U4⟩
  have hs1 := X1.size
  have hs2 := X2.size
  have X4 : Ext h2 h4 := X3.upd U4 (.inl hb2)
  have C4 : Blk h4 b1 zMat t_api_Matrix := (B1.ext X2).ext X4
  have X : Ext h h4 := (X1.trans X2).trans X4
  have hne : b1 ≠ b2 := by have := B1.lt; omega
  have hm4 : chk k m = 0 → R = m ∧ L = k ∧ OB t_uint8 h4 h.size u (matL (par k.toNat) m.toNat k.toNat) := fun e => ⟨(hm e).1, (hm e).2.1, ((hm e).2.2.ext X4).rebase X1.size⟩
  have D4 := D.ext X
  clear B1 B2 X1 X2 X3 U4 X4 hm hb2 D F
  refine WR.sL rfl rfl (WR.nil ?_)
  refine WC.seq ?_
  refine WC.seq (WC.region ?_)
  iterate 2 refine WR.s rfl rfl ?_
  refine WR.nil ?_
  refine WC.itep rfl (fun e => ?_) (fun e => ?_)
  · refine WC.seq (WC.region ?_)
    refine WR.v (RunsV.ldW B3 rfl rfl) rfl ?_
    refine WR.s rfl rfl ?_
    refine WR.stepU (RunsU.stW C4 rfl rfl rfl rfl (mat3_one hu)) ?_
    rintro h5 ⟨B5, U5⟩
    refine WR.sL rfl rfl (WR.nil ?_)
    have ec : chkd k m n ll = chk k m := by unfold chkd; rw [if_pos e]
    refine WC.ret ⟨[_, _], ⟨⟨b1, _, _, rfl, B5, rfl, 3, inferInstance, rfl⟩, rfl, rfl⟩, X.upd U5 (.inl hb1), R, L, u, by rw [ec]; rfl, hu, fun q => absurd (ec ▸ q) e⟩
  · refine WC.skip ?_
    have e0 : chk k m = 0 := by simpa using e
    have ec : chkd k m n ll = if fits n ll then 0 else 60 := by unfold chkd; rw [if_neg (by simp [e0])]
    obtain ⟨rfl, rfl, O⟩ := hm4 e0
    obtain ⟨vs, Q, rows⟩ := D4
    refine WC.seq (WC.region ?_)
    refine WR.s rfl rfl ?_
    refine WR.v (RunsV.lenSl Q rfl) rfl ?_
    iterate 2 refine WR.s rfl rfl ?_
    refine WR.sL rfl rfl (WR.nil ?_)
    refine WC.seq (WC.label ?_)
    refine WC.cut (σ := Unit) (fun _ => [(10, ptr b1), (12, ptr b2), (14, vb (!fits n ll))]) (fun _ h' => h' = h4) (fun _ => rfl) ?_ ?_
    · refine WC.seq (WC.region ?_)
      refine WR.sL rfl rfl ?_
      refine WR.vL (RunsV.lenSl Q rfl) rfl ?_
      refine WR.sL rfl rfl (WR.nil ?_)
      refine WC.block ?_
      refine WC.loop (σ := Nat) (fun i => [(10, ptr b1), (12, ptr b2), (4, sv), (14, vb (decide ((ll.length : Int) ≠ n))), (32, sv), (33, vI ll.length), (34, vI i)])
        (fun i h' => i ≤ ll.length ∧ h' = h4 ∧ (ll.take i).all (fun l => l.length == (ll.headD []).length) = true) (fun i => ll.length - i) 0 (fun _ => rfl)
        ⟨rfl, rfl, rfl, rfl, rfl, rfl, rfl, trivial⟩ ⟨by omega, rfl, rfl⟩ ?_
      rintro i h5 ⟨hi, rfl, ha⟩
      refine WC.seq (WC.region ?_)
      refine WR.s rfl rfl (WR.nil ?_)
      refine WC.seq ?_
      have hlen := Q.2.1
      refine WC.itep rfl (fun e => ?_) (fun e => ?_)
      · refine WC.skip ?_
        have hi' : i < ll.length := by omega
        obtain ⟨x, hx, Dx⟩ := rows i hi'
        obtain ⟨y, hy, Dy⟩ := rows 0 (by omega)
        refine WC.seq (WC.block ?_)
        refine WC.seq (WC.region ?_)
        refine WR.v (RunsV.ix (Q.has (by omega)) i hi' rfl rfl rfl) rfl ?_
        refine WR.v (RunsV.ldE Q (by omega) rfl rfl hx) rfl ?_
        refine WR.sL rfl rfl (WR.nil ?_)
        refine WC.seq (WC.region ?_)
        refine WR.s rfl rfl ?_
        refine WR.v (RunsV.lenSl Dx rfl) rfl ?_
        refine WR.s rfl rfl ?_
        refine WR.v (RunsV.ix (Q.has (by omega)) 0 (by omega) rfl rfl rfl) rfl ?_
        refine WR.v (RunsV.ldE Q (by omega) rfl rfl hy) rfl ?_
        refine WR.v (RunsV.lenSl Dy rfl) rfl ?_
        refine WR.s rfl rfl (WR.nil ?_)
        refine WC.itep rfl (fun e2 => ?_) (fun e2 => ?_)
        · refine WC.seq (WC.region ?_)
          refine WR.sL rfl rfl (WR.nil ?_)
          refine WC.exit (exit_miss (by decide) (exit_hit ?_))
          refine ⟨(), ⟨rfl, rfl, ?_, trivial⟩, rfl⟩
          have : fits n ll = false := by
            unfold fits
            rw [all_of_take (i := i + 1) (l := ll) (by rw [fits_step hi', headD_get (by omega)]; simp; intro _; omega)]
            simp
          rw [this]; rfl
        · refine WC.skip ?_
          refine WC.region ?_
          refine WR.v (RunsV.add rfl rfl (by omega)) rfl ?_
          refine WR.sL rfl rfl (WR.nil ?_)
          refine ⟨i + 1, ⟨rfl, rfl, rfl, rfl, rfl, rfl, rfl, trivial⟩, ⟨by omega, rfl, ?_⟩, by dsimp only; omega⟩
          rw [fits_step hi', ha, headD_get (by omega)]
          simp; omega
      · refine WC.exit (exit_hit ?_)
        refine ⟨(), ⟨rfl, rfl, ?_, trivial⟩, rfl⟩
        obtain rfl : i = ll.length := by omega
        rw [List.take_length] at ha
        have : fits n ll = decide ((ll.length : Int) = n) := by unfold fits; rw [ha]; simp
        rw [this]
        show some (vb _) = some (vb _)
        simp
    · rintro _ h5 rfl
      refine WC.seq (WC.seq (WC.region ?_))
      refine WR.s rfl rfl (WR.nil ?_)
      refine WC.ite rfl (fun e => ?_) (fun e => ?_)
      · refine WC.seq (WC.region ?_)
        refine WR.v (RunsV.ldW B3 rfl rfl) rfl ?_
        refine WR.stepU (RunsU.stW C4 rfl rfl rfl rfl (mat3_one hu)) ?_
        rintro h6 ⟨B6, U6⟩
        refine WR.sL rfl rfl (WR.nil ?_)
        have e60 : chkd L R n ll = 60 := by rw [ec]; simp at e; simp [e]
        refine WC.ret ⟨[_, _], ⟨⟨b1, _, _, rfl, B6, rfl, 3, inferInstance, rfl⟩, rfl, rfl⟩, X.upd U6 (.inl hb1), R, L, u, by rw [e60]; rfl, hu, fun q => by rw [e60] at q; cases q⟩
      · refine WC.skip ?_
        refine WC.seq (WC.region ?_)
        refine WR.v (RunsV.ldW B3 rfl rfl) rfl ?_
        refine WR.stepU (RunsU.stW C4 rfl rfl rfl rfl (mat3_one hu)) ?_
        rintro h6 ⟨B6, U6⟩
        refine WR.sL rfl rfl (WR.nil ?_)
        have e60 : chkd L R n ll = 0 := by rw [ec]; simp at e; simp [e]
        refine WC.ret ⟨[_, _], ⟨⟨b1, _, _, rfl, B6, rfl, 3, inferInstance, rfl⟩, rfl, rfl⟩, X.upd U6 (.inl hb1), R, L, u, by rw [e60]; rfl, hu, fun _ => ⟨rfl, rfl, O.1.upd U6 (fun q => O.ne_blk C4 (by decide) q), O.2⟩⟩
end Go.Eng
namespace Go.Eng
theorem Rows.lt {e : Bool} {h : Heap} {base : Nat} {v : Value} {vs : List Value} {ll : List (List UInt8)} (r : Rows e h base v vs ll) {i : Nat} (hi : i < ll.length) {u : Value} (hu : vs[i]? = some u) {g : Nat} (he : e = false) (hg : u.ownBlock = some g) : base ≤ g ∧ g < h.size := by
  obtain ⟨x, h1, h2⟩ := r.row i hi
  rw [hu] at h1
  obtain rfl : u = x := by simpa using h1
  rcases h2 with ⟨q, _⟩ | o
  · rw [he] at q; cases q
  · exact o.1.blk hg
theorem Rows.ob {h : Heap} {base : Nat} {v : Value} {vs : List Value} {ll : List (List UInt8)} (r : Rows false h base v vs ll) {i : Nat} (hi : i < ll.length) {u : Value} (hu : vs[i]? = some u) : OB t_uint8 h base u ll[i] := by
  obtain ⟨x, h1, h2⟩ := r.row i hi
  rw [hu] at h1
  obtain rfl : u = x := by simpa using h1
  rcases h2 with ⟨q, _⟩ | o
  · cases q
  · exact o
/-- A row is put in another one's place. -/
theorem Rows.put {h h' : Heap} {base c g : Nat} {v : Value} {vs : List Value} {ll : List (List UInt8)} (r : Rows false h base v vs ll) {i : Nat} {u : Value} {l : List UInt8} (o : OB t_uint8 h c u l) (hbc : base ≤ c)
    (hc : ∀ j x g, j < ll.length → vs[j]? = some x → x.ownBlock = some g → g < c) (own' : Own h' base t_sl_uint8 1 v ll.length (vs.set i u)) (hg : v.ownBlock = some g) (U : Upd g h h') : Rows false h' base v (vs.set i u) (ll.set i l) := by
  have hty := r.own.ty hg
  have keepo : ∀ {x : Value} {y : List UInt8} {c : Nat}, OB t_uint8 h c x y → OB t_uint8 h' c x y := fun {x y c} o => o.keep U.ext fun b hb hbg => by
    subst hbg
    exact absurd ((o.ty hb).inj hty) (by decide)
  have hvl := r.vlen
  refine ⟨by rw [List.length_set]; exact own', by rw [List.length_set]; exact r.len, fun j hj => ?_, fun a b ha hb x y z e1 e2 _ e4 e5 => ?_⟩
  · rw [List.length_set] at hj
    by_cases q : i = j
    · subst q
      exact ⟨u, by simp [hvl, hj], .inr (by simpa using (keepo o).rebase hbc)⟩
    · obtain ⟨x, h1, h2⟩ := r.row j hj
      refine ⟨x, by rw [List.getElem?_set_ne q]; exact h1, ?_⟩
      rw [List.getElem_set_ne q]
      exact h2.imp id fun o => keepo o
  · rw [List.length_set] at ha hb
    by_cases qa : i = a
    · by_cases qb : i = b
      · omega
      · subst qa
        rw [List.getElem?_set_ne qb] at e2
        have := hc b y z hb e2 e5
        simp [hvl, ha] at e1
        subst e1
        have := (o.1.blk e4).1
        omega
    · by_cases qb : i = b
      · subst qb
        rw [List.getElem?_set_ne qa] at e1
        have := hc a x z ha e1 e4
        simp [hvl, hb] at e2
        subst e2
        have := (o.1.blk e5).1
        omega
      · rw [List.getElem?_set_ne qa] at e1
        rw [List.getElem?_set_ne qb] at e2
        exact r.apart a b ha hb x y z e1 e2 (fun q => (nomatch q)) e4 e5
theorem Rows.nils {h : Heap} {base n : Nat} {v : Value} (o : Own h base t_sl_uint8 1 v n (List.replicate n (.slice none 0 0))) (hn : n ≤ 140737488355328) : Rows false h base v (List.replicate n (.slice none 0 0)) (List.replicate n []) :=
  ⟨by simpa using o, by simpa using hn, fun i hi => ⟨.slice none 0 0, by simp at hi; simp [hi], .inr (by simp; exact OB.nil _ _ _)⟩, fun i j hi hj u u' g e1 e2 _ e4 e5 => by
    simp at hi
    simp [hi] at e1
    subst e1
    cases e4⟩
theorem bulk_own_spec {T : Nat → Prop} {h : Heap} {sv : Value} {ll : List (List UInt8)} (D : BytesL T h sv ll) (hn : ll.length ≤ 1000000) :
    Spec PP f_bulk_own #[sv] h (fun v h' => ∃ vs, Rows false h' h.size v vs ll ∧ Ext h h') := by
  obtain ⟨vs, Q, rows⟩ := D
  refine Spec.body (C := c_bulk_own) [(0, sv)] h_bulk_own rfl rfl rfl ⟨rfl, trivial⟩ rfl ?_
  refine WC.seq (WC.region ?_)
  refine WR.sL rfl rfl (WR.nil ?_)
  refine WC.seq (WC.region ?_)
  refine WR.s rfl rfl ?_
  refine WR.v (RunsV.lenSl Q rfl) rfl ?_
  refine WR.stepT (Runs.mk rfl ll.length rfl rfl (by omega) (by omega)) rfl ?_
  rintro v h1 ⟨O1, hv, X1⟩
  refine WR.sL rfl rfl (WR.nil ?_)
  refine WC.seq (WC.seq (WC.region ?_))
  refine WR.sL rfl rfl ?_
  have Q1 := Q.ext X1
  refine WR.vL (RunsV.lenSl Q1 rfl) rfl ?_
  refine WR.sL rfl rfl (WR.nil ?_)
  refine WC.block ?_
  refine WC.loop (σ := Nat) (fun i => [(3, v), (9, sv), (10, vI ll.length), (11, vI i)]) (fun i h' => i ≤ ll.length ∧ Ext h h' ∧ ∃ us, Rows false h' h.size v us (mix ll (List.replicate ll.length []) i)) (fun i => ll.length - i) 0 (fun _ => rfl)
    ⟨rfl, rfl, rfl, rfl, trivial⟩ ⟨by omega, X1, _, by rw [mix_zero]; exact Rows.nils O1 (by omega)⟩ ?_
  clear X1 O1 Q1
  rintro i h2 ⟨hi, X, us, R⟩
  refine WC.seq (WC.region ?_)
  refine WR.s rfl rfl (WR.nil ?_)
  refine WC.seq ?_
  refine WC.itep rfl (fun e => ?_) (fun e => ?_)
  · have hi' : i < ll.length := by omega
    obtain ⟨x, hx, Dx⟩ := rows i hi'
    have hml : (mix ll (List.replicate ll.length []) i).length = ll.length := mix_length (by simp)
    refine WC.skip ?_
    refine WC.seq (WC.block ?_)
    refine WC.seq (WC.region ?_)
    have Q2 := Q.ext X
    refine WR.s rfl rfl ?_
    refine WR.v (RunsV.ix (Q2.has (by omega)) i hi' rfl rfl rfl) rfl ?_
    refine WR.v (RunsV.ldE Q2 (by omega) rfl rfl hx) rfl ?_
    iterate 2 refine WR.sL rfl rfl ?_
    refine WR.nil ?_
    refine WC.region ?_
    iterate 3 refine WR.s rfl rfl ?_
    refine WR.callT (slices_Clone_byte_byte_spec (Dx.ext X)) rfl rfl rfl ?_
    rintro u h3 ⟨Ou, X3⟩
    have R3 := R.keep X3 (fun _ _ _ => trivial)
    refine WR.v (RunsV.ix (R3.own.has (by omega)) i (by omega) rfl rfl rfl) rfl ?_
    refine WR.stepU (RunsU.stO R3.own (by omega) rfl rfl Ou.1.one) ?_
    rintro h4 ⟨O4, g, hg, hg2, hgv, U4⟩
    refine WR.nil ?_
    refine WC.region ?_
    refine WR.v (RunsV.add rfl rfl (by omega)) rfl ?_
    refine WR.sL rfl rfl (WR.nil ?_)
    have := R3.put (i := i) (l := ll[i]) Ou X.size (fun j x g hj e1 e2 => (R.lt hj e1 rfl e2).2) O4 hgv U4
    rw [mix_set (by simp) hi'] at this
    exact ⟨i + 1, ⟨rfl, rfl, rfl, rfl, trivial⟩, ⟨by omega, (X.trans X3).upd U4 (.inl hg), _, this⟩, by dsimp only; omega⟩
  · refine WC.exit (exit_hit ?_)
    refine WC.seq (WC.region ?_)
    refine WR.s rfl rfl ?_
    refine WR.sL rfl rfl (WR.nil ?_)
    rw [mix_full (by simp) (by omega)] at R
    exact WC.ret ⟨_, rfl, us, R, X⟩
/-- To t is added c times s. -/
def addR (c : UInt8) (t s : List UInt8) : List UInt8 := List.zipWith (fun a x => a ^^^ gmul c x) t s
theorem addR_len {c : UInt8} {t s : List UInt8} (h : t.length = s.length) : (addR c t s).length = t.length := by simp [addR, h]
/-- To the first i rows from k on is added. -/
def addL (k i : Nat) (c : Nat → UInt8) (s : List UInt8) (ll : List (List UInt8)) : List (List UInt8) := ll.mapIdx fun q t => if k ≤ q ∧ q < k + i then addR (c (q - k)) t s else t
theorem addL_len (k i : Nat) (c : Nat → UInt8) (s : List UInt8) (ll : List (List UInt8)) : (addL k i c s ll).length = ll.length := by simp [addL]
theorem addL_zero (k : Nat) (c : Nat → UInt8) (s : List UInt8) (ll : List (List UInt8)) : addL k 0 c s ll = ll := by
  apply List.ext_getElem (addL_len ..)
  intro q h1 h2
  simp only [addL, List.getElem_mapIdx]
  rw [if_neg (by omega)]
theorem addL_get {k i : Nat} {c : Nat → UInt8} {s : List UInt8} {ll : List (List UInt8)} {q : Nat} (hq : q < ll.length) (h : ¬ (k ≤ q ∧ q < k + i)) : (addL k i c s ll)[q]'(by rw [addL_len]; exact hq) = ll[q] := by
  simp only [addL, List.getElem_mapIdx]
  rw [if_neg h]
theorem addL_succ {k i : Nat} {c : Nat → UInt8} {s : List UInt8} {ll : List (List UInt8)} (h : k + i < ll.length) : (addL k i c s ll).set (k + i) (addR (c i) ll[k + i] s) = addL k (i + 1) c s ll := by
  apply List.ext_getElem (by simp [addL_len])
  intro q h1 h2
  rw [addL_len] at h2
  rw [List.getElem_set]
  by_cases e : k + i = q
  · subst e
    have a1 : (addL k (i + 1) c s ll)[k + i]'(by rw [addL_len]; exact h) = addR (c i) ll[k + i] s := by
      simp only [addL, List.getElem_mapIdx]
      rw [if_pos (by omega), Nat.add_sub_cancel_left]
    rw [a1, if_pos rfl]
  · rw [if_neg e]
    simp only [addL, List.getElem_mapIdx]
    by_cases f : k ≤ q ∧ q < k + i
    · rw [if_pos f, if_pos (by omega)]
    · rw [if_neg f, if_neg (by omega)]
/-- What a step that writes own rows keeps. -/
abbrev offRows (h : Heap) (base : Nat) : Nat → Prop := fun i => i < base ∨ ¬ tyAt h i t_uint8

theorem Bytes.get {S : Nat → Prop} {h : Heap} {v : Value} {l : List UInt8} (B : Bytes S h v l) : ∃ A cap, v = .slice A l.length cap := by
  obtain ⟨_, _, A, cap, e, _⟩ := B; exact ⟨A, cap, e⟩
theorem offRows.then {h h1 h2 : Heap} {base : Nat} (x : Keeps (offRows h base) h h1) (y : Keeps (offRows h1 base) h1 h2) : Keeps (offRows h base) h h2 :=
  ⟨Nat.le_trans x.size y.size, fun i hi s => (y.blk i (Nat.lt_of_lt_of_le hi x.size) (s.imp id fun q p => q (by
    obtain ⟨c, r, e⟩ := p
    exact ⟨c, r, (x.blk i hi s).symm.trans e⟩))).trans (x.blk i hi s)⟩
theorem offRows.ty {h h' : Heap} {base : Nat} (x : Keeps (offRows h base) h h') {b : Nat} {T : TypeId} (t : tyAt h b T) (ne : T ≠ t_uint8) : offRows h base b := .inr fun q => ne (t.inj q)
theorem bulk_adder_1_spec {S SM D : Nat → Prop} {h : Heap} {b bf bm bp base k j : Nat} {u v sv : Value} {vs : List Value} {ml s : List UInt8} {ll : List (List UInt8)} {R L : Int} (c : Nat → UInt8)
    (F : Fld S h b) (hS : ∀ i, S i → i < base) (Bf : Box h bf t_ptr_gf_Field (ptr b)) (Bm : Blk h bm (mat3 R L u) t_api_Matrix) (M : Bytes SM h u ml) (hM : ∀ i, SM i → i < base)
    (Bp : Box h bp t_sl_sl_uint8 (subv 1 v k ll.length)) (Rw : Rows false h base v vs ll) (hk : k ≤ ll.length) (hL : 0 ≤ L ∧ L ≤ 256) (hj : j < 256) (hn : ll.length ≤ 256)
    (hc : ∀ i, k + i < ll.length → ml[i * L.toNat + j]? = some (c i)) (Ds : Bytes D h sv s) (hD : ∀ i, D i → i < base) (hs : ∀ i (hi : i < ll.length), k ≤ i → ll[i].length = s.length) :
    Spec PP f_bulk_adder_1 #[vI j, sv, ptr bp, ptr bm, ptr bf] h (fun w h' => w = .tuple #[] ∧ Rows false h' base v vs (addL k (ll.length - k) c s ll) ∧ Keeps (offRows h base) h h') := by
  refine Spec.body (C := c_bulk_adder_1) [(0, vI j), (1, sv), (2, ptr bp), (3, ptr bm), (4, ptr bf)] h_bulk_adder_1 rfl rfl rfl ⟨rfl, rfl, rfl, rfl, rfl, trivial⟩ rfl ?_
  refine WC.seq (WC.region ?_)
  have Q0 := Rw.own.sl Rw.len
  have P0 := Sl.sub Q0 hk (Nat.le_refl _)
  simp only [Nat.mul_one] at P0
  have hslen := Ds.2.1
  refine WR.vL (RunsV.ldB Bp rfl) rfl ?_
  refine WR.vL (RunsV.lenSl P0 rfl) rfl ?_
  refine WR.sL rfl rfl (WR.nil ?_)
  refine WC.block ?_
  refine WC.loop (σ := Nat) (fun i => [(0, vI j), (1, sv), (3, ptr bm), (4, ptr bf), (12, subv 1 v k ll.length), (13, vI ((ll.length - k : Nat))), (14, vI i)])
    (fun i h' => i ≤ ll.length - k ∧ Keeps (offRows h base) h h' ∧ Rows false h' base v vs (addL k i c s ll)) (fun i => ll.length - k - i) 0 (fun _ => rfl)
    ⟨rfl, rfl, rfl, rfl, rfl, rfl, rfl, trivial⟩ ⟨by omega, Keeps.refl _ _, by rw [addL_zero]; exact Rw⟩ ?_
  rintro i h1 ⟨hi, X, R1⟩
  refine WC.seq (WC.region ?_)
  refine WR.s rfl rfl (WR.nil ?_)
  refine WC.seq ?_
  refine WC.itep rfl (fun e => ?_) (fun e => ?_)
  · have hi' : k + i < ll.length := by omega
    obtain ⟨t, ht⟩ : ∃ t, vs[k + i]? = some t := ⟨_, List.getElem?_eq_getElem (by rw [Rw.vlen]; exact hi')⟩
    have Q1 : Sl (fun b => v.ownBlock = some b) h1 1 v ll.length vs := by
      have := R1.own.sl R1.len
      rwa [addL_len] at this
    have P1 := Sl.sub Q1 hk (Nat.le_refl _)
    simp only [Nat.mul_one] at P1
    have Bm1 := Bm.keep X (offRows.ty X Bm.ty (by decide))
    have Bf1 := Bf.keep X (offRows.ty X Bf.ty (by decide))
    have M1 := M.keep X (fun i _ q => .inl (hM i q))
    have D1 := Ds.keep X (fun i _ q => .inl (hD i q))
    have F1 := F.keep X (fun i q => .inl (hS i q))
    have hml := (List.getElem?_eq_some_iff.1 (hc i hi')).1
    have hiL : i * L.toNat ≤ 256 * 256 := Nat.mul_le_mul (by omega) (by omega)
    have hLL : ((L.toNat : Nat) : Int) = L := by omega
    refine WC.skip ?_
    refine WC.seq (WC.block ?_)
    refine WC.seq (WC.region ?_)
    refine WR.s rfl rfl ?_
    refine WR.v (RunsV.ix (P1.has (by omega)) i (by omega) rfl rfl rfl) rfl ?_
    refine WR.v (RunsV.ldE P1 (by omega) rfl rfl (y := t) (by rw [List.getElem?_take, if_pos (by omega), List.getElem?_drop]; exact ht)) rfl ?_
    iterate 2 refine WR.sL rfl rfl ?_
    refine WR.nil ?_
    refine WC.seq (WC.region ?_)
    refine WR.v (RunsV.fa0 rfl) rfl ?_
    refine WR.v (RunsV.ldF (v := u) Bm1 rfl rfl) rfl ?_
    refine WR.s rfl rfl ?_
    refine WR.v (RunsV.fa0 rfl) rfl ?_
    refine WR.v (RunsV.ldF (v := vI ((L.toNat : Nat))) Bm1 rfl (by rw [hLL]; rfl)) rfl ?_
    refine WR.v (RunsV.to (v' := vI ((i * L.toNat : Nat))) (RunsV.mul rfl rfl (by rw [← Int.natCast_mul]; omega)) (by simp)) rfl ?_
    refine WR.s rfl rfl ?_
    refine WR.v (RunsV.to (v' := vI ((i * L.toNat + j : Nat))) (RunsV.add rfl rfl (by omega)) (by simp)) rfl ?_
    refine WR.v (RunsV.ix (M1.has (by omega)) (i * L.toNat + j) hml rfl rfl rfl) rfl ?_
    refine WR.v (RunsV.ldE M1 (by omega) rfl rfl (y := vB (c i)) (by rw [bcells_get hml]; have := hc i hi'; rw [List.getElem?_eq_getElem hml] at this; simp at this; rw [this])) rfl ?_
    refine WR.sL rfl rfl (WR.nil ?_)
    refine WC.seq (WC.region ?_)
    refine WR.sL rfl rfl ?_
    refine WR.vL (RunsV.lenSl D1 rfl) rfl ?_
    refine WR.sL rfl rfl (WR.nil ?_)
    have hlt : ll[k + i].length = s.length := hs _ hi' (by omega)
    have hmix : (addR (c i) ll[k + i] s).length = ll[k + i].length := addR_len hlt
    refine WC.block ?_
    refine WC.loop (σ := Nat) (fun n => [(0, vI j), (1, sv), (3, ptr bm), (4, ptr bf), (12, subv 1 v k ll.length), (13, vI ((ll.length - k : Nat))), (14, vI i), (8, t), (9, vB (c i)), (29, sv), (30, vI s.length), (31, vI n)])
      (fun n h' => n ≤ s.length ∧ Keeps (offRows h base) h h' ∧ Rows false h' base v vs ((addL k i c s ll).set (k + i) (mix (addR (c i) ll[k + i] s) ll[k + i] n))) (fun n => s.length - n) 0 (fun _ => rfl)
      ⟨rfl, rfl, rfl, rfl, rfl, rfl, rfl, rfl, rfl, rfl, rfl, rfl, trivial⟩ ⟨by omega, X, by
        rw [mix_zero]
        have : (addL k i c s ll).set (k + i) ll[k + i] = addL k i c s ll := by
          apply List.ext_getElem (by simp)
          intro q h1 h2
          rw [List.getElem_set]
          split
          · rename_i e; subst e; rw [addL_get hi' (by omega)]
          · rfl
        rw [this]; exact R1⟩ ?_
    clear Q1 P1 Bm1 Bf1 M1 D1 F1 X R1
    rintro n h2 ⟨hn2, X, R2⟩
    refine WC.seq (WC.region ?_)
    refine WR.s rfl rfl (WR.nil ?_)
    refine WC.seq ?_
    refine WC.itep rfl (fun e2 => ?_) (fun e2 => ?_)
    · have hn' : n < s.length := by omega
      have Bf1 := Bf.keep X (offRows.ty X Bf.ty (by decide))
      have D1 := Ds.keep X (fun i _ q => .inl (hD i q))
      have F1 := F.keep X (fun i q => .inl (hS i q))
      have hki : k + i < ((addL k i c s ll).set (k + i) (mix (addR (c i) ll[k + i] s) ll[k + i] n)).length := by simp [addL_len]; exact hi'
      have O := R2.ob hki ht
      have eg : ((addL k i c s ll).set (k + i) (mix (addR (c i) ll[k + i] s) ll[k + i] n))[k + i] = mix (addR (c i) ll[k + i] s) ll[k + i] n := by simp
      rw [eg] at O
      have hml2 : (mix (addR (c i) ll[k + i] s) ll[k + i] n).length = s.length := by rw [mix_length hmix, hmix, hlt]
      have O1 : Own h2 base t_uint8 1 t s.length (bcells (mix (addR (c i) ll[k + i] s) ll[k + i] n)) := by
        have := O.1; rwa [hml2] at this
      refine WC.skip ?_
      refine WC.seq (WC.block ?_)
      refine WC.seq (WC.region ?_)
      refine WR.s rfl rfl ?_
      refine WR.v (RunsV.ix (D1.has (by omega)) n hn' rfl rfl rfl) rfl ?_
      refine WR.v (RunsV.ldE D1 (by omega) rfl rfl (bcells_get hn')) rfl ?_
      iterate 2 refine WR.sL rfl rfl ?_
      refine WR.nil ?_
      refine WC.drawE 10 [(false,0),(false,1),(false,2),(false,3),(false,4),(false,5),(false,6),(true,7),(false,8),(false,9),(true,10)] (same h2) (by decide +kernel) (fun _ _ _ _ _ _ q => q) rfl ?_
      iterate 2 refine WQ.s rfl rfl rfl ?_
      refine WQ.rd rfl (RunsV.ix (O1.has (by omega)) n hn' rfl rfl rfl) rfl ?_
      refine WQ.rd rfl (RunsV.ldO O1 (by omega) rfl rfl (y := vB (ll[k + i][n]'(by omega))) (by rw [bcells_get (by omega)]; have := mix_get (A := addR (c i) ll[k + i] s) (Z := ll[k + i]) (i := n) (j := n) hmix (Nat.le_refl _) (by omega); rw [List.getElem?_eq_getElem (by omega), List.getElem?_eq_getElem (by omega)] at this; simp at this; rw [this])) rfl ?_
      refine WQ.rd rfl (RunsV.ldB Bf1 rfl) rfl ?_
      iterate 2 refine WQ.s rfl rfl rfl ?_
      refine WQ.rc rfl (gf_Field_Mul_spec F1 _ _) rfl rfl rfl (by omega) ?_
      rintro _ rfl
      refine WQ.rd rfl (RunsV.xorB rfl rfl) rfl ?_
      refine WQ.rd rfl (RunsV.ix (O1.has (by omega)) n hn' rfl rfl rfl) rfl ?_
      refine WQ.u rfl (RunsU.stO O1 hn' rfl rfl rfl) (fun q => absurd rfl q) (fun _ => rfl) ?_
      rintro h3 ⟨O3, g, hbg, hg2, hgv, U3⟩
      refine WQ.nil ?_
      refine WC.region ?_
      refine WR.v (RunsV.add rfl rfl (by omega)) rfl ?_
      refine WR.sL rfl rfl (WR.nil ?_)
      have ex : ll[k + i][n]'(by omega) ^^^ gmul (c i) s[n] = (addR (c i) ll[k + i] s)[n]'(by omega) := by simp [addR]
      rw [bcells_set, ex, mix_set hmix (by omega)] at O3
      have hml3 : (mix (addR (c i) ll[k + i] s) ll[k + i] (n + 1)).length = s.length := by rw [mix_length hmix, hmix, hlt]
      have R3 := R2.wr hki ht (fun q => (nomatch q)) hgv (R2.ob hki ht) (l := mix (addR (c i) ll[k + i] s) ll[k + i] (n + 1)) ⟨by rw [hml3]; exact O3, by omega⟩ (by rw [eg, hml2, hml3]) U3
      rw [List.set_set] at R3
      refine ⟨n + 1, ⟨rfl, rfl, rfl, rfl, rfl, rfl, rfl, rfl, rfl, rfl, rfl, rfl, trivial⟩, ⟨by omega, ?_, R3⟩, by dsimp only; omega⟩
      exact offRows.then X ⟨by rw [U3.1]; exact Nat.le_refl _, fun q hq w => U3.2 q fun z => by
        subst z
        rcases w with w | w
        · omega
        · exact w (O.ty hgv)⟩
    · refine WC.exit (exit_hit ?_)
      obtain rfl : n = s.length := by omega
      rw [mix_full hmix (by omega), addL_succ hi'] at R2
      refine WC.region ?_
      refine WR.v (RunsV.add rfl rfl (by omega)) rfl ?_
      refine WR.sL rfl rfl (WR.nil ?_)
      exact ⟨i + 1, ⟨rfl, rfl, rfl, rfl, rfl, rfl, rfl, trivial⟩, ⟨by omega, X, R2⟩, by dsimp only; omega⟩
  · refine WC.exit (exit_hit ?_)
    obtain rfl : i = ll.length - k := by omega
    exact ⟨_, rfl, rfl, R1, X⟩
theorem bulk_adder_spec {h : Heap} {b : Nat} {R L : Int} {u pv : Value} (hu : oneCell u = true) (hp : oneCell pv = true) : Spec PP f_bulk_adder #[ptr b, .agg (mat3 R L u).toArray, pv] h (fun v h' => ∃ bp bm bf, v = .func (.func f_bulk_adder_1) #[] #[ptr bp, ptr bm, ptr bf] ∧
    Box h' bp t_sl_sl_uint8 pv ∧ Blk h' bm (mat3 R L u) t_api_Matrix ∧ Box h' bf t_ptr_gf_Field (ptr b) ∧ Ext h h') := by
  refine Spec.body (C := c_bulk_adder) [(0, ptr b), (1, .agg (mat3 R L u).toArray), (2, pv)] h_bulk_adder rfl rfl rfl ⟨rfl, rfl, rfl, trivial⟩ rfl ?_
  refine WC.seq (WC.region ?_)
  refine WR.stepL (Runs.bx rfl rfl) rfl ?_
  rintro _ h1 ⟨bf, rfl, -, Bf, X1⟩
  refine WR.stepL (Runs.bxA _ rfl) rfl ?_
  rintro _ h2 ⟨bm, rfl, -, Bm, X2⟩
  refine WR.stepL (Runs.bx rfl hp) rfl ?_
  rintro _ h3 ⟨bp, rfl, -, Bp, X3⟩
  refine WR.sL rfl rfl (WR.nil ?_)
  refine WC.seq (WC.region ?_)
  refine WR.s rfl rfl ?_
  refine WR.sL rfl rfl (WR.nil ?_)
  exact WC.ret ⟨_, rfl, bp, bm, bf, rfl, Bp, Bm.ext X3, (Bf.ext X2).ext X3, (X1.trans X2).trans X3⟩
end Go.Eng
namespace Go.Eng
/-- The rows behind so many columns. -/
def encI (k m : Nat) (ll : List (List UInt8)) : Nat → List (List UInt8)
  | 0 => ll ++ List.replicate m (List.replicate (ll.headD []).length 0)
  | j + 1 => addL k m (fun i => par k i j) (ll.getD j []) (encI k m ll j)
/-- All shards of data shards. -/
def encP (k m : Nat) (ll : List (List UInt8)) : List (List UInt8) := encI k m ll k
theorem encI_len (k m : Nat) (ll : List (List UInt8)) : ∀ j, (encI k m ll j).length = ll.length + m
  | 0 => by simp [encI]
  | j + 1 => by rw [encI, addL_len, encI_len k m ll j]
theorem fits_rows {n : Int} {ll : List (List UInt8)} (h : fits n ll = true) : (ll.length : Int) = n ∧ ∀ l ∈ ll, l.length = (ll.headD []).length := by
  unfold fits at h
  simp only [Bool.and_eq_true, decide_eq_true_eq, List.all_eq_true, beq_iff_eq] at h
  exact h
theorem encI_row {k m : Nat} {ll : List (List UInt8)} (hl : ∀ l ∈ ll, l.length = (ll.headD []).length) : ∀ j, j ≤ ll.length → ∀ l ∈ encI k m ll j, l.length = (ll.headD []).length
  | 0, _, l, h => by
    simp only [encI, List.mem_append, List.mem_replicate] at h
    rcases h with h | ⟨_, rfl⟩
    · exact hl l h
    · simp
  | j + 1, hj, l, h => by
    have ih := encI_row (k := k) (m := m) hl j (by omega)
    rw [encI] at h
    obtain ⟨i, hi, rfl⟩ := List.getElem_of_mem h
    rw [addL_len] at hi
    have h1 := ih _ (List.getElem_mem hi)
    simp only [addL, List.getElem_mapIdx]
    split
    · rw [addR_len, h1]
      rw [h1, List.getD_eq_getElem?_getD, List.getElem?_eq_getElem (by omega), Option.getD_some, hl _ (List.getElem_mem _)]
    · exact h1
theorem Rows.snoc {h h' : Heap} {base c : Nat} {v v' : Value} {vs : List Value} {ll : List (List UInt8)} (r : Rows false h base v vs ll) {u : Value} {l : List UInt8} (o : OB t_uint8 h c u l) (hbc : base ≤ c)
    (hc : ∀ j x g, j < ll.length → vs[j]? = some x → x.ownBlock = some g → g < c) (k : Keeps (fun b => v.ownBlock ≠ some b) h h') (own' : Own h' base t_sl_uint8 1 v' (ll.length + 1) (vs ++ [u])) (hl : ll.length + 1 ≤ 140737488355328) : Rows false h' base v' (vs ++ [u]) (ll ++ [l]) := by
  have keepo : ∀ {x : Value} {y : List UInt8} {c : Nat}, OB t_uint8 h c x y → OB t_uint8 h' c x y := fun {x y c} o => o.keep k fun b hb hbg => absurd ((o.ty hb).inj (r.own.ty hbg)) (by decide)
  have hvl := r.vlen
  have low : ∀ {j : Nat}, j < ll.length → (vs ++ [u])[j]? = vs[j]? := fun hj => by rw [List.getElem?_append_left (by omega)]
  have top : (vs ++ [u])[ll.length]? = some u := by rw [← hvl]; simp
  refine ⟨by rw [List.length_append]; exact own', by rw [List.length_append]; exact hl, fun j hj => ?_, fun a b ha hb x y z e1 e2 _ e4 e5 => ?_⟩
  · by_cases q : j < ll.length
    · obtain ⟨x, h1, h2⟩ := r.row j q
      refine ⟨x, by rw [low q]; exact h1, ?_⟩
      rw [List.getElem_append_left q]
      exact h2.imp id fun o => keepo o
    · have : j = ll.length := by simp at hj; omega
      subst this
      refine ⟨u, top, .inr ?_⟩
      have := (keepo o).rebase hbc
      simpa using this
  · by_cases qa : a < ll.length
    · rw [low qa] at e1
      by_cases qb : b < ll.length
      · rw [low qb] at e2
        exact r.apart a b qa qb x y z e1 e2 (fun q => (nomatch q)) e4 e5
      · have : b = ll.length := by simp at hb; omega
        subst this
        rw [top] at e2
        simp at e2; subst e2
        have := hc a x z qa e1 e4
        have := (o.1.blk e5).1
        omega
    · have : a = ll.length := by simp at ha; omega
      subst this
      rw [top] at e1
      simp at e1; subst e1
      by_cases qb : b < ll.length
      · rw [low qb] at e2
        have := hc b y z qb e2 e5
        have := (o.1.blk e4).1
        omega
      · simp at hb; omega
theorem bulk_Encode_spec {S T : Nat → Prop} {h : Heap} {b : Nat} (F : Fld S h b) (hS : ∀ i, S i → i < h.size) (k m : Int) {sv : Value} {ll : List (List UInt8)} (D : BytesL T h sv ll) :
    Spec PP f_bulk_Encode #[ptr b, vI k, vI m, sv] h (fun v h' => Ext h h' ∧ ((chkd k m k ll ≠ 0 ∧ v = .tuple #[.slice none 0 0, vI (chkd k m k ll)]) ∨
      (chkd k m k ll = 0 ∧ ∃ u vs, v = .tuple #[u, vI 0] ∧ Rows false h' h.size u vs (encP k.toNat m.toNat ll)))) := by
  refine Spec.body (C := c_bulk_Encode) [(0, ptr b), (1, vI k), (2, vI m), (3, sv)] h_bulk_Encode rfl rfl rfl ⟨rfl, rfl, rfl, rfl, trivial⟩ rfl ?_
  refine WC.seq (WC.region ?_)
  iterate 2 refine WR.sL rfl rfl ?_
  refine WR.nil ?_
  refine WC.seq (WC.region ?_)
  iterate 5 refine WR.s rfl rfl ?_
  refine WR.callT (bulk_checked_spec F k m k D) rfl rfl rfl ?_
  rintro _ h1 ⟨X1, R, L, u, rfl, hu, hm⟩
  iterate 3 refine WR.s rfl rfl ?_
  refine WR.stepL (Runs.alA (z := zMat)) rfl ?_
  rintro _ h2 ⟨b2, rfl, hb2, B2, X2⟩
  refine WR.stepU (RunsU.stW (vs := mat3 R L u) B2 rfl rfl rfl rfl (mat3_one hu)) ?_
  rintro h3 ⟨B3, U3⟩
  have X13 : Ext h1 h3 := X2.upd U3 (.inl hb2)
  have X3 : Ext h h3 := X1.trans X13
  have hs1 := X1.size
  have hs2 := X13.size
  refine WR.sL rfl rfl (WR.nil ?_)
  refine WC.seq (WC.seq (WC.region ?_))
  iterate 2 refine WR.s rfl rfl ?_
  refine WR.nil ?_
  refine WC.itep rfl (fun e => ?_) (fun e => ?_)
  · refine WC.seq (WC.region ?_)
    refine WR.s rfl rfl ?_
    iterate 2 refine WR.sL rfl rfl ?_
    refine WR.nil ?_
    exact WC.ret ⟨_, rfl, X3, .inl ⟨e, rfl⟩⟩
  · refine WC.skip ?_
    have e0 : chkd k m k ll = 0 := by simpa using e
    have ek : chk k m = 0 := by
      unfold chkd at e0
      by_cases q : chk k m ≠ 0
      · rw [if_pos q] at e0; exact absurd e0 q
      · simpa using q
    have ef : fits k ll = true := by
      unfold chkd at e0
      rw [if_neg (by simp [ek])] at e0
      by_cases q : fits k ll = true
      · exact q
      · rw [if_neg q] at e0; cases e0
    obtain ⟨hk, hrow⟩ := fits_rows ef
    have hkm := chk_ok ek
    obtain ⟨eR, eL, O⟩ := hm e0
    obtain ⟨mm, rfl⟩ : ∃ mm : Nat, m = mm := ⟨m.toNat, by omega⟩
    subst hk
    subst eR eL
    simp only [Int.toNat_natCast] at O ⊢
    have M : Bytes (fun i => i < h3.size) h3 u (matL (par ll.length) mm ll.length) := (O.ext X13).bytes.mono fun i hi _ => hi
    have D3 : BytesL (fun i => i < h3.size) h3 sv ll := (D.ext X3).mono fun i hi _ => hi
    have F3 := F.ext X3
    refine WC.seq (WC.region ?_)
    refine WR.s rfl rfl ?_
    refine WR.callT (bulk_own_spec D3 (by omega)) rfl rfl rfl ?_
    rintro v h4 ⟨vs0, R4, X4⟩
    refine WR.sL rfl rfl (WR.nil ?_)
    have hpos : 0 < ll.length := by omega
    refine WC.seq (WC.seq (WC.region ?_))
    iterate 2 refine WR.sL rfl rfl ?_
    refine WR.nil ?_
    refine WC.block ?_
    refine WC.loop (σ := Nat × Value) (fun q => [(0, ptr b), (1, vI ll.length), (3, sv), (10, ptr b2), (12, q.2), (30, vI mm), (31, vI q.1)])
      (fun q h' => q.1 ≤ mm ∧ Ext h3 h' ∧ ∃ vs, Rows false h' h3.size q.2 vs (ll ++ List.replicate q.1 (List.replicate (ll.headD []).length 0))) (fun q => mm - q.1) (0, v) (fun _ => rfl)
      ⟨rfl, rfl, rfl, rfl, rfl, rfl, rfl, trivial⟩ ⟨by simp, X4, vs0, by simpa using R4⟩ ?_
    clear R4 X4 v
    rintro ⟨i, v⟩ h4 ⟨hi, X4, vs, R4⟩
    dsimp only at hi R4
    refine WC.seq (WC.region ?_)
    refine WR.s rfl rfl (WR.nil ?_)
    refine WC.seq ?_
    obtain ⟨us, Q, rows⟩ := D3
    refine WC.itep rfl (fun e => ?_) (fun e => ?_)
    · refine WC.skip ?_
      refine WC.seq (WC.block ?_)
      obtain ⟨y, hy, Dy⟩ := rows 0 hpos
      have Q4 := Q.ext X4
      have Dy4 := Dy.ext X4
      have hyl := Dy.2.1
      refine WC.region ?_
      iterate 2 refine WR.s rfl rfl ?_
      refine WR.v (RunsV.ix (Q4.has hpos) 0 hpos rfl rfl rfl) rfl ?_
      refine WR.v (RunsV.ldE Q4 (by omega) rfl rfl hy) rfl ?_
      refine WR.v (RunsV.lenSl Dy4 rfl) rfl ?_
      refine WR.stepT (Runs.mk rfl ll[0].length rfl rfl (by omega) (by omega)) rfl ?_
      rintro z h5 ⟨O5, hz, X5⟩
      have R5 := R4.keep X5 (fun _ _ _ => trivial)
      have hl5 : (ll ++ List.replicate i (List.replicate (ll.headD []).length (0 : UInt8))).length ≤ 512 := by simp; omega
      refine WR.ap1T R5.own (by have := X4.size; have := X5.size; omega) rfl rfl (fun _ => rfl) rfl O5.one rfl (by omega) (by omega) ?_
      rintro x v' h6 O6 K6 -
      refine WR.sL rfl rfl (WR.nil ?_)
      refine WC.region ?_
      refine WR.v (RunsV.add rfl rfl (by omega)) rfl ?_
      refine WR.sL rfl rfl (WR.nil ?_)
      have OZ : OB t_uint8 h5 h4.size z (List.replicate (ll.headD []).length 0) := by
        rw [headD_get hpos]
        refine ⟨?_, by simpa using hyl⟩
        rw [← bcells_rep, List.length_replicate]
        exact O5
      have R6 := R5.snoc OZ X4.size (fun j x g hj e1 e2 => (R4.lt hj e1 rfl e2).2) K6 O6 (by omega)
      rw [List.append_assoc, ← List.replicate_succ'] at R6
      exact ⟨(i + 1, v'), ⟨rfl, rfl, rfl, rfl, rfl, rfl, rfl, trivial⟩, ⟨by dsimp only; omega, Keeps.own (X4.trans X5) R5.own (Nat.le_refl _) K6, _, R6⟩, by dsimp only; omega⟩
    · refine WC.exit (exit_hit ?_)
      obtain rfl : i = mm := by omega
      have B4 := B3.ext X4
      have hfl : (ll ++ List.replicate i (List.replicate (ll.headD []).length (0 : UInt8))).length = ll.length + i := by simp
      refine WC.seq ?_
      have hv := R4.own.form
      refine WC.draw [(false,0),(false,1),(false,2),(false,3),(false,4),(true,5),(false,6)] (fun h' => Blk h' b2 (mat3 i ll.length u) t_api_Matrix) (by decide +kernel) (fun _ _ _ _ _ _ q => q) B4 ?_
      refine WQ.s rfl rfl rfl ?_
      refine WQ.q rfl (fun h' s => RunsV.ldW s rfl rfl) rfl ?_
      iterate 2 refine WQ.s rfl rfl rfl ?_
      refine WQ.q rfl (fun h' s => RunsV.subL ll.length rfl rfl hv rfl (by omega)) rfl ?_
      rw [hfl]
      refine WQ.call rfl (bulk_adder_spec hu (by obtain ⟨A, cap, rfl⟩ := hv; rfl)) rfl rfl rfl (fun _ s v h' q => by obtain ⟨_, _, _, _, _, _, _, X⟩ := q; exact s.ext X) (by omega) ?_
      rintro _ h5 ⟨bp, bm, bf, rfl, Bp, Bm, Bf, X5⟩
      refine WQ.sL rfl rfl rfl ?_
      refine WQ.nil ?_
      have R5 := R4.keep X5 (fun _ _ _ => trivial)
      have X35 := X4.trans X5
      have Q5 := Q.ext X35
      refine WC.seq (WC.seq (WC.region ?_))
      refine WR.sL rfl rfl ?_
      refine WR.vL (RunsV.lenSl Q5 rfl) rfl ?_
      refine WR.sL rfl rfl (WR.nil ?_)
      refine WC.block ?_
      refine WC.loop (σ := Nat) (fun j => [(12, v), (13, .func (.func f_bulk_adder_1) #[] #[ptr bp, ptr bm, ptr bf]), (48, sv), (49, vI ll.length), (50, vI j)])
        (fun j h' => j ≤ ll.length ∧ Keeps (offRows h5 h3.size) h5 h' ∧ Rows false h' h3.size v vs (encI ll.length i ll j)) (fun j => ll.length - j) 0 (fun _ => rfl)
        ⟨rfl, rfl, rfl, rfl, rfl, trivial⟩ ⟨by omega, Keeps.refl _ _, R5⟩ ?_
      rintro j h6 ⟨hj, X6, R6⟩
      refine WC.seq (WC.region ?_)
      refine WR.s rfl rfl (WR.nil ?_)
      refine WC.seq ?_
      refine WC.itep rfl (fun e => ?_) (fun e => ?_)
      · have hj' : j < ll.length := by omega
        obtain ⟨x, hx, Dx⟩ := rows j hj'
        have Q6 := Q5.keep X6 (fun i _ q => .inl q)
        have D6 := (Dx.ext X35).keep X6 (fun i _ q => .inl q)
        refine WC.skip ?_
        refine WC.seq (WC.block ?_)
        refine WC.seq (WC.region ?_)
        refine WR.s rfl rfl ?_
        refine WR.v (RunsV.ix (Q6.has hpos) j hj' rfl rfl rfl) rfl ?_
        refine WR.v (RunsV.ldE Q6 (by omega) rfl rfl hx) rfl ?_
        iterate 2 refine WR.sL rfl rfl ?_
        refine WR.nil ?_
        refine WC.region ?_
        iterate 3 refine WR.s rfl rfl ?_
        have hel := encI_len ll.length i ll j
        have hs3 : h.size ≤ h3.size := X3.size
        refine WR.callC (bulk_adder_1_spec (k := ll.length) (j := j) (c := fun r => par ll.length r j) ((F3.ext X35).keep X6 (fun i q => .inl (by have := hS i q; omega))) (fun i q => by have := hS i q; omega) (Bf.keep X6 (.inr fun q => absurd (q.inj Bf.ty) (by decide)))
          (Bm.keep X6 (.inr fun q => absurd (q.inj Bm.ty) (by decide))) ((M.ext X35).keep X6 (fun i _ q => .inl q)) (fun i q => q) (by rw [hel]; exact Bp.keep X6 (.inr fun q => absurd (q.inj Bp.ty) (by decide))) R6 (by omega) (by omega) (by omega) (by omega)
          (fun r hr => by rw [Int.toNat_natCast]; exact matL_get _ (by omega) hj') D6 (fun i q => q)
          (fun r hr hlr => by
            rw [encI_row hrow j (by omega) _ (List.getElem_mem hr), hrow _ (List.getElem_mem hj')])) rfl rfl rfl rfl ?_
        rintro _ h7 ⟨rfl, R7, X7⟩
        refine WR.nil ?_
        refine WC.region ?_
        refine WR.v (RunsV.add rfl rfl (by omega)) rfl ?_
        refine WR.sL rfl rfl (WR.nil ?_)
        refine ⟨j + 1, ⟨rfl, rfl, rfl, rfl, rfl, trivial⟩, ⟨by omega, offRows.then X6 X7, ?_⟩, by dsimp only; omega⟩
        have e1 : encI ll.length i ll (j + 1) = addL ll.length ((encI ll.length i ll j).length - ll.length) (fun r => par ll.length r j) ll[j] (encI ll.length i ll j) := by
          rw [hel, Nat.add_sub_cancel_left, encI, List.getD_eq_getElem?_getD, List.getElem?_eq_getElem hj']
          rfl
        rw [e1]; exact R7
      · refine WC.exit (exit_hit ?_)
        obtain rfl : j = ll.length := by omega
        refine WC.seq (WC.region ?_)
        refine WR.s rfl rfl ?_
        iterate 2 refine WR.sL rfl rfl ?_
        refine WR.nil ?_
        refine WC.ret ⟨_, rfl, ⟨?_, .inr ⟨e0, v, vs, rfl, ?_⟩⟩⟩
        · exact (X3.trans X35).then X6 (fun i hi _ => .inl (by have := X3.size; omega))
        · have hs3 : h.size ≤ h3.size := X3.size
          exact ⟨R6.own.rebase hs3, R6.len, fun q hq => by
            obtain ⟨x, h1, h2⟩ := R6.row q hq
            exact ⟨x, h1, h2.imp id fun o => o.rebase hs3⟩, R6.apart⟩
end Go.Eng
