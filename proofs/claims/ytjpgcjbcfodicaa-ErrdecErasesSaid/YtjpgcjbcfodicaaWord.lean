/- Steps of the proof: lemmas for every input, without conditions but those that each states. -/
import Derived.Test.YtjpgcjbcfodicaaKey
set_option linter.unusedSimpArgs false
set_option linter.unusedVariables false
namespace Go.Eng
section
variable {C : Ctx} {K : K3} {tm lo tg : Env} {h : Heap} {ops : Array Oper} {r : List Oper} {op : Op} {ty : TypeId} {pos : String} {af : Array Edge} {p : Prop} {j dj : Nat} {b want : Bool}
/-- A guarded call that leaves the heap. -/
theorem WG.call {d : Nat} {v0 : Value} {f : Operand} {args : Array Operand} {ats : Array TypeId} {g : FuncId} {l : List Value} {cap A : Array Value} [q : Fun C.P g] (hj : (ops[j]?).bind (·.dst) = some dj)
    (hp : b = want → Spec C.P g A h (fun v h' => v = v0 ∧ h' = h)) (hf : opv (tg ++ tm) lo f = some (.func (.func g) #[] cap)) (ha : opvs (tg ++ tm) lo args.toList = some l) (hA : l.toArray ++ cap = A) (hd : C.isT d = true) (hn : look tm d = none)
    (H : WG C ops dj b want r K ((d, v0) :: tg) tm lo h) : WG C ops dj b want (⟨some d, .call { callee := .value f, args, argTypes := ats }, ty, pos, af, some (j, want)⟩ :: r) K tg tm lo h := by
  intro w0 a w hr hh Fp F hb
  have hy : yielded ops a.tmps j = some b := by simp [yielded, hj, F.at_ hb]
  by_cases e : b = want
  · have hw : Region.wanted ⟨some d, .call { callee := .value f, args, argTypes := ats }, ty, pos, af, some (j, want)⟩ (yielded ops a.tmps) = true := by simp [Region.wanted, hy, e]
    unfold wpList
    rw [if_pos hw]
    refine .inl ?_
    unfold Oper.wp
    rw [call_run (Fp e) w hf ha, hA, Oper.upon_enter]
    refine (hp e w hh).mono ?_
    rintro x w' ⟨r2, r3⟩
    cases x with
    | returned v =>
      obtain ⟨rfl, q2⟩ := r3
      exact H w0 _ w' (hr.trans r2) (q2.trans rfl) (fun _ => (Fp e).putT hd v) (F.cons_undef hd hn v) hb
    | panicked ch => exact r3.elim
    | outgrown => exact r3.elim
  · have hw : Region.wanted ⟨some d, .call { callee := .value f, args, argTypes := ats }, ty, pos, af, some (j, want)⟩ (yielded ops a.tmps) = false := by simp [Region.wanted, hy, e]
    unfold wpList
    rw [hw]
    simp only [Bool.false_eq_true, if_false]
    exact H w0 _ w hr hh (fun q => absurd q e) (F.cons_undef hd hn undef) hb
end
/-- Own whole numbers. -/
def OI (T : TypeId) (h : Heap) (base : Nat) (v : Value) (l : List Int) : Prop := Own h base T 1 v l.length (icells l) ∧ l.length ≤ 17592186044416
theorem OI.nil (T : TypeId) (h : Heap) (base : Nat) : OI T h base (.slice none 0 0) [] := ⟨Own.nil h base T 1, by simp⟩
theorem OI.ext {B : TypeId} {h h' : Heap} {base : Nat} {v : Value} {l : List Int} (o : OI B h base v l) (k : Ext h h') : OI B h' base v l := ⟨o.1.ext k, o.2⟩
theorem OI.upd {T : TypeId} {h h' : Heap} {base : Nat} {v : Value} {l : List Int} (o : OI T h base v l) {i : Nat} (u : Upd i h h') (q : v.ownBlock ≠ some i) : OI T h' base v l := ⟨o.1.upd u q, o.2⟩
theorem OI.rebase {B : TypeId} {h : Heap} {base base' : Nat} {v : Value} {l : List Int} (o : OI B h base v l) (q : base' ≤ base) : OI B h base' v l := ⟨o.1.rebase q, o.2⟩
theorem OI.ints {B : TypeId} {h : Heap} {base : Nat} {v : Value} {l : List Int} (o : OI B h base v l) : Ints (fun b => base ≤ b) h v l :=
  Sl.mono (o.1.sl (Nat.le_trans o.2 (by omega))) (fun b _ e => (o.1.blk e).1) (by omega)
theorem OI.snoc {T : TypeId} {h : Heap} {base : Nat} {v : Value} {l : List Int} {x : Int} (o : Own h base T 1 v (l.length + 1) (icells l ++ [vI x])) (hl : l.length + 1 ≤ 17592186044416) : OI T h base v (l ++ [x]) := by
  refine ⟨?_, by rw [List.length_append]; simpa using hl⟩
  rw [icells_append, List.length_append]
  exact o
theorem errdec_Word_1_spec {h : Heap} (x : UInt8) : Spec PP f_errdec_Word_1 #[vB x] h (fun v h' => v = vb (x != 0) ∧ h' = h) := by
  refine Spec.body (C := c_errdec_Word_1) [(0, vB x)] h_errdec_Word_1 rfl rfl rfl ⟨rfl, trivial⟩ rfl ?_
  refine WC.seq (WC.region ?_)
  refine WR.sL rfl rfl (WR.nil ?_)
  refine WC.seq (WC.region ?_)
  iterate 2 refine WR.s rfl rfl ?_
  refine WR.sL rfl rfl (WR.nil ?_)
  refine WC.ret ⟨_, rfl, ?_, rfl⟩
  show vb (decide ((x.toNat : Int) ≠ 0)) = _
  congr 1
  by_cases c : x = 0
  · subst c; rfl
  · have : (x.toNat : Int) ≠ 0 := fun q => c ((byte0 x).1 q)
    rw [bne_iff_ne.2 c, decide_eq_true this]
theorem nm_lin (a : UInt8) : Nm [a, 1] := nm_of_top (by show (1 : UInt8) ≠ 0; decide)
theorem locP_nm (l : List UInt8) : Nm (locP l) ∧ (locP l).length = l.length + 1 := by
  suffices H : ∀ i, i ≤ l.length → Nm (locP (l.take i)) ∧ (locP (l.take i)).length = i + 1 by have := H l.length (Nat.le_refl _); rwa [List.take_length] at this
  intro i
  induction i with
  | zero => intro _; exact ⟨by show Nm [1]; exact nm_of_top (by decide), rfl⟩
  | succ i ih =>
    intro hi
    obtain ⟨h1, h2⟩ := ih (by omega)
    rw [locP, foldl_take1 _ _ _ _ (by omega)]
    show Nm (mulP (locP (l.take i)) [l[i], 1]) ∧ (mulP (locP (l.take i)) [l[i], 1]).length = _
    refine ⟨nm_mul _ _, ?_⟩
    rw [mul_len h1 (nm_lin _) (List.length_pos_iff.1 (by omega)) (by simp), h2]
    simp
/-- Missing bytes are nought. -/
def erI (w : List UInt8) (ms : List Bool) (i : Nat) : List UInt8 := w.mapIdx fun q x => if q < i ∧ ms.getD q false = true then 0 else x
theorem erI_len (w : List UInt8) (ms : List Bool) (i : Nat) : (erI w ms i).length = w.length := by simp [erI]
theorem erI_zero (w : List UInt8) (ms : List Bool) : erI w ms 0 = w := by
  apply List.ext_getElem (erI_len ..)
  intro q h1 h2
  simp [erI]
theorem erI_skip {w : List UInt8} {ms : List Bool} {i : Nat} (h : ms.getD i false = false) : erI w ms (i + 1) = erI w ms i := by
  apply List.ext_getElem (by simp [erI_len])
  intro q h1 h2
  simp only [erI, List.getElem_mapIdx]
  by_cases e : q = i
  · subst e; rw [if_neg (by rw [h]; simp), if_neg (by omega)]
  · by_cases c : q < i ∧ ms.getD q false = true
    · rw [if_pos c, if_pos ⟨by omega, c.2⟩]
    · rw [if_neg c, if_neg (fun z => c ⟨by omega, z.2⟩)]
theorem erI_hit {w : List UInt8} {ms : List Bool} {i : Nat} (hi : i < w.length) (h : ms.getD i false = true) : (erI w ms i).set i 0 = erI w ms (i + 1) := by
  apply List.ext_getElem (by simp [erI_len])
  intro q h1 h2
  rw [List.getElem_set]
  simp only [erI, List.getElem_mapIdx]
  by_cases e : i = q
  · subst e; rw [if_pos rfl, if_pos ⟨by omega, h⟩]
  · rw [if_neg e]
    by_cases c : q < i ∧ ms.getD q false = true
    · rw [if_pos c, if_pos ⟨by omega, c.2⟩]
    · rw [if_neg c, if_neg (fun z => c ⟨by omega, z.2⟩)]
/-- The missing places. -/
def knI (ms : List Bool) (i : Nat) : List UInt8 := ((List.range i).filter fun q => ms.getD q false).map UInt8.ofNat
theorem knI_succ (ms : List Bool) (i : Nat) : knI ms (i + 1) = if ms.getD i false = true then knI ms i ++ [UInt8.ofNat i] else knI ms i := by
  unfold knI
  rw [List.range_succ, List.filter_append]
  by_cases c : ms.getD i false = true
  · rw [if_pos c, List.map_append]; simp [List.getD_eq_getElem?_getD] at c ⊢; simp [c]
  · rw [if_neg c]; simp [List.getD_eq_getElem?_getD] at c ⊢; simp [c]
theorem knI_le (ms : List Bool) (i : Nat) : (knI ms i).length ≤ i := by
  unfold knI
  rw [List.length_map]
  have := List.length_filter_le (fun q => ms.getD q false) (List.range i)
  rwa [List.length_range] at this
/-- Forney's steps. -/
def wdI (k m : Nat) (ms : List Bool) (full slope o out : List UInt8) : Nat → List UInt8 × List Int × Nat
  | 0 => (out, [], 0)
  | i + 1 =>
    let r := wdI k m ms full slope o out i
    if evalP full (UInt8.ofNat i) ≠ 0 then r
    else (r.1.set i (r.1.getD i 0 ^^^ gmul (evalP o (UInt8.ofNat i)) (ginv (gmul (evalP slope (UInt8.ofNat i)) (wgt k m i)))), if ms.getD i false = true then r.2.1 else r.2.1 ++ [(i : Int)], r.2.2 + 1)
theorem wdI_len (k m : Nat) (ms : List Bool) (full slope o out : List UInt8) : ∀ i, (wdI k m ms full slope o out i).1.length = out.length ∧ (wdI k m ms full slope o out i).2.1.length ≤ i ∧ (wdI k m ms full slope o out i).2.2 ≤ i
  | 0 => by simp [wdI]
  | i + 1 => by
    have ih := wdI_len k m ms full slope o out i
    rw [wdI]
    split
    · exact ⟨ih.1, by omega, by omega⟩
    · refine ⟨by rw [List.length_set]; exact ih.1, ?_, by dsimp only; omega⟩
      dsimp only
      split
      · omega
      · rw [List.length_append]; simp; omega
/-- A word put right. -/
def wordP (k m : Nat) (w : List UInt8) (ms : List Bool) : Option (List UInt8 × List Int) :=
  if (knI ms (k + m)).length > m then none
  else match solveP (synP k m (erI w ms (k + m))) (locP (knI ms (k + m))) with
    | none => none
    | some q =>
      let full := mulP q.1 (locP (knI ms (k + m)))
      let r := wdI k m ms full (derivP full) q.2 (erI w ms (k + m)) (k + m)
      if (r.2.2 : Int) ≠ (full.length : Int) - 1 ∨ (synP k m r.1).any (· != 0) = true then none else some (r.1, r.2.1)
end Go.Eng
