/- Steps of the proof: lemmas for every input, without conditions but those that each states. -/
import Derived.Test.YtjpgcjbcfodicaaEngB
set_option linter.unusedSimpArgs false
set_option linter.unusedVariables false
namespace Go.Eng
section
variable {C : Ctx} {K : K3} {tm lo tg : Env} {h : Heap} {ops : Array Oper} {r : List Oper} {op : Op} {ty : TypeId} {pos : String} {af : Array Edge}

/-! ### Slicing -/
/-- The value of x[l:h]. -/
def subv (sz : Nat) (v : Value) (l hi : Nat) : Value :=
  match v with
  | .slice A n cap => .slice (if cap = l then A else A.map (·.add (l * sz))) (hi - l) (cap - l)
  | v => v
def capOf : Value → Nat
  | .slice _ _ c => c
  | _ => 0
theorem RunsV.sub2 {x lx hx : Operand} {T E : TypeId} {z : Value} {sz bytes : Nat} [u : Und C.P T (.slice E)] [e : Inf C.P E z sz bytes] {v : Value} {n : Nat} {kl kh : IntKind} {a b : Int} (l hi : Nat)
    (hv : opv tm lo x = some v) (hl : opv tm lo lx = some (.int kl a)) (hh : opv tm lo hx = some (.int kh b)) (hf : ∃ A cap, v = .slice A n cap) (ha : a = l) (hb : b = hi) (h1 : l ≤ hi) (h2 : hi ≤ capOf v) :
    RunsV C tm lo h (.slice T x (some lx) (some hx) none) (subv sz v l hi) := fun c w F _ _ _ _ _ _ => by
  obtain ⟨A, cap, rfl⟩ := hf
  obtain ⟨info, i1, i2, i3, i4⟩ := e.parts
  subst ha; subst hb
  simp only [capOf] at h2
  simp [execOp, F.eval hv, F.eval hl, F.eval hh, Instr.sliceAt, Instr.slice, underlying, u.h, Instr.sliceBounds, Instr.sliceBound, asIntOf, sizeOf, typeInfo, i1, i3, h1, h2, subv]
theorem RunsV.subH {x hx : Operand} {T E : TypeId} {z : Value} {sz bytes : Nat} [u : Und C.P T (.slice E)] [e : Inf C.P E z sz bytes] {v : Value} {n : Nat} {kh : IntKind} {b : Int} (hi : Nat)
    (hv : opv tm lo x = some v) (hh : opv tm lo hx = some (.int kh b)) (hf : ∃ A cap, v = .slice A n cap) (hb : b = hi) (h2 : hi ≤ capOf v) :
    RunsV C tm lo h (.slice T x none (some hx) none) (subv sz v 0 hi) := fun c w F _ _ _ _ _ _ => by
  obtain ⟨A, cap, rfl⟩ := hf
  obtain ⟨info, i1, i2, i3, i4⟩ := e.parts
  subst hb
  simp only [capOf] at h2
  simp [execOp, F.eval hv, F.eval hh, Instr.sliceAt, Instr.slice, underlying, u.h, Instr.sliceBounds, Instr.sliceBound, asIntOf, sizeOf, typeInfo, i1, i3, h2, subv]
theorem RunsV.subL {x lx : Operand} {T E : TypeId} {z : Value} {sz bytes : Nat} [u : Und C.P T (.slice E)] [e : Inf C.P E z sz bytes] {v : Value} {n : Nat} {kl : IntKind} {a : Int} (l : Nat)
    (hv : opv tm lo x = some v) (hl : opv tm lo lx = some (.int kl a)) (hf : ∃ A cap, v = .slice A n cap) (ha : a = l) (h1 : l ≤ n) :
    RunsV C tm lo h (.slice T x (some lx) none none) (subv sz v l n) := fun c w F _ _ _ _ _ _ => by
  obtain ⟨A, cap, rfl⟩ := hf
  obtain ⟨info, i1, i2, i3, i4⟩ := e.parts
  subst ha
  simp [execOp, F.eval hv, F.eval hl, Instr.sliceAt, Instr.slice, underlying, u.h, Instr.sliceBounds, Instr.sliceBound, asIntOf, sizeOf, typeInfo, i1, i3, h1, subv]

theorem Sl.cap {S : Nat → Prop} {sz n : Nat} {v : Value} {cs : List Value} (x : Sl S h sz v n cs) : n ≤ capOf v := by
  obtain ⟨_, _, A, cap, rfl, q, _⟩ := x; exact q
theorem Own.cap {base T sz n : Nat} {v : Value} {xs : List Value} (o : Own h base T sz v n xs) : n ≤ capOf v := by
  rcases o.2 with ⟨rfl, rfl⟩ | ⟨g, cap, cur, rfl, _, _, q, _⟩
  · exact Nat.zero_le _
  · exact q
theorem Sl.sub {S : Nat → Prop} {sz n : Nat} {v : Value} {cs : List Value} (x : Sl S h sz v n cs) {l hi : Nat} (h1 : l ≤ hi) (h2 : hi ≤ n) : Sl S h sz (subv sz v l hi) (hi - l) ((cs.drop (l * sz)).take ((hi - l) * sz)) := by
  obtain ⟨q1, q2, A, cap, rfl, q3, q0, q4⟩ := x
  have hle : hi * sz ≤ n * sz := Nat.mul_le_mul_right _ h2
  have hsub : (hi - l) * sz = hi * sz - l * sz := Nat.sub_mul hi l sz
  refine ⟨by rw [List.length_take, List.length_drop, q1, hsub]; omega, by omega, _, cap - l, rfl, by omega, ?_, fun hn => ?_⟩
  · intro e
    by_cases c : cap = l
    · omega
    · rw [if_neg c] at e
      cases A with
      | none => rw [q0 rfl]; omega
      | some a => cases e
  · obtain ⟨b, off, rfl, s, g⟩ := q4 (by omega)
    refine ⟨b, off + l * sz, ?_, s, fun j hj => ?_⟩
    · rw [if_neg (by omega)]; simp [add_plain]
    · rw [List.getElem?_take, if_pos hj, List.getElem?_drop, Nat.add_assoc, g (l * sz + j) (by rw [hsub] at hj; omega)]
/-- x[:hi] of an own row is one. -/
theorem Own.take {base T sz n : Nat} {v : Value} {xs : List Value} (o : Own h base T sz v n xs) {hi : Nat} (h2 : hi ≤ n) : Own h base T sz (subv sz v 0 hi) hi (xs.take (hi * sz)) := by
  have hle : hi * sz ≤ n * sz := Nat.mul_le_mul_right _ h2
  refine ⟨by rw [List.length_take, o.1]; omega, ?_⟩
  rcases o.2 with ⟨rfl, rfl⟩ | ⟨g, cap, cur, rfl, h3, h4, h5, h6, h7, h8⟩
  · obtain rfl : hi = 0 := by omega
    exact .inl ⟨by simp [subv], rfl⟩
  · refine .inr ⟨g, cap, cur, ?_, h3, h4, by omega, h6, h7, ?_⟩
    · simp [subv, Addr.add]
    · rw [← h8, List.take_take, Nat.min_eq_left hle]
theorem subv_own {sz n : Nat} {v : Value} {hi : Nat} (hf : ∃ A cap, v = .slice A n cap) : (subv sz v 0 hi).ownBlock = v.ownBlock := by
  obtain ⟨A, cap, rfl⟩ := hf
  cases A with
  | none => simp [subv, Value.ownBlock]
  | some a =>
    simp only [subv, Value.ownBlock]
    by_cases c : cap = 0
    · rw [if_pos c]
    · rw [if_neg c]; simp [Addr.add]
end

/-! ### Rows of bytes -/
theorem Bytes.mono {S T : Nat → Prop} {h : Heap} {v : Value} {l : List UInt8} (x : Bytes S h v l) (k : ∀ b, b < h.size → S b → T b) : Bytes T h v l := Sl.mono x k (by omega)
theorem Bytes.keep {S T : Nat → Prop} {h h' : Heap} {v : Value} {l : List UInt8} (x : Bytes S h v l) (k : Keeps T h h') (q : ∀ b, b < h.size → S b → T b) : Bytes S h' v l := Sl.keep x k q
theorem Bytes.ext {S : Nat → Prop} {h h' : Heap} {v : Value} {l : List UInt8} (x : Bytes S h v l) (k : Ext h h') : Bytes S h' v l := Sl.ext x k
theorem Bytes.nil (S : Nat → Prop) (h : Heap) : Bytes S h (.slice none 0 0) [] := Sl.nil S h 1
theorem bcells_get {l : List UInt8} {i : Nat} (hi : i < l.length) : (bcells l)[i]? = some (vB l[i]) := by simp [bcells, hi]
theorem icells_get {l : List Int} {i : Nat} (hi : i < l.length) : (icells l)[i]? = some (vI l[i]) := by simp [icells, hi]
theorem tcells_get {l : List Bool} {i : Nat} (hi : i < l.length) : (tcells l)[i]? = some (.bool l[i]) := by simp [tcells, hi]
theorem bcells_one (l : List UInt8) : ∀ u ∈ bcells l, oneCell u = true := by intro u hu; simp [bcells] at hu; obtain ⟨x, _, rfl⟩ := hu; rfl
theorem icells_one (l : List Int) : ∀ u ∈ icells l, oneCell u = true := by intro u hu; simp [icells] at hu; obtain ⟨x, _, rfl⟩ := hu; rfl
theorem bcells_append (l k : List UInt8) : bcells (l ++ k) = bcells l ++ bcells k := by simp [bcells]
theorem icells_append (l k : List Int) : icells (l ++ k) = icells l ++ icells k := by simp [icells]
theorem bcells_set (l : List UInt8) (i : Nat) (x : UInt8) : (bcells l).set i (vB x) = bcells (l.set i x) := by simp [bcells, List.map_set]
theorem bcells_take (l : List UInt8) (n : Nat) : (bcells l).take n = bcells (l.take n) := by simp [bcells, List.map_take]
theorem bcells_drop (l : List UInt8) (n : Nat) : (bcells l).drop n = bcells (l.drop n) := by simp [bcells, List.map_drop]
theorem bcells_rep (n : Nat) (x : UInt8) : List.replicate n (vB x) = bcells (List.replicate n x) := by simp [bcells]
theorem icells_rep (n : Nat) (x : Int) : List.replicate n (vI x) = icells (List.replicate n x) := by simp [icells]
theorem tcells_rep (n : Nat) (x : Bool) : List.replicate n (.bool x) = tcells (List.replicate n x) := by simp [tcells]
theorem Bytes.sub {S : Nat → Prop} {h : Heap} {v : Value} {l : List UInt8} (x : Bytes S h v l) {a b : Nat} (h1 : a ≤ b) (h2 : b ≤ l.length) : Bytes S h (subv 1 v a b) ((l.drop a).take (b - a)) := by
  have := Sl.sub x h1 h2
  simp only [Nat.mul_one] at this
  rw [bcells_drop, bcells_take] at this
  have e : ((l.drop a).take (b - a)).length = b - a := by rw [List.length_take, List.length_drop]; omega
  unfold Bytes
  rw [e]
  exact this

/-- Own bytes. B: the byte type's number. -/
def OB (B : TypeId) (h : Heap) (base : Nat) (v : Value) (l : List UInt8) : Prop := Own h base B 1 v l.length (bcells l) ∧ l.length ≤ 140737488355328
theorem OB.bytes {B : TypeId} {h : Heap} {base : Nat} {v : Value} {l : List UInt8} (o : OB B h base v l) : Bytes (fun b => base ≤ b) h v l :=
  Sl.mono (o.1.sl o.2) (fun b _ e => (o.1.blk e).1) (by omega)
theorem OB.ext {B : TypeId} {h h' : Heap} {base : Nat} {v : Value} {l : List UInt8} (o : OB B h base v l) (k : Ext h h') : OB B h' base v l := ⟨o.1.ext k, o.2⟩
theorem OB.keep {B : TypeId} {h h' : Heap} {base : Nat} {v : Value} {l : List UInt8} (o : OB B h base v l) {S : Nat → Prop} (k : Keeps S h h') (s : ∀ b, v.ownBlock = some b → S b) : OB B h' base v l := ⟨o.1.keep k s, o.2⟩
theorem OB.nil (B : TypeId) (h : Heap) (base : Nat) : OB B h base (.slice none 0 0) [] := ⟨Own.nil h base B 1, by simp⟩
theorem OB.rebase {B : TypeId} {h : Heap} {base base' : Nat} {v : Value} {l : List UInt8} (o : OB B h base v l) (q : base' ≤ base) : OB B h base' v l := ⟨o.1.rebase q, o.2⟩
/-- A step that writes an own row alone, seen from an older heap. -/
theorem Keeps.own {S : Nat → Prop} {a h h' : Heap} {v : Value} {base T sz n : Nat} {xs : List Value} (x : Keeps S a h) (o : Own h base T sz v n xs) (hb : a.size ≤ base) (k : Keeps (fun b => v.ownBlock ≠ some b) h h') : Keeps S a h' :=
  ⟨Nat.le_trans x.size k.size, fun i hi s => (k.blk i (Nat.lt_of_lt_of_le hi x.size) (fun e => by have := (o.blk e).1; omega)).trans (x.blk i hi s)⟩
/-- A row of rows of bytes, to be read. -/
def BytesL (S : Nat → Prop) (h : Heap) (v : Value) (ll : List (List UInt8)) : Prop :=
  ∃ vs, Sl S h 1 v ll.length vs ∧ ∀ i (hi : i < ll.length), ∃ u, vs[i]? = some u ∧ Bytes S h u ll[i]
theorem BytesL.mono {S T : Nat → Prop} {h : Heap} {v : Value} {l : List (List UInt8)} (x : BytesL S h v l) (k : ∀ b, b < h.size → S b → T b) : BytesL T h v l := by
  obtain ⟨vs, q, g⟩ := x
  exact ⟨vs, q.mono k (by omega), fun i hi => let ⟨u, e, b⟩ := g i hi; ⟨u, e, b.mono k⟩⟩
theorem BytesL.keep {S T : Nat → Prop} {h h' : Heap} {v : Value} {l : List (List UInt8)} (x : BytesL S h v l) (k : Keeps T h h') (q : ∀ b, b < h.size → S b → T b) : BytesL S h' v l := by
  obtain ⟨vs, q1, g⟩ := x
  exact ⟨vs, q1.keep k q, fun i hi => let ⟨u, e, b⟩ := g i hi; ⟨u, e, b.keep k q⟩⟩
theorem BytesL.ext {S : Nat → Prop} {h h' : Heap} {v : Value} {l : List (List UInt8)} (x : BytesL S h v l) (k : Ext h h') : BytesL S h' v l := x.keep k fun _ _ _ => trivial
theorem BytesL.sl {S : Nat → Prop} {h : Heap} {v : Value} {l : List (List UInt8)} (x : BytesL S h v l) : ∃ vs, Sl S h 1 v l.length vs := let ⟨vs, q, _⟩ := x; ⟨vs, q⟩
/-- Own rows of bytes: a row of one's own of rows that are read; none of these lies in its block. -/
def OBL (B2 : TypeId) (T : Nat → Prop) (h : Heap) (base : Nat) (v : Value) (ll : List (List UInt8)) : Prop :=
  ∃ vs, Own h base B2 1 v ll.length vs ∧ ll.length ≤ 140737488355328 ∧ ∀ i (hi : i < ll.length), ∃ u, vs[i]? = some u ∧ Bytes (fun b => T b ∧ v.ownBlock ≠ some b) h u ll[i]
theorem OBL.nil (B2 : TypeId) (T : Nat → Prop) (h : Heap) (base : Nat) : OBL B2 T h base (.slice none 0 0) [] := ⟨[], Own.nil h base B2 1, by simp, fun i hi => absurd hi (by simp)⟩
theorem OBL.read {B2 : TypeId} {T : Nat → Prop} {h : Heap} {base : Nat} {v : Value} {ll : List (List UInt8)} (o : OBL B2 T h base v ll) : BytesL (fun b => base ≤ b ∨ T b) h v ll := by
  obtain ⟨vs, o, hn, g⟩ := o
  exact ⟨vs, Sl.mono (o.sl hn) (fun b _ e => .inl (o.blk e).1) (by omega), fun i hi => let ⟨u, e, b⟩ := g i hi; ⟨u, e, b.mono fun _ _ q => .inr q.1⟩⟩
theorem OBL.keep {B2 : TypeId} {T S : Nat → Prop} {h h' : Heap} {base : Nat} {v : Value} {ll : List (List UInt8)} (o : OBL B2 T h base v ll) (k : Keeps S h h') (s : ∀ b, b < h.size → base ≤ b ∨ T b → S b) : OBL B2 T h' base v ll := by
  obtain ⟨vs, o, hn, g⟩ := o
  exact ⟨vs, o.keep k (fun b e => s b (o.blk e).2 (.inl (o.blk e).1)), hn, fun i hi => let ⟨u, e, b⟩ := g i hi; ⟨u, e, b.keep k fun b hb q => s b hb (.inr q.1)⟩⟩
theorem OBL.ext {B2 : TypeId} {T : Nat → Prop} {h h' : Heap} {base : Nat} {v : Value} {ll : List (List UInt8)} (o : OBL B2 T h base v ll) (k : Ext h h') : OBL B2 T h' base v ll := o.keep k fun _ _ _ => trivial
end Go.Eng
namespace Go.Eng
/-- Ways meet again behind a condition that writes one slot. -/
abbrev cut1K (t : Nat) (lo : Env) (I : Value → Heap → Prop) (K : K3) : K3
  | .normal => fun _ lo' h => ∃ v, (∀ s u, look ((t, v) :: lo) s = some u → look lo' s = some u) ∧ I v h
  | x => K x
theorem WC.cut1 {C : Ctx} {K : K3} {tm lo : Env} {h : Heap} {x y : Code} (t : Nat) (I : Value → Heap → Prop) (ht : C.mask.testBit t = true) (H1 : WC C x (cut1K t lo I K) tm lo h) (H2 : ∀ v h, I v h → WC C y K [] ((t, v) :: lo) h) : WC C (.seq x y) K tm lo h := by
  refine WC.seq fun w0 a w hr hh F => wp_mono (H1 w0 a w hr hh F) ?_
  rintro e a w ⟨r, tm, lo', F, k⟩
  cases e with
  | normal =>
    obtain ⟨v, h1, h2⟩ := k
    exact ⟨r, [], (t, v) :: lo, F.sub h1, H2 v _ h2⟩
  | _ => exact ⟨r, tm, lo', F, k⟩
theorem cut1_hit {K : K3} {tm lo : Env} {h : Heap} {t : Nat} {v : Value} {I : Value → Heap → Prop} (H : I v h) : cut1K t lo I K .normal tm ((t, v) :: lo) h := ⟨v, fun _ _ q => q, H⟩
theorem cut1_same {K : K3} {tm lo : Env} {h : Heap} {t : Nat} {v : Value} {I : Value → Heap → Prop} (e : look lo t = some v) (H : I v h) : cut1K t lo I K .normal tm lo h :=
  ⟨v, fun s u q => by
    simp only [look] at q
    by_cases c : s = t
    · subst c; rw [beq_self] at q; simp at q; subst q; exact e
    · rw [beq_ne c] at q; exact q, H⟩
theorem Keeps.blks {S : Nat → Prop} {a b : Heap} (x : Keeps S a b) {i : Nat} (hi : i < a.size) (s : S i) : b[i]? = a[i]? := x.blk i hi s
end Go.Eng
namespace Go.Eng
/-- A row that is filled from its begin on. -/
def mix {α : Type} (A Z : List α) (i : Nat) : List α := A.take i ++ Z.drop i
theorem mix_zero {α : Type} (A Z : List α) : mix A Z 0 = Z := by simp [mix]
theorem mix_full {α : Type} {A Z : List α} {i : Nat} (h : A.length = Z.length) (hi : i = A.length) : mix A Z i = A := by subst hi; rw [mix, h, List.drop_length, List.append_nil, ← h, List.take_length]
theorem mix_length {α : Type} {A Z : List α} {i : Nat} (h : A.length = Z.length) : (mix A Z i).length = A.length := by simp [mix]; omega
theorem mix_set {α : Type} {A Z : List α} {i : Nat} (h : A.length = Z.length) (hi : i < A.length) : (mix A Z i).set i A[i] = mix A Z (i + 1) := by
  apply List.ext_getElem?
  intro j
  have ht : (A.take i).length = i := by rw [List.length_take]; omega
  have ht2 : (A.take (i + 1)).length = i + 1 := by rw [List.length_take]; omega
  rw [List.getElem?_set, mix_length h]
  simp only [mix, List.getElem?_append, ht, ht2, List.getElem?_take, List.getElem?_drop]
  by_cases e : i = j
  · subst e
    simp [hi]
  · by_cases q : j < i
    · simp [e, q, show j < i + 1 by omega]
    · rw [if_neg e, if_neg q, if_neg (by omega)]
      congr 1
      omega
theorem mix_get {α : Type} {A Z : List α} {i j : Nat} (h : A.length = Z.length) (hj : i ≤ j) (hi : i ≤ A.length) : (mix A Z i)[j]? = Z[j]? := by
  have ht : (A.take i).length = i := by rw [List.length_take]; omega
  simp only [mix, List.getElem?_append, ht, List.getElem?_drop]
  rw [if_neg (by omega)]
  congr 1
  omega
theorem Bytes.any {S : Nat → Prop} {h : Heap} {v : Value} {l : List UInt8} (x : Bytes S h v l) : Bytes (fun _ => True) h v l := x.mono fun _ _ _ => trivial
theorem BytesL.any {S : Nat → Prop} {h : Heap} {v : Value} {l : List (List UInt8)} (x : BytesL S h v l) : BytesL (fun _ => True) h v l := x.mono fun _ _ _ => trivial
theorem OB.any {B : TypeId} {h : Heap} {base : Nat} {v : Value} {l : List UInt8} (o : OB B h base v l) : Bytes (fun _ => True) h v l := o.bytes.any
section
variable {C : Ctx} {K : K3} {tm lo tg : Env} {h : Heap} {ops : Array Oper} {r : List Oper} {op : Op} {ty : TypeId} {pos : String} {af : Array Edge}
/-- []T{x, y}. -/
theorem Runs.bs2 {T E : TypeId} {z : Value} {bytes : Nat} [u : Und C.P T (.slice E)] [i : Inf C.P E z 1 bytes] (hz : z.cells = #[z]) {x y : Operand} {a b : Value} (hx : opv tm lo x = some a) (hy : opv tm lo y = some b) (h1 : oneCell a = true) (h2 : oneCell b = true) :
    Runs C tm lo h (.buildSlice T 2 #[(0, x), (1, y)]) (fun v h' => v = .slice (some ⟨h.size, 0, none⟩) 2 2 ∧ h' = h.push (.cells #[a, b] E (0, 0))) := fun c w F hh _ _ _ _ _ => by
  subst hh
  obtain ⟨info, hi, hi1, hi2, hi3⟩ := i.parts
  refine ⟨_, { w with heap := w.heap.push (.cells #[a, b] E (0, 0)) }, ?_, ⟨rfl, rfl, rfl⟩, rfl, rfl⟩
  have hca := oneCell_cells h1
  have hcb := oneCell_cells h2
  simp [execOp, Instr.buildSlice, underlying, u.h, sizeOf, typeInfo, hi, hi1, hi2, zeroValue, hz, Instr.fill, F.eval hx, F.eval hy, hca, hcb, newRow]
  have : ((Array.map (fun x => [z][x % 1]?.getD default) (Array.range 2)).setIfInBounds 0 a).setIfInBounds 1 b = #[a, b] := by
    apply Array.ext
    · simp
    · intro i h1 h2
      have : i = 0 ∨ i = 1 := by simp at h2; omega
      rcases this with rfl | rfl <;> simp
  first | rw [this]; rfl | exact congrArg (fun q => w.alloc (Obj.cells q E)) this
/-- A row that was just laid out. -/
theorem Sl.lit {h : Heap} {cs : List Value} {E : TypeId} (hn : cs.length ≤ 140737488355328) : Sl (fun b => b = h.size) (h.push (.cells cs.toArray E (0, 0))) 1 (.slice (some ⟨h.size, 0, none⟩) cs.length cs.length) cs.length cs :=
  ⟨by simp, hn, _, cs.length, rfl, Nat.le_refl _, fun q => (nomatch q), fun _ => ⟨h.size, 0, rfl, rfl, fun j hj => by simp [hc]⟩⟩
theorem BytesL.one {S : Nat → Prop} {h : Heap} {u : Value} {l : List UInt8} {E : TypeId} (B : Bytes S h u l) : BytesL (fun _ => True) (h.push (.cells #[u] E (0, 0))) (.slice (some ⟨h.size, 0, none⟩) 1 1) [l] :=
  ⟨[u], Sl.mono (Sl.lit (cs := [u]) (by simp)) (fun _ _ _ => trivial) (by omega), fun i hi => by
    have : i = 0 := by simpa using hi
    subst this
    exact ⟨u, rfl, (B.ext ((Ext.refl _).push _)).any⟩⟩
theorem BytesL.two {S : Nat → Prop} {h : Heap} {u w : Value} {l k : List UInt8} {E : TypeId} (B : Bytes S h u l) (D : Bytes S h w k) : BytesL (fun _ => True) (h.push (.cells #[u, w] E (0, 0))) (.slice (some ⟨h.size, 0, none⟩) 2 2) [l, k] :=
  ⟨[u, w], Sl.mono (Sl.lit (cs := [u, w]) (by simp)) (fun _ _ _ => trivial) (by omega), fun i hi => by
    have : i = 0 ∨ i = 1 := by simp at hi; omega
    rcases this with rfl | rfl
    · exact ⟨u, rfl, (B.ext ((Ext.refl _).push _)).any⟩
    · exact ⟨w, rfl, (D.ext ((Ext.refl _).push _)).any⟩⟩
theorem Bytes.one1 {S : Nat → Prop} {h : Heap} {v : Value} {l : List UInt8} (B : Bytes S h v l) : oneCell v = true := by
  obtain ⟨A, cap, rfl⟩ := Sl.form B; rfl
theorem OB.one1 {B : TypeId} {h : Heap} {base : Nat} {v : Value} {l : List UInt8} (o : OB B h base v l) : oneCell v = true := by
  obtain ⟨A, cap, rfl⟩ := o.1.form; rfl
/-- append(s, y), y a row of bytes: into a temporary. -/
theorem WR.apBT {base B2 bytes : Nat} {T : TypeId} {z : Value} [q : Und C.P T (.slice B2)] [i : Inf C.P B2 z 1 bytes] {s y : Operand} {v u : Value} {ll : List (List UInt8)} {l : List UInt8} {TT S : Nat → Prop} {d1 d2 : Nat} {ty' : TypeId} {pos' : String} {af' : Array Edge}
    (O : OBL B2 TT h base v ll) (B : Bytes S h u l) (hS : ∀ b, b < h.size → S b → TT b ∧ v.ownBlock ≠ some b) (hbase : base ≤ h.size) (hy : opv tm lo y = some u) (hd1 : C.isT d1 = true) (hs : ∀ x, opv ((d1, x) :: tm) lo s = some v) (hd2 : C.isT d2 = true) (hz : z.cells = #[z]) (hb : (ll.length + 1) * bytes ≤ 140737488355328) (hb0 : 0 < bytes)
    (H : ∀ x v' h', OBL B2 TT h' base v' (ll ++ [l]) → Keeps (fun b => v.ownBlock ≠ some b) h h' → Grew h v v' → WR C ops r K ((d2, v') :: (d1, x) :: tm) lo h') :
    WR C ops (⟨some d1, .buildSlice T 1 #[(0, y)], ty, pos, af, none⟩ :: ⟨some d2, .call { callee := .builtin .append, args := #[s, .tmp d1], argTypes := #[T, T] }, ty', pos', af', none⟩ :: r) K tm lo h := by
  obtain ⟨vs, o, hn, g⟩ := O
  refine WR.ap1T o hbase hy hd1 hs hd2 B.one1 hz hb hb0 fun x v' h' o' k gr => H x v' h' ?_ k gr
  have hlt : ll.length + 1 ≤ 140737488355328 := Nat.le_trans (Nat.le_mul_of_pos_right _ hb0) hb
  have hvs : vs.length = ll.length := by simpa using o.1
  have tr : ∀ b, b < h.size → v.ownBlock ≠ some b → v'.ownBlock ≠ some b := by
    intro b hb' ne
    rcases gr with e | ⟨g, e, q⟩
    · rw [e]; exact ne
    · rw [e]; intro q2; simp at q2; omega
  refine ⟨vs ++ [u], by simpa using o', by simpa using hlt, fun i hi => ?_⟩
  by_cases e : i < ll.length
  · obtain ⟨y, e1, e2⟩ := g i e
    refine ⟨y, by rw [List.getElem?_append_left (by omega)]; exact e1, ?_⟩
    rw [List.getElem_append_left e]
    exact (e2.mono fun b hb q => (⟨q, hb⟩ : (TT b ∧ v.ownBlock ≠ some b) ∧ b < h.size)).keep k (fun b _ q => q.1.2) |>.mono fun b _ q => ⟨q.1.1, tr b q.2 q.1.2⟩
  · have : i = ll.length := by simp at hi; omega
    subst this
    refine ⟨u, by rw [List.getElem?_append_right (by omega)]; simp [hvs], ?_⟩
    have e2 : (ll ++ [l])[ll.length]'(by simp) = l := by simp
    rw [e2]
    exact (B.mono fun b hb q => (⟨hS b hb q, hb⟩ : (TT b ∧ v.ownBlock ≠ some b) ∧ b < h.size)).keep k (fun b _ q => q.1.2) |>.mono fun b _ q => ⟨q.1.1, tr b q.2 q.1.2⟩
end
end Go.Eng
namespace Go.Eng
/-- A struct or an array, of n cells. -/
class Ag (P : Program) (T : TypeId) (n : outParam Nat) : Prop where
  h : (match P.underlying T with | some (.struct _) => true | some (.array _ _) => true | _ => false) = true ∧ (P.info? T).map (·.size) = some n
/-- A whole block. -/
def Blk (h : Heap) (b : Nat) (cs : List Value) (T : TypeId) : Prop := h[b]? = some (.cells cs.toArray T (0, 0))
theorem Blk.lt {h : Heap} {b : Nat} {cs : List Value} {T : TypeId} (B : Blk h b cs T) : b < h.size := (Array.getElem?_eq_some_iff.1 B).1
theorem Blk.keep {S : Nat → Prop} {h h' : Heap} {b : Nat} {cs : List Value} {T : TypeId} (B : Blk h b cs T) (k : Keeps S h h') (s : S b) : Blk h' b cs T := (k.blk b B.lt s).trans B
theorem Blk.ext {h h' : Heap} {b : Nat} {cs : List Value} {T : TypeId} (B : Blk h b cs T) (k : Ext h h') : Blk h' b cs T := B.keep k trivial
theorem Blk.upd {h h' : Heap} {b i : Nat} {cs : List Value} {T : TypeId} (B : Blk h b cs T) (u : Upd i h h') (q : b ≠ i) : Blk h' b cs T := (u.2 b q).trans B
theorem Blk.hc {h : Heap} {b : Nat} {cs : List Value} {T : TypeId} (B : Blk h b cs T) (j : Nat) : hc h b j = cs[j]? := by unfold Blk at B; simp [Eng.hc, B]
theorem Box.upd {h h' : Heap} {b i : Nat} {E : TypeId} {u : Value} (B : Box h b E u) (q : Upd i h h') (ne : b ≠ i) : Box h' b E u := (q.2 b ne).trans B
theorem Sl.upd {S : Nat → Prop} {h h' : Heap} {sz n i : Nat} {v : Value} {cs : List Value} (x : Sl S h sz v n cs) (u : Upd i h h') (q : ∀ b, b < h.size → S b → b ≠ i) : Sl S h' sz v n cs := x.keep u.ext q
section
variable {C : Ctx} {K : K3} {tm lo tg : Env} {h : Heap} {ops : Array Oper} {r : List Oper} {op : Op} {ty : TypeId} {pos : String} {af : Array Edge}

theorem run_loadCells (P : Program) (w : World) (b o : Nat) (cs : List Value) : ∀ (n i : Nat) (acc : Array Value), i + n = cs.length → (∀ j, j < cs.length → hc w.heap b (o + j) = cs[j]?) →
    (loadCellsFrom ⟨b, o, none⟩ i n acc).run P w = .ok (acc ++ (cs.drop i).toArray) w
  | 0, i, acc, hi, _ => by
    have : cs.drop i = [] := List.drop_eq_nil_of_le (by omega)
    simp [loadCellsFrom, this]
  | n + 1, i, acc, hi, hcs => by
    have h1 := hcs i (by omega)
    rw [← cell_hc, List.getElem?_eq_getElem (by omega)] at h1
    have ih := run_loadCells P w b o cs n (i + 1) (acc.push cs[i]) (by omega) hcs
    simp only [loadCellsFrom, Sem.run_bind, add_plain, run_load, h1, Result.andThen_ok, ih]
    rw [List.drop_eq_getElem_cons (show i < cs.length by omega)]
    congr 1
    apply Array.ext'
    simp
theorem RunsV.ldA {T : TypeId} {n : Nat} [q : Ag C.P T n] {x : Operand} {b o : Nat} (cs : List Value) (hx : opv tm lo x = some (.pointer (some ⟨b, o, none⟩))) (hn : cs.length = n) (hcs : ∀ j, j < cs.length → hc h b (o + j) = cs[j]?) :
    RunsV C tm lo h (.load T x) (.agg cs.toArray) := fun c w F hh _ _ _ _ _ => by
  subst hh
  obtain ⟨q1, q2⟩ := q.h
  obtain ⟨info, hi, hs⟩ := Option.map_eq_some_iff.1 q2
  have hr := run_loadCells C.P w b o cs n 0 #[] (by omega) hcs
  simp at hr
  split at q1
  · rename_i fs hu
    simp [execOp, F.eval hx, Instr.loadAt, Instr.sureAddr, loadVar, isAgg, underlying, hu, sizeOf, typeInfo, hi, hs, loadCells, hr]
  · rename_i m e hu
    simp [execOp, F.eval hx, Instr.loadAt, Instr.sureAddr, loadVar, isAgg, underlying, hu, sizeOf, typeInfo, hi, hs, loadCells, hr]
  · cases q1
theorem RunsV.ldW {T B : TypeId} {n : Nat} [q : Ag C.P T n] {x : Operand} {b : Nat} {cs : List Value} (hb : Blk h b cs B) (hx : opv tm lo x = some (ptr b)) (hn : cs.length = n) :
    RunsV C tm lo h (.load T x) (.agg cs.toArray) := RunsV.ldA cs hx hn fun j _ => by rw [Nat.zero_add, hb.hc]
/-- A cell of a whole block. -/
theorem RunsV.ldF {T B : TypeId} [q : Sc C.P T] {x : Operand} {b o : Nat} {cs : List Value} {v : Value} (hb : Blk h b cs B) (hx : opv tm lo x = some (.pointer (some ⟨b, o, none⟩))) (hv : cs[o]? = some v) : RunsV C tm lo h (.load T x) v :=
  RunsV.ld hx (by rw [hb.hc]; exact hv)
/-- A store of a struct. -/
theorem RunsU.stA {T : TypeId} {n : Nat} [q : Ag C.P T n] {x y : Operand} {b o : Nat} {vs cs : List Value} {B : TypeId}
    (hb : Blk h b cs B) (hx : opv tm lo x = some (.pointer (some ⟨b, o, none⟩))) (hy : opv tm lo y = some (.agg vs.toArray)) (hn : vs.length = n) (ho : o + n ≤ cs.length) (h1 : vs.all oneCell = true) :
    RunsU C tm lo h (.store T x y) (fun h' => Blk h' b (cs.take o ++ vs ++ cs.drop (o + n)) B ∧ Upd b h h') := fun c w F hh _ _ _ _ _ => by
  subst hh
  obtain ⟨q1, q2⟩ := q.h
  obtain ⟨info, hi, hs⟩ := Option.map_eq_some_iff.1 q2
  have h1' : ∀ v ∈ vs, v.oneCell' = true := fun u hu => by have := List.all_eq_true.1 h1 u hu; cases u <;> simp_all [oneCell, Value.oneCell']
  have hst := run_storeCells_at C.P b o B vs 0 cs.toArray w hb (by simp; omega) h1'
  simp only [Nat.add_zero] at hst
  refine ⟨w.setRow b (cs.take o ++ vs ++ cs.drop (o + n)).toArray, ?_, ⟨rfl, rfl, rfl⟩, setRow_heap w b _ _ _ _ hb, ?_, fun i hi => setRow_other w b i _ hi⟩
  · simp [execOp, F.eval hx, F.eval hy, Instr.storeAt, Instr.sureAddr, storeVar, sizeOf, typeInfo, hi, hs, Value.cells, hn, hst]
  · simp [World.setRow]
theorem RunsU.stW {T : TypeId} {n : Nat} [q : Ag C.P T n] {x y : Operand} {b : Nat} {vs cs : List Value} {B : TypeId}
    (hb : Blk h b cs B) (hx : opv tm lo x = some (ptr b)) (hy : opv tm lo y = some (.agg vs.toArray)) (hn : vs.length = n) (ho : cs.length = n) (h1 : vs.all oneCell = true) :
    RunsU C tm lo h (.store T x y) (fun h' => Blk h' b vs B ∧ Upd b h h') := fun c w F hh d t p a g => by
  obtain ⟨w', r1, r2, r3, r4⟩ := RunsU.stA (C := C) (T := T) hb hx hy hn (by omega) h1 c w F hh d t p a g
  refine ⟨w', r1, r2, ?_, r4⟩
  rw [show cs.drop (0 + n) = [] from List.drop_eq_nil_of_le (by omega)] at r3
  simpa using r3
/-- A store to a cell of a whole block. -/
theorem RunsU.stF {T B : TypeId} [q : Sc C.P T] {z : Value} {bytes : Nat} [i : Inf C.P T z 1 bytes] {x y : Operand} {b o : Nat} {v : Value} {cs : List Value} (hb : Blk h b cs B) (hx : opv tm lo x = some (.pointer (some ⟨b, o, none⟩))) (hy : opv tm lo y = some v) (ho : o < cs.length) (h1 : oneCell v = true) :
    RunsU C tm lo h (.store T x y) (fun h' => Blk h' b (cs.set o v) B ∧ Upd b h h') := by
  have hq := q.h
  split at hq
  · rename_i d hd
    intro c w F hh dst ty pos af gd
    obtain ⟨w', r1, r2, r3, r4⟩ := RunsU.st (C := C) (u := ⟨hd⟩) (T := T) hx hy hb (by simpa using ho) h1 c w F hh dst ty pos af gd
    exact ⟨w', r1, r2, by simpa [Blk] using r3, r4⟩
  · cases hq
theorem Runs.alA {E : TypeId} {z : List Value} {n bytes : Nat} [i : Inf C.P E (.agg z.toArray) n bytes] :
    Runs C tm lo h (.alloc E) (fun v h' => ∃ b, v = ptr b ∧ h.size ≤ b ∧ Blk h' b z E ∧ Ext h h') := fun c w F hh dst ty pos af gd => by
  obtain ⟨v, w', r1, r2, rfl, r3⟩ := Runs.alloc (C := C) (E := E) c w F hh dst ty pos af gd
  refine ⟨_, w', r1, r2, h.size, rfl, Nat.le_refl _, ?_, ?_⟩
  · rw [r3]; exact push_self _ _
  · rw [r3]; exact (Ext.refl _).push _
theorem Runs.bxA {E : TypeId} {x : Operand} (cs : List Value) (hx : opv tm lo x = some (.agg cs.toArray)) :
    Runs C tm lo h (.box E x) (fun v h' => ∃ b, v = ptr b ∧ h.size ≤ b ∧ Blk h' b cs E ∧ Ext h h') := fun c w F hh dst ty pos af gd => by
  obtain ⟨v, w', r1, r2, rfl, r3⟩ := Runs.box (C := C) (E := E) hx c w F hh dst ty pos af gd
  refine ⟨_, w', r1, r2, h.size, rfl, Nat.le_refl _, ?_, ?_⟩
  · rw [r3]; exact push_self _ _
  · rw [r3]; exact (Ext.refl _).push _
/-- x.f of a struct's value: one cell. -/
theorem RunsV.fld {s : TypeId} {f off : Nat} [q : FldAt C.P s f off] {x : Operand} {cs : List Value} {v : Value} (hx : opv tm lo x = some (.agg cs.toArray)) (hs : ∀ fs fd, C.P.underlying s = some (.struct fs) → fs[f]? = some fd → ∃ d, C.P.underlying fd.type = some d ∧ scal d = true) (hv : cs[off]? = some v) :
    RunsV C tm lo h (.field s x f) v := fun c w F _ _ _ _ _ _ => by
  obtain ⟨fs, fd, info, u, hf, hi, hsz, rfl⟩ := q.h
  obtain ⟨d, hd, hsc⟩ := hs fs fd u hf
  cases d <;> simp [scal] at hsc <;> simp [execOp, F.eval hx, Instr.field, underlying, u, hf, asAgg, part, isAgg, hd, hv]
end

/-! ### Results that lie in memory -/
def resR (P : Program) (tm lo : Env) (h : Heap) : List ResultVar → List Value → Prop
  | [], l => l = []
  | .tmp t :: r, v :: l => lk tm lo t = some v ∧ resR P tm lo h r l
  | .cell a t :: r, v :: l => (∃ b cs B, lk tm lo a = some (ptr b) ∧ Blk h b cs B ∧ v = .agg cs.toArray ∧ ∃ n, Ag P t n ∧ cs.length = n) ∧ resR P tm lo h r l
  | _, _ => False
abbrev bodyR (P : Program) (rs : List ResultVar) (Φ : Value → Heap → Prop) : K3
  | .normal => fun tm lo h => ∃ l, resR P tm lo h rs l ∧ Φ (one l) h
  | .ret => fun tm lo h => ∃ l, resR P tm lo h rs l ∧ Φ (one l) h
  | _ => fun _ _ _ => False
section
variable {C : Ctx} {tm lo : Env} {h : Heap}
theorem Fits.resR {a : Act} (F : Fits C tm lo a) : ∀ {rs : List ResultVar} {l : List Value} (w : World), Eng.resR C.P tm lo w.heap rs l →
    (rs.mapM (m := Sem) fun | .tmp t => pure (a.tmps.getD t undef) | .cell x t => do loadVar t (← asAddr (a.tmps.getD x undef))).run C.P w = .ok l w
  | [], l, w, h => by simp [Eng.resR] at h; simp [h]
  | .tmp t :: r, [], w, h => h.elim
  | .tmp t :: r, v :: l, w, h => by
    obtain ⟨h1, h2⟩ := h
    have := F.at_ h1
    have ih := F.resR w h2
    simp only [List.mapM_cons, Sem.run_bind, Sem.run_pure, Result.andThen_ok]
    rw [ih]
    simp [this]
  | .cell x t :: r, [], w, h => h.elim
  | .cell x t :: r, v :: l, w, h => by
    obtain ⟨⟨b, cs, B, h1, hb, rfl, n, q, hn⟩, h2⟩ := h
    have h1' := F.at_ h1
    have ih := F.resR w h2
    have hr : (loadVar t ⟨b, 0, none⟩).run C.P w = .ok (.agg cs.toArray) w := by
      obtain ⟨q1, q2⟩ := q.h
      obtain ⟨info, hi, hs⟩ := Option.map_eq_some_iff.1 q2
      have hr := run_loadCells C.P w b 0 cs n 0 #[] (by omega) (fun j _ => by rw [Nat.zero_add, hb.hc])
      simp at hr
      split at q1
      · rename_i fs hu
        simp [loadVar, isAgg, underlying, hu, sizeOf, typeInfo, hi, hs, loadCells, hr]
      · rename_i m e hu
        simp [loadVar, isAgg, underlying, hu, sizeOf, typeInfo, hi, hs, loadCells, hr]
      · cases q1
    have hg : a.tmps.getD x undef = ptr b := by simp [h1']
    have hs : (asAddr (a.tmps.getD x undef)).run C.P w = .ok ⟨b, 0, none⟩ w := by rw [hg]; rfl
    rw [List.mapM_cons, Sem.run_bind]
    simp only [Sem.run_bind, hs, Result.andThen_ok]
    rw [hr]
    simp only [Result.andThen_ok]
    rw [ih]
    rfl
theorem Spec.bodyR {f : FuncId} {fn : Func} {c : Code} {args : List Value} {Φ : Value → Heap → Prop} (e : Env) (hf : C.P.funcs[f]? = some fn) (hb : fn.body = some c) (hn : fn.ntmps = C.n) (hlen : Nat.ble args.length C.n = true) (he : argsEnv args e) (hL : allL C e = true)
    (H : WC C c (Eng.bodyR C.P fn.results.toList Φ) [] e h) : Spec C.P f args.toArray h Φ := by
  intro w hh
  have hlen := Nat.le_of_ble_eq_true hlen
  refine calls_of_wp hf hb ?_
  refine wp_mono (H w _ w (Rest.refl w) hh ⟨by simp [hn]; omega, rfl, fun _ _ h => (nomatch h), fun t v h => ⟨?_, allL_look hL h⟩⟩) ?_
  · have := argsEnv_look he h
    have hlt := (List.getElem?_eq_some_iff.1 this).1
    simp [Array.getElem?_append, hlt, this]
    rw [List.getElem?_eq_getElem hlt] at this
    simpa using this
  · rintro x a w' ⟨r, tm, lo, F, k⟩
    have fin : ∀ l, Eng.resR C.P tm lo w'.heap fn.results.toList l → (results fn a.tmps).run C.P w' = .ok (one l) w' := by
      intro l hl
      have := F.resR w' hl
      have hm : (fn.results.mapM (m := Sem) fun | .tmp t => pure (a.tmps.getD t undef) | .cell x t => do loadVar t (← asAddr (a.tmps.getD x undef))).run C.P w' = .ok l.toArray w' := by
        rw [← Array.toArray_toList (xs := fn.results), List.mapM_toArray, Sem.run_map, this]
        rfl
      unfold results
      rw [Sem.run_bind]
      refine (congrArg (fun q : Result (Array Value) => q.andThen fun a w' => Sem.run C.P (pure (if h : a.size = 1 then a[0] else Value.tuple a)) w') hm).trans ?_
      rcases l with _ | ⟨v, _ | ⟨u, l⟩⟩ <;> simp [one]
    cases x with
    | normal => obtain ⟨l, h1, h2⟩ := k; exact ⟨F.defers, _, fin l h1, r, h2⟩
    | ret => obtain ⟨l, h1, h2⟩ := k; exact ⟨F.defers, _, fin l h1, r, h2⟩
    | exit i => exact k.elim
    | goto i => exact k.elim
    | panic ch => exact k.elim
    | outgrown => exact k.elim
end
end Go.Eng
namespace Go.Eng
theorem Own.ne_blk {h : Heap} {base T sz n : Nat} {v : Value} {xs : List Value} (o : Own h base T sz v n xs) {b : Nat} {cs : List Value} {B : TypeId} (k : Blk h b cs B) (ne : T ≠ B) : v.ownBlock ≠ some b := by
  rcases o.2 with ⟨rfl, _⟩ | ⟨g, cap, cur, rfl, hb, hg, r⟩
  · intro e; cases e
  · intro e
    simp [Value.ownBlock] at e
    subst e
    unfold Blk at k
    rw [k] at hg
    simp at hg
    exact ne hg.2.symm
theorem Own.ne_box {h : Heap} {base T sz n : Nat} {v : Value} {xs : List Value} (o : Own h base T sz v n xs) {b : Nat} {u : Value} {B : TypeId} (k : Box h b B u) (ne : T ≠ B) : v.ownBlock ≠ some b :=
  o.ne_blk (cs := [u]) (by unfold Blk; exact k) ne
section
variable {C : Ctx} {K : K3} {tm lo : Env} {h : Heap} {ol : List Oper} {e : Nat} {S : Heap → Prop} {σ : List (Bool × Nat)} {op : Op} {ty : TypeId} {pos : String} {af : Array Edge} {i : Nat}
theorem WQ.callC {d : Nat} {f : Operand} {args : Array Operand} {ats : Array TypeId} {g : FuncId} {l : List Value} {cap A : Array Value} [q : Fun C.P g] {Φ : Value → Heap → Prop}
    (ho : nth ol i = some ⟨some d, .call { callee := .value f, args, argTypes := ats }, ty, pos, af, none⟩)
    (Sp : Spec C.P g A h Φ) (hf : opv tm lo f = some (.func (.func g) #[] cap)) (ha : opvs tm lo args.toList = some l) (hA : l.toArray ++ cap = A) (hd : C.isT d = true) (hS' : i ≠ e → S h → ∀ v h', Φ v h' → S h')
    (hσ : i = e → σ = [])
    (H : ∀ v h', Φ v h' → WQ C ol.toArray e S σ K ((d, v) :: tm) lo h') : WQ C ol.toArray e S ((true, i) :: σ) K tm lo h := by
  intro listed ok hs hK hS w0 a w hr hh F
  have hS := hS (by simp)
  simp only [okSeq, cond_true, Bool.and_eq_true, beq_iff_eq] at ok
  obtain ⟨o1, o3⟩ := ok
  rw [nth_eq] at ho
  have hi : ol.toArray[i]? = some ⟨some d, .call { callee := .value f, args, argTypes := ats }, ty, pos, af, none⟩ := by simpa using ho
  refine only hi rfl o1 ?_
  unfold Oper.wp
  rw [call_run F w hf ha, hA, Oper.upon_enter]
  refine (Sp w hh).mono ?_
  rintro x w' ⟨r1, p⟩
  cases x with
  | returned v =>
    have s' := fun q => hS' q hS v _ p
    exact ⟨fun q => ⟨hr.trans r1, s' q⟩, H v _ p _ o3 hs hK (fun q => s' fun q2 => q (hσ q2)) w0 _ w' (hr.trans r1) rfl (F.putT hd v)⟩
  | panicked ch => exact p.elim
  | outgrown => exact p.elim
end
end Go.Eng
namespace Go.Eng
theorem Own.upd {h h' : Heap} {base T sz n : Nat} {v : Value} {xs : List Value} (o : Own h base T sz v n xs) {i : Nat} (u : Upd i h h') (q : v.ownBlock ≠ some i) : Own h' base T sz v n xs :=
  o.keep u.ext (fun b e e2 => q (e2 ▸ e))
theorem Own.one {h : Heap} {base T sz n : Nat} {v : Value} {xs : List Value} (o : Own h base T sz v n xs) : oneCell v = true := by
  obtain ⟨A, cap, rfl⟩ := o.form; rfl
end Go.Eng
namespace Go.Eng
theorem splice_take {α : Type} (c ns : List α) (a n : Nat) (h : a + ns.length ≤ n) (hc : n ≤ c.length) : (c.take a ++ ns ++ c.drop (a + ns.length)).take n = (c.take n).take a ++ ns ++ (c.take n).drop (a + ns.length) := by
  have hl : (c.take a ++ ns).length = a + ns.length := by rw [List.length_append, List.length_take]; omega
  rw [List.take_append, List.take_of_length_le (by omega), hl, List.take_take, Nat.min_eq_left (by omega), List.drop_take]
theorem eptr_sub {h : Heap} {base T n a b j : Nat} {v : Value} {xs : List Value} (o : Own h base T 1 v n xs) (hb : b ≤ n) (hj : a + j < b) : eptr (subv 1 v a b) j = eptr v (a + j) := by
  rcases o.2 with ⟨rfl, rfl⟩ | ⟨g, cap, cur, rfl, _, _, hn, _⟩
  · omega
  · simp only [subv, eptr]
    rw [if_neg (by omega)]
    simp [eptr, add_plain]
section
variable {C : Ctx} {tm lo : Env} {h : Heap}
/-- copy(u[a:b], y), u an own row, y of k. -/
theorem Runs.copyO {base E n a b' k bytes : Nat} {T T2 : TypeId} {z u y : Value} [q : Und C.P T (.slice E)] [i : Inf C.P E z 1 bytes] {d s : Operand} {xs news : List Value} {S : Nat → Prop}
    (O : Own h base E 1 u n xs) (Q : Sl S h 1 y k news) (hk : 0 < k) (ha : a + k ≤ b') (hbn : b' ≤ n) (hd : opv tm lo d = some (subv 1 u a b')) (hs : opv tm lo s = some y) (h1 : ∀ v ∈ news, oneCell v = true) :
    Runs C tm lo h (.call { callee := .builtin .copy, args := #[d, s], argTypes := #[T, T2] }) (fun v h' => v = vI k ∧ Own h' base E 1 u n (xs.take a ++ news ++ xs.drop (a + k)) ∧ ∃ g, base ≤ g ∧ g < h.size ∧ u.ownBlock = some g ∧ Upd g h h') := fun c w F hh dst ty pos af gd => by
  subst hh
  obtain ⟨info, hi, hi1, hi2, hi3⟩ := i.parts
  rcases O with ⟨hl, ⟨_, rfl⟩ | ⟨g, cap, cur, rfl, hbg, hg, hn, hcm, hs', ht⟩⟩
  · omega
  · obtain ⟨q1, q2, A, cap2, rfl, q3, q0, q4⟩ := Q
    obtain ⟨b, off, rfl, _, gq⟩ := q4 hk
    rw [Nat.mul_one] at q1 hl hs' ht
    have h1' : ∀ v ∈ news, v.oneCell' = true := fun v hv => by have := h1 v hv; cases v <;> simp_all [oneCell, Value.oneCell']
    have hdv : subv 1 (.slice (some ⟨g, 0, none⟩) n cap) a b' = .slice (some ⟨g, a, none⟩) (b' - a) (cap - a) := by
      simp only [subv]
      rw [if_neg (by omega)]
      simp [add_plain]
    rw [hdv] at hd
    have hcl : cur.toList.length = cap := by simpa using hs'
    have hr := run_copy_row (P := C.P) w T T2 ty E g a (b' - a) (cap - a) ⟨b, off, none⟩ k cap2 cur E news q.h (by rw [hi]; simp [hi2]) hg (by rw [q1]; exact (Nat.min_eq_left (by omega)).symm) (fun j v hv => by
      have hj := (List.getElem?_eq_some_iff.1 hv).1
      rw [add_plain, cell_hc, gq j (by omega)]; exact hv) (by omega) h1'
    refine ⟨vI k, w.setRow g (cur.toList.take a ++ news ++ cur.toList.drop (a + news.length)).toArray, ?_, ⟨rfl, rfl, rfl⟩, rfl, ⟨?_, .inr ⟨g, cap, _, rfl, hbg, setRow_heap w g _ _ _ _ hg, hn, hcm, ?_, ?_⟩⟩, g, hbg, (Array.getElem?_eq_some_iff.1 hg).1, rfl, ?_, fun j hj => setRow_other w g j _ hj⟩
    · simp [execOp, resolve, invoke, builtin, F.eval hd, F.eval hs, hr, goInt, q1]
    · simp; omega
    · simp; omega
    · subst ht
      rw [Nat.mul_one, ← q1]
      exact splice_take cur.toList news a n (by omega) (by omega)
    · simp [World.setRow]
end
end Go.Eng
