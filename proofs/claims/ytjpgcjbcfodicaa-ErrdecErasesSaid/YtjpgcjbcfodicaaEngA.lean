/- Steps of the proof: lemmas for every input, without conditions but those that each states. -/
import Derived.OrdersHeld
import Derived.Tactics
import Derived.Deep.LoopGhost
import Derived.Laws.World
import Derived.Laws.AppendOwn
import Derived.Laws.OwnMore
import Derived.Laws.MakeOwn
import Derived.Laws.Entries
import Derived.Laws.IdiomCopy
import Derived.Laws.CopyRow
import Derived.Laws.Slices
namespace Go.Eng

abbrev Heap := Array Obj
/-- What a call leaves of the world besides the heap. -/
structure Rest (w w' : World) : Prop where
  os : w'.os = w.os
  output : w'.output = w.output
  tape : w'.tape = w.tape
theorem Rest.refl (w : World) : Rest w w := ⟨rfl, rfl, rfl⟩
theorem Rest.trans {a b c : World} (h : Rest a b) (k : Rest b c) : Rest a c := ⟨k.os.trans h.os, k.output.trans h.output, k.tape.trans h.tape⟩

/-- A call's contract over the heap: it may end by a panic too. -/
def SpecX (P : Program) (f : FuncId) (args : Array Value) (h : Heap) (Φ : Ending → Heap → Prop) : Prop :=
  ∀ w, w.heap = h → Calls P f args w fun x w' => Rest w w' ∧ Φ x w'.heap
/-- It returns. -/
def ret (Φ : Value → Heap → Prop) : Ending → Heap → Prop
  | .returned v, h => Φ v h
  | _, _ => False
abbrev Spec (P : Program) (f : FuncId) (args : Array Value) (h : Heap) (Φ : Value → Heap → Prop) : Prop := SpecX P f args h (ret Φ)

theorem SpecX.mono {P : Program} {f : FuncId} {args : Array Value} {h : Heap} {Φ Ψ : Ending → Heap → Prop} (s : SpecX P f args h Φ) (k : ∀ x h', Φ x h' → Ψ x h') : SpecX P f args h Ψ :=
  fun w hw => (s w hw).mono fun x _ ⟨r, p⟩ => ⟨r, k x _ p⟩
theorem Spec.mono {P : Program} {f : FuncId} {args : Array Value} {h : Heap} {Φ Ψ : Value → Heap → Prop} (s : Spec P f args h Φ) (k : ∀ x h', Φ x h' → Ψ x h') : Spec P f args h Ψ :=
  SpecX.mono s fun x h' p => by cases x <;> first | exact k _ _ p | exact p

/-- Slots. -/
abbrev Env := List (Nat × Value)
def look : Env → Nat → Option Value
  | [], _ => none
  | (t, v) :: e, n => bif Nat.beq n t then some v else look e n
def lk : Env → Env → Nat → Option Value
  | [], lo, n => look lo n
  | (t, v) :: e, lo, n => bif Nat.beq n t then some v else lk e lo n
def opv (tm lo : Env) : Operand → Option Value
  | .tmp t => lk tm lo t
  | .const v => some v
  | .global g => some (.pointer (some ⟨g, 0, none⟩))
  | .func f => some (.func (.func f) #[] #[])
def opvs (tm lo : Env) : List Operand → Option (List Value)
  | [] => some []
  | x :: r => match opv tm lo x, opvs tm lo r with
    | some v, some vs => some (v :: vs)
    | _, _ => none

structure Ctx where
  P : Program
  n : Nat
  mask : Nat

def Ctx.isT (C : Ctx) (d : Nat) : Bool := Nat.blt d C.n && !C.mask.testBit d
def Ctx.isL (C : Ctx) (d : Nat) : Bool := Nat.blt d C.n && C.mask.testBit d
theorem Ctx.isT_iff {C : Ctx} {d : Nat} : C.isT d = true ↔ d < C.n ∧ C.mask.testBit d = false := by simp [Ctx.isT, Nat.blt, Nat.succ_le_iff]
theorem Ctx.isL_iff {C : Ctx} {d : Nat} : C.isL d = true ↔ d < C.n ∧ C.mask.testBit d = true := by simp [Ctx.isL, Nat.blt, Nat.succ_le_iff]

structure Fits (C : Ctx) (tm lo : Env) (a : Act) : Prop where
  size : a.tmps.size = C.n
  defers : a.defers = []
  tm_ : ∀ t v, look tm t = some v → a.tmps[t]? = some v ∧ C.mask.testBit t = false
  lo_ : ∀ t v, look lo t = some v → a.tmps[t]? = some v ∧ C.mask.testBit t = true

theorem beq_ne {t d : Nat} (e : t ≠ d) : Nat.beq t d = false := Bool.eq_false_iff.2 fun h => e (Nat.eq_of_beq_eq_true h)
theorem beq_self (t : Nat) : Nat.beq t t = true := Nat.beq_refl t
theorem lk_or {tm lo : Env} {t : Nat} {v : Value} (h : lk tm lo t = some v) : look tm t = some v ∨ look lo t = some v := by
  induction tm with
  | nil => exact .inr h
  | cons p tm ih =>
    obtain ⟨s, x⟩ := p
    simp only [lk, look] at h ⊢
    by_cases e : t = s
    · subst e; rw [beq_self] at h ⊢; exact .inl h
    · rw [beq_ne e] at h ⊢; exact ih h
theorem Fits.at_ {C : Ctx} {tm lo : Env} {a : Act} (F : Fits C tm lo a) {t : Nat} {v : Value} (h : lk tm lo t = some v) : a.tmps[t]? = some v := by
  rcases lk_or h with h | h
  · exact (F.tm_ t v h).1
  · exact (F.lo_ t v h).1

theorem Fits.eval {C : Ctx} {tm lo : Env} {a : Act} (F : Fits C tm lo a) {x : Operand} {v : Value} (h : opv tm lo x = some v) : a.eval x = v := by
  cases x with
  | tmp t => have := F.at_ (t := t) h; simp [Act.eval, this]
  | const u => simpa [opv, Act.eval] using h
  | global g => simpa [opv, Act.eval] using h
  | func f => simpa [opv, Act.eval] using h

theorem Fits.evals {C : Ctx} {tm lo : Env} {a : Act} (F : Fits C tm lo a) : ∀ {l : List Operand} {vs : List Value}, opvs tm lo l = some vs → l.map a.eval = vs
  | [], vs, h => by simp [opvs] at h; simp [h]
  | x :: r, vs, h => by
    simp only [opvs] at h
    split at h
    · rename_i v ws hv hws
      simp at h
      subst h
      simp [F.eval hv, F.evals hws]
    · cases h

theorem Fits.putT {C : Ctx} {tm lo : Env} {a : Act} (F : Fits C tm lo a) {d : Nat} (hd : C.isT d = true) (v : Value) : Fits C ((d, v) :: tm) lo (a.put (some d) v) := by
  obtain ⟨h1, h2⟩ := Ctx.isT_iff.1 hd
  refine ⟨by simp [Act.put, F.size], F.defers, fun t u h => ?_, fun t u h => ?_⟩
  · simp only [look] at h
    by_cases e : t = d
    · subst e
      rw [beq_self] at h
      simp at h
      subst h
      exact ⟨by simp [Act.put, F.size, h1], h2⟩
    · rw [beq_ne e] at h
      obtain ⟨g1, g2⟩ := F.tm_ t u h
      exact ⟨by simp [Act.put, Ne.symm e, g1], g2⟩
  · obtain ⟨g1, g2⟩ := F.lo_ t u h
    have e : t ≠ d := fun e => by subst e; simp [h2] at g2
    exact ⟨by simp [Act.put, Ne.symm e, g1], g2⟩

theorem Fits.putL {C : Ctx} {tm lo : Env} {a : Act} (F : Fits C tm lo a) {d : Nat} (hd : C.isL d = true) (v : Value) : Fits C tm ((d, v) :: lo) (a.put (some d) v) := by
  obtain ⟨h1, h2⟩ := Ctx.isL_iff.1 hd
  refine ⟨by simp [Act.put, F.size], F.defers, fun t u h => ?_, fun t u h => ?_⟩
  · obtain ⟨g1, g2⟩ := F.tm_ t u h
    have e : t ≠ d := fun e => by subst e; simp [h2] at g2
    exact ⟨by simp [Act.put, Ne.symm e, g1], g2⟩
  · simp only [look] at h
    by_cases e : t = d
    · subst e
      rw [beq_self] at h
      simp at h
      subst h
      exact ⟨by simp [Act.put, F.size, h1], h2⟩
    · rw [beq_ne e] at h
      obtain ⟨g1, g2⟩ := F.lo_ t u h
      exact ⟨by simp [Act.put, Ne.symm e, g1], g2⟩

theorem Fits.drop {C : Ctx} {tm lo : Env} {a : Act} (F : Fits C tm lo a) : Fits C [] lo a := ⟨F.size, F.defers, fun _ _ h => (nomatch h), F.lo_⟩
/-- Fewer slots may be kept. -/
theorem Fits.sub {C : Ctx} {tm lo lo' : Env} {a : Act} (F : Fits C tm lo a) (h : ∀ t v, look lo' t = some v → look lo t = some v) : Fits C [] lo' a :=
  ⟨F.size, F.defers, fun _ _ h => (nomatch h), fun t v e => F.lo_ t v (h t v e)⟩

abbrev K3 := Exit → Env → Env → Heap → Prop
def lift (C : Ctx) (w0 : World) (K : K3) : Exit → Act → World → Prop :=
  fun x a w => Rest w0 w ∧ ∃ tm lo, Fits C tm lo a ∧ K x tm lo w.heap

def WC (C : Ctx) (c : Code) (K : K3) (tm lo : Env) (h : Heap) : Prop :=
  ∀ w0 a w, Rest w0 w → w.heap = h → Fits C tm lo a → c.wp C.P (lift C w0 K) a w
def WR (C : Ctx) (ops : Array Oper) (r : List Oper) (K : K3) (tm lo : Env) (h : Heap) : Prop :=
  ∀ w0 a w, Rest w0 w → w.heap = h → Fits C tm lo a → wpList C.P ops (lift C w0 K) r a w

abbrev thenK (N : Env → Env → Heap → Prop) (K : K3) : K3
  | .normal => N
  | x => K x
abbrev blockK (id : Nat) (K : K3) : K3
  | .exit i => fun tm lo h => (i = id → K .normal tm lo h) ∧ (i ≠ id → K (.exit i) tm lo h)
  | x => K x

section
variable {C : Ctx} {K : K3} {tm lo : Env} {h : Heap}

theorem WC.seq {x y : Code} (H : WC C x (thenK (WC C y K) K) tm lo h) : WC C (.seq x y) K tm lo h := by
  intro w0 a w hr hh F
  refine wp_seq (wp_mono (H w0 a w hr hh F) ?_)
  rintro x a w ⟨r, tm, lo, F, k⟩
  cases x with
  | normal => exact k w0 a w r rfl F
  | _ => exact ⟨r, tm, lo, F, k⟩
theorem WC.skip (H : K .normal tm lo h) : WC C .skip K tm lo h := fun _ _ _ hr hh F => wp_skip ⟨hr, tm, lo, F, hh ▸ H⟩
theorem WC.ret (H : K .ret tm lo h) : WC C .ret K tm lo h := fun _ _ _ hr hh F => wp_ret ⟨hr, tm, lo, F, hh ▸ H⟩
theorem WC.exit {i : Nat} (H : K (.exit i) tm lo h) : WC C (.exit i) K tm lo h := fun _ _ _ hr hh F => wp_exit ⟨hr, tm, lo, F, hh ▸ H⟩
theorem WC.block {i : Nat} {c : Code} (H : WC C c (blockK i K) tm lo h) : WC C (.block i c) K tm lo h := by
  intro w0 a w hr hh F
  refine wp_block (wp_mono (H w0 a w hr hh F) ?_)
  rintro x a w ⟨r, tm, lo, F, k⟩
  cases x with
  | exit j =>
    show (if j = i then _ else _)
    by_cases e : j = i
    · rw [if_pos e]; exact ⟨r, tm, lo, F, k.1 e⟩
    · rw [if_neg e]; exact ⟨r, tm, lo, F, k.2 e⟩
  | _ => exact ⟨r, tm, lo, F, k⟩
theorem WC.t {c : Operand} {x y : Code} (hc : opv tm lo c = some (.bool true)) (H : WC C x K tm lo h) : WC C (.cond c x y) K tm lo h :=
  fun w0 a w hr hh F => wp_cond_true (F.eval hc) (H w0 a w hr hh F)
theorem WC.f {c : Operand} {x y : Code} (hc : opv tm lo c = some (.bool false)) (H : WC C y K tm lo h) : WC C (.cond c x y) K tm lo h :=
  fun w0 a w hr hh F => wp_cond_false (F.eval hc) (H w0 a w hr hh F)
theorem WC.tt {c : Operand} {x y : Code} {b : Bool} (hc : opv tm lo c = some (.bool b)) (hb : b = true) (H : WC C x K tm lo h) : WC C (.cond c x y) K tm lo h := WC.t (hb ▸ hc) H
theorem WC.ff {c : Operand} {x y : Code} {b : Bool} (hc : opv tm lo c = some (.bool b)) (hb : b = false) (H : WC C y K tm lo h) : WC C (.cond c x y) K tm lo h := WC.f (hb ▸ hc) H
theorem WC.ite {c : Operand} {x y : Code} {b : Bool} (hc : opv tm lo c = some (.bool b)) (H1 : b = true → WC C x K tm lo h) (H2 : b = false → WC C y K tm lo h) : WC C (.cond c x y) K tm lo h := by
  cases hb : b with
  | true => exact WC.tt hc hb (H1 hb)
  | false => exact WC.ff hc hb (H2 hb)
theorem WC.itep {c : Operand} {x y : Code} {p : Prop} [Decidable p] (hc : opv tm lo c = some (.bool (decide p))) (H1 : p → WC C x K tm lo h) (H2 : ¬ p → WC C y K tm lo h) : WC C (.cond c x y) K tm lo h :=
  WC.ite hc (fun e => H1 (of_decide_eq_true e)) (fun e => H2 (of_decide_eq_false e))
end


/-- Every slot of e has its value. -/
def Sub : Env → Env → Env → Prop
  | [], _, _ => True
  | (t, v) :: e, tm, lo => lk tm lo t = some v ∧ Sub e tm lo
theorem Sub.look {tm lo : Env} {t : Nat} {v : Value} : ∀ {e : Env}, Sub e tm lo → look e t = some v → lk tm lo t = some v
  | [], _, h => by cases h
  | (s, u) :: e, hs, h => by
    simp only [Eng.look] at h
    by_cases q : t = s
    · subst q; rw [beq_self] at h; simp at h; subst h; exact hs.1
    · rw [beq_ne q] at h; exact hs.2.look h
/-- Each key of e is of the lasting kind. -/
def allL (C : Ctx) : Env → Bool
  | [] => true
  | (t, _) :: e => C.mask.testBit t && allL C e
theorem allL_look {C : Ctx} {t : Nat} {v : Value} : ∀ {e : Env}, allL C e = true → look e t = some v → C.mask.testBit t = true
  | [], _, h => by cases h
  | (s, u) :: e, hs, h => by
    simp only [look] at h
    simp only [allL, Bool.and_eq_true] at hs
    by_cases q : t = s
    · subst q; exact hs.1
    · rw [beq_ne q] at h; exact allL_look hs.2 h
theorem Fits.toSub {C : Ctx} {tm lo e : Env} {a : Act} (F : Fits C tm lo a) (hs : Sub e tm lo) (hl : allL C e = true) : Fits C [] e a :=
  ⟨F.size, F.defers, fun _ _ h => (nomatch h), fun _ _ h => ⟨F.at_ (hs.look h), allL_look hl h⟩⟩

abbrev loopK {σ : Type} (E : σ → Env) (I : σ → Heap → Prop) (μ : σ → Nat) (s : σ) (K : K3) : K3
  | .normal => fun tm lo h => ∃ s', Sub (E s') tm lo ∧ I s' h ∧ μ s' < μ s
  | x => K x

section
variable {C : Ctx} {K : K3} {tm lo : Env} {h : Heap}
theorem WC.loop {c : Code} {σ : Type} (E : σ → Env) (I : σ → Heap → Prop) (μ : σ → Nat) (s0 : σ) (hL : ∀ s, allL C (E s) = true) (hE : Sub (E s0) tm lo) (hI : I s0 h)
    (round : ∀ s h, I s h → WC C c (loopK E I μ s K) [] (E s) h) : WC C (.loop c) K tm lo h := by
  intro w0 a w hr hh F
  refine wp_loop_ghost (fun n a w => Rest w0 w ∧ ∃ s, μ s = n ∧ Fits C [] (E s) a ∧ I s w.heap) (μ s0) ⟨hr, s0, rfl, F.toSub hE (hL s0), hh ▸ hI⟩ ?_
  rintro n a w ⟨hr, s, rfl, F, hI⟩
  refine wp_mono (round s w.heap hI w0 a w hr rfl F) ?_
  rintro x a w ⟨r, tm, lo, F, k⟩
  cases x with
  | normal =>
    obtain ⟨s', h1, h2, h3⟩ := k
    exact ⟨μ s', h3, r, s', rfl, F.toSub h1 (hL s'), h2⟩
  | _ => exact ⟨r, tm, lo, F, k⟩

/-- Forget temporaries and slots. -/
theorem WC.keep {c : Code} (e : Env) (hL : allL C e = true) (hE : Sub e tm lo) (H : WC C c K [] e h) : WC C c K tm lo h :=
  fun w0 a w hr hh F => H w0 a w hr hh (F.toSub hE hL)
theorem WC.region {id : Nat} {l : List Oper} (H : WR C l.toArray l K [] lo h) : WC C (.region id l.toArray false) K tm lo h :=
  fun w0 a w hr hh F => wp_region_lit (H w0 a w hr hh F.drop)
end

/-! ### One operation -/
class Und (P : Program) (t : TypeId) (d : outParam TypeDesc) : Prop where h : P.underlying t = some d
class Inf (P : Program) (t : TypeId) (zero : outParam Value) (size bytes : outParam Nat) : Prop where h : (P.info? t).map (fun i => (i.zero, i.size, i.bytes)) = some (some zero, size, bytes)
class Fun (P : Program) (f : FuncId) : Prop where h : (P.funcs[f]?).map (fun fn => fn.name != "runtime.NumGoroutine" && fn.body.isSome) = some true
theorem Inf.parts {P : Program} {e : TypeId} {z : Value} {size bytes : Nat} (q : Inf P e z size bytes) : ∃ i, P.info? e = some i ∧ i.zero = some z ∧ i.size = size ∧ i.bytes = bytes := by
  obtain ⟨i, hi, hzz⟩ := Option.map_eq_some_iff.1 q.h
  simp only [Prod.mk.injEq] at hzz
  exact ⟨i, hi, hzz.1, hzz.2.1, hzz.2.2⟩

/-- The operation yields a value; the heap behind it. -/
def Runs (C : Ctx) (tm lo : Env) (h : Heap) (op : Op) (Φ : Value → Heap → Prop) : Prop :=
  ∀ a w, Fits C tm lo a → w.heap = h → ∀ dst ty pos af gd, ∃ v w', (execOp a.eval ⟨dst, op, ty, pos, af, gd⟩).run C.P w = .ok (.value v) w' ∧ Rest w w' ∧ Φ v w'.heap
/-- The operation yields nothing; the heap behind it. -/
def RunsU (C : Ctx) (tm lo : Env) (h : Heap) (op : Op) (Φ : Heap → Prop) : Prop :=
  ∀ a w, Fits C tm lo a → w.heap = h → ∀ dst ty pos af gd, ∃ w', (execOp a.eval ⟨dst, op, ty, pos, af, gd⟩).run C.P w = .ok .skip w' ∧ Rest w w' ∧ Φ w'.heap

section
variable {C : Ctx} {K : K3} {tm lo : Env} {h : Heap} {ops : Array Oper} {r : List Oper} {op : Op} {ty : TypeId} {pos : String} {af : Array Edge}

theorem WR.nil (H : K .normal tm lo h) : WR C ops [] K tm lo h := fun _ _ _ hr hh F => wpList_nil ⟨hr, tm, lo, F, hh ▸ H⟩

theorem WR.stepT {d : Nat} {Φ : Value → Heap → Prop} (hR : Runs C tm lo h op Φ) (hd : C.isT d = true) (H : ∀ v h', Φ v h' → WR C ops r K ((d, v) :: tm) lo h') :
    WR C ops (⟨some d, op, ty, pos, af, none⟩ :: r) K tm lo h := by
  intro w0 a w hr hh F
  obtain ⟨v, w', h1, h2, h3⟩ := hR a w F hh (some d) ty pos af none
  refine wpList_plain rfl fun K' hK => ?_
  unfold Oper.wp
  rw [h1, Oper.upon_value]
  exact hK _ _ (H v _ h3 w0 _ w' (hr.trans h2) rfl (F.putT hd v))
theorem WR.stepL {d : Nat} {Φ : Value → Heap → Prop} (hR : Runs C tm lo h op Φ) (hd : C.isL d = true) (H : ∀ v h', Φ v h' → WR C ops r K tm ((d, v) :: lo) h') :
    WR C ops (⟨some d, op, ty, pos, af, none⟩ :: r) K tm lo h := by
  intro w0 a w hr hh F
  obtain ⟨v, w', h1, h2, h3⟩ := hR a w F hh (some d) ty pos af none
  refine wpList_plain rfl fun K' hK => ?_
  unfold Oper.wp
  rw [h1, Oper.upon_value]
  exact hK _ _ (H v _ h3 w0 _ w' (hr.trans h2) rfl (F.putL hd v))
theorem WR.stepU {Φ : Heap → Prop} (hR : RunsU C tm lo h op Φ) (H : ∀ h', Φ h' → WR C ops r K tm lo h') :
    WR C ops (⟨none, op, ty, pos, af, none⟩ :: r) K tm lo h := by
  intro w0 a w hr hh F
  obtain ⟨w', h1, h2, h3⟩ := hR a w F hh none ty pos af none
  refine wpList_plain rfl fun K' hK => ?_
  unfold Oper.wp
  rw [h1, Oper.upon_skip]
  exact hK _ _ (H _ h3 w0 _ w' (hr.trans h2) rfl F)
end
end Go.Eng
namespace Go.Eng

abbrev vB (x : UInt8) : Value := .int .u8 (x.toNat : Int)
abbrev vI (x : Int) : Value := .int .i64 x
abbrev vb (b : Bool) : Value := .bool b

def eqk (k k' : IntKind) : Bool :=
  match k, k' with
  | .i8, .i8 | .i16, .i16 | .i32, .i32 | .i64, .i64 | .u8, .u8 | .u16, .u16 | .u32, .u32 | .u64, .u64 => true
  | _, _ => false
theorem eqk_iff {k k' : IntKind} (h : eqk k k' = true) : k = k' := by cases k <;> cases k' <;> first | rfl | cases h

def intBin (op : BinOp) (k : IntKind) (a b : Int) : Option Value :=
  match op with
  | .add => some (.int k (k.wrap (a + b)))
  | .sub => some (.int k (k.wrap (a - b)))
  | .mul => some (.int k (k.wrap (a * b)))
  | .and => some (.int k (k.wrap (BitVec.ofInt k.bits a &&& BitVec.ofInt k.bits b).toNat))
  | .or => some (.int k (k.wrap (BitVec.ofInt k.bits a ||| BitVec.ofInt k.bits b).toNat))
  | .xor => some (.int k (k.wrap (BitVec.ofInt k.bits a ^^^ BitVec.ofInt k.bits b).toNat))
  | .eql => some (.bool (decide (a = b)))
  | .neq => some (.bool (decide (a ≠ b)))
  | .lss => some (.bool (decide (a < b)))
  | .leq => some (.bool (decide (a ≤ b)))
  | .gtr => some (.bool (decide (b < a)))
  | .geq => some (.bool (decide (b ≤ a)))
  | _ => none

/-- What an operation yields that asks neither the memory nor the types. -/
def pureOp (tm lo : Env) (op : Op) : Option Value :=
  match op with
  | .move x | .assign x => opv tm lo x
  | .pick c a b => match opv tm lo c with
    | some (.bool t) => bif t then opv tm lo a else opv tm lo b
    | _ => none
  | .binOp bo _ x y _ => match opv tm lo x, opv tm lo y with
    | some (.int k a), some (.int k' b) => bif eqk k k' then intBin bo k a b else none
    | _, _ => none
  | .unOp .not _ x => match opv tm lo x with
    | some (.bool b) => some (.bool (!b))
    | _ => none
  | .extract t i => match opv tm lo t with
    | some (.tuple vs) => vs[i]?
    | _ => none
  | .nilCheck x => match opv tm lo x with
    | some (.pointer (some a)) => some (.pointer (some a))
    | _ => none
  | .makeFunc fn first captured => match opvs tm lo first.toList, opvs tm lo captured.toList with
    | some a, some b => some (.func fn a.toArray b.toArray)
    | _, _ => none
  | _ => none

theorem mapA {l : Array Operand} {f : Operand → Value} {vs : List Value} (h : l.toList.map f = vs) : l.map f = vs.toArray := by
  subst h; apply Array.ext'; simp

theorem pure_run {C : Ctx} {tm lo : Env} {op : Op} {v : Value} (hp : pureOp tm lo op = some v) {a : Act} (F : Fits C tm lo a) (w : World) (dst : Option Tmp) (ty : TypeId) (pos : String) (af : Array Edge) (gd : Option (Nat × Bool)) :
    (execOp a.eval ⟨dst, op, ty, pos, af, gd⟩).run C.P w = .ok (.value v) w := by
  unfold pureOp at hp
  split at hp
  · simp [execOp, F.eval hp]
  · simp [execOp, F.eval hp]
  · rename_i c x y
    split at hp
    · rename_i t hc
      cases t <;> simp [execOp, F.eval hc, asBool] at hp ⊢ <;> rw [F.eval hp]
    · cases hp
  · rename_i bo T x y yT
    split at hp
    · rename_i k p k' q hx hy
      by_cases e : eqk k k' = true
      · rw [e] at hp
        have := eqk_iff e
        subst this
        cases bo <;> simp only [intBin, cond_true, Option.some.injEq, reduceCtorEq] at hp <;> subst hp <;>
          simp [execOp, F.eval hx, F.eval hy, eqGuard, binOp, Op.intArith, Op.intBits, Op.intCmp] <;>
          first | rfl | (exact Bool.decide_congr Iff.rfl) | skip
        all_goals simp [bne, beq_eq_decide]
      · rw [Bool.not_eq_true] at e
        rw [e] at hp; cases hp
    · cases hp
  · rename_i T x
    split at hp
    · rename_i b hb
      simp at hp; subst hp
      simp [execOp, F.eval hb, Op.unary]
    · cases hp
  · rename_i t i
    split at hp
    · rename_i vs hv
      simp [execOp, F.eval hv, Instr.extract, hp]
    · cases hp
  · rename_i x
    split at hp
    · rename_i ad hx
      simp at hp; subst hp
      simp [execOp, F.eval hx]
    · cases hp
  · rename_i fn first captured
    split at hp
    · rename_i x y hx hy
      simp at hp; subst hp
      simp [execOp, Instr.makeFunc, mapA (F.evals hx), mapA (F.evals hy)]
    · cases hp
  · cases hp

section
variable {C : Ctx} {K : K3} {tm lo : Env} {h : Heap} {ops : Array Oper} {r : List Oper} {op : Op} {ty : TypeId} {pos : String} {af : Array Edge}
theorem Runs.pure {v : Value} (hp : pureOp tm lo op = some v) : Runs C tm lo h op (fun v' h' => v' = v ∧ h' = h) :=
  fun _ w F hh _ _ _ _ _ => ⟨v, w, pure_run hp F w _ _ _ _ _, Rest.refl w, rfl, hh⟩
theorem WR.s {d : Nat} {v : Value} (hp : pureOp tm lo op = some v) (hd : C.isT d = true) (H : WR C ops r K ((d, v) :: tm) lo h) :
    WR C ops (⟨some d, op, ty, pos, af, none⟩ :: r) K tm lo h := WR.stepT (Runs.pure hp) hd (by rintro _ _ ⟨rfl, rfl⟩; exact H)
theorem WR.sL {d : Nat} {v : Value} (hp : pureOp tm lo op = some v) (hd : C.isL d = true) (H : WR C ops r K tm ((d, v) :: lo) h) :
    WR C ops (⟨some d, op, ty, pos, af, none⟩ :: r) K tm lo h := WR.stepL (Runs.pure hp) hd (by rintro _ _ ⟨rfl, rfl⟩; exact H)
end
end Go.Eng
namespace Go.Eng

/-- The value of a cell. -/
def hc (h : Heap) (b o : Nat) : Option Value :=
  match h[b]? with
  | some (.cells c _ _) => c[o]?
  | _ => none
theorem cell_hc (w : World) (b o : Nat) : w.cell? ⟨b, o, none⟩ = hc w.heap b o := by
  simp only [World.cell?, hc]
  split <;> simp_all
theorem hc_lt {h : Heap} {b o : Nat} {v : Value} (H : hc h b o = some v) : b < h.size := by
  rcases Nat.lt_or_ge b h.size with q | q
  · exact q
  · simp [hc, Array.getElem?_eq_none q] at H
theorem add_plain (b o n : Nat) : (⟨b, o, none⟩ : Addr).add n = ⟨b, o + n, none⟩ := by unfold Addr.add; split <;> simp_all

/-- Old blocks of S are as they were. -/
structure Keeps (S : Nat → Prop) (h h' : Heap) : Prop where
  size : h.size ≤ h'.size
  blk : ∀ b, b < h.size → S b → h'[b]? = h[b]?
/-- Old blocks are as they were, but those of L. -/
abbrev Exc (L : List Nat) : Heap → Heap → Prop := Keeps (fun b => b ∉ L)
abbrev Ext : Heap → Heap → Prop := Keeps (fun _ => True)

theorem Keeps.refl (S : Nat → Prop) (h : Heap) : Keeps S h h := ⟨Nat.le_refl _, fun _ _ _ => rfl⟩
theorem Keeps.trans {S : Nat → Prop} {a b c : Heap} (x : Keeps S a b) (y : Keeps S b c) : Keeps S a c :=
  ⟨Nat.le_trans x.size y.size, fun i hi s => (y.blk i (Nat.lt_of_lt_of_le hi x.size) s).trans (x.blk i hi s)⟩
theorem Keeps.mono {S T : Nat → Prop} {a b : Heap} (x : Keeps S a b) (k : ∀ i, i < a.size → T i → S i) : Keeps T a b := ⟨x.size, fun i hi s => x.blk i hi (k i hi s)⟩
theorem Keeps.ext {S : Nat → Prop} {a b : Heap} (x : Ext a b) : Keeps S a b := ⟨x.size, fun i hi _ => x.blk i hi trivial⟩
theorem Ext.refl (h : Heap) : Ext h h := Keeps.refl _ h
/-- A later step that leaves what was there at the start. -/
theorem Keeps.then {S T : Nat → Prop} {a b c : Heap} (x : Keeps S a b) (y : Keeps T b c) (k : ∀ i, i < a.size → S i → T i) : Keeps S a c :=
  ⟨Nat.le_trans x.size y.size, fun i hi s => (y.blk i (Nat.lt_of_lt_of_le hi x.size) (k i hi s)).trans (x.blk i hi s)⟩
theorem Keeps.push {S : Nat → Prop} {a b : Heap} (x : Keeps S a b) (o : Obj) : Keeps S a (b.push o) :=
  x.trans ⟨by simp, fun i hi _ => by rw [Array.getElem?_push, if_neg (by omega)]⟩

def put (h : Heap) (b : Nat) (o : Obj) : Heap := h.setIfInBounds b o
theorem put_size (h : Heap) (b : Nat) (o : Obj) : (put h b o).size = h.size := by simp [put]
theorem put_self {h : Heap} {b : Nat} (o : Obj) (hb : b < h.size) : (put h b o)[b]? = some o := by simp [put, hb]
theorem put_ne {h : Heap} {b i : Nat} (o : Obj) (hb : i ≠ b) : (put h b o)[i]? = h[i]? := by simp [put, Array.getElem?_setIfInBounds_ne (Ne.symm hb)]
theorem push_self (h : Heap) (o : Obj) : (h.push o)[h.size]? = some o := by simp
theorem push_old {h : Heap} {i : Nat} (o : Obj) (hi : i < h.size) : (h.push o)[i]? = h[i]? := by rw [Array.getElem?_push, if_neg (by omega)]
theorem Keeps.put {S : Nat → Prop} {a b : Heap} (x : Keeps S a b) {i : Nat} (o : Obj) (hi : a.size ≤ i ∨ ¬ S i) : Keeps S a (put b i o) :=
  ⟨by rw [put_size]; exact x.size, fun j hj s => by
    have : j ≠ i := by rintro rfl; rcases hi with q | q; omega; exact q s
    rw [put_ne o this]; exact x.blk j hj s⟩

theorem Keeps.hc {S : Nat → Prop} {a b : Heap} (x : Keeps S a b) {i o : Nat} {v : Value} (H : hc a i o = some v) (s : S i) : hc b i o = some v := by
  have := hc_lt H
  unfold Eng.hc at H ⊢
  rw [x.blk i this s]; exact H

/-- A slice that reads as these cells; its block is one of S. -/
def Sl (S : Nat → Prop) (h : Heap) (sz : Nat) (v : Value) (n : Nat) (cs : List Value) : Prop :=
  cs.length = n * sz ∧ n ≤ 140737488355328 ∧ ∃ A cap, v = .slice A n cap ∧ n ≤ cap ∧ (A = none → cap = 0) ∧ (0 < n → ∃ b off, A = some ⟨b, off, none⟩ ∧ S b ∧ ∀ j, j < n * sz → hc h b (off + j) = cs[j]?)

theorem Sl.mono {S T : Nat → Prop} {h : Heap} {sz n : Nat} {v : Value} {cs : List Value} (x : Sl S h sz v n cs) (k : ∀ b, b < h.size → S b → T b) (hsz : 0 < sz) : Sl T h sz v n cs := by
  obtain ⟨h1, h2, A, cap, rfl, h3, h0, h4⟩ := x
  refine ⟨h1, h2, A, cap, rfl, h3, h0, fun hn => ?_⟩
  obtain ⟨b, off, rfl, s, g⟩ := h4 hn
  refine ⟨b, off, rfl, k b ?_ s, g⟩
  have hp : 0 < n * sz := Nat.mul_pos hn hsz
  have := g 0 hp
  rw [List.getElem?_eq_getElem (by omega)] at this
  exact hc_lt this
theorem Sl.keep {S T : Nat → Prop} {h h' : Heap} {sz n : Nat} {v : Value} {cs : List Value} (x : Sl S h sz v n cs) (k : Keeps T h h') (q : ∀ b, b < h.size → S b → T b) : Sl S h' sz v n cs := by
  obtain ⟨h1, h2, A, cap, rfl, h3, h0, h4⟩ := x
  refine ⟨h1, h2, A, cap, rfl, h3, h0, fun hn => ?_⟩
  obtain ⟨b, off, rfl, s, g⟩ := h4 hn
  refine ⟨b, off, rfl, s, fun j hj => ?_⟩
  have := g j hj
  rw [List.getElem?_eq_getElem (by omega)] at this ⊢
  exact k.hc this (q b (hc_lt this) s)
theorem Sl.ext {S : Nat → Prop} {h h' : Heap} {sz n : Nat} {v : Value} {cs : List Value} (x : Sl S h sz v n cs) (k : Ext h h') : Sl S h' sz v n cs := x.keep k fun _ _ _ => trivial
theorem Sl.nil (S : Nat → Prop) (h : Heap) (sz : Nat) : Sl S h sz (.slice none 0 0) 0 [] := ⟨by simp, by omega, none, 0, rfl, by omega, fun _ => rfl, fun q => absurd q (by omega)⟩

def bcells (l : List UInt8) : List Value := l.map fun x => vB x
def icells (l : List Int) : List Value := l.map fun x => vI x
def tcells (l : List Bool) : List Value := l.map fun x => .bool x
theorem bcells_length (l : List UInt8) : (bcells l).length = l.length := by simp [bcells]
theorem icells_length (l : List Int) : (icells l).length = l.length := by simp [icells]
theorem tcells_length (l : List Bool) : (tcells l).length = l.length := by simp [tcells]

def Bytes (S : Nat → Prop) (h : Heap) (v : Value) (l : List UInt8) : Prop := Sl S h 1 v l.length (bcells l)
def Ints (S : Nat → Prop) (h : Heap) (v : Value) (l : List Int) : Prop := Sl S h 1 v l.length (icells l)
def Bools (S : Nat → Prop) (h : Heap) (v : Value) (l : List Bool) : Prop := Sl S h 1 v l.length (tcells l)

/-- A row that the call may append to and write. -/
def Own (h : Heap) (base : Nat) (T : TypeId) (sz : Nat) (v : Value) (n : Nat) (xs : List Value) : Prop :=
  xs.length = n * sz ∧
  ((v = .slice none 0 0 ∧ n = 0) ∨
   ∃ g cap cur, v = .slice (some ⟨g, 0, none⟩) n cap ∧ base ≤ g ∧ h[g]? = some (.cells cur T (0, 0)) ∧ n ≤ cap ∧ cap ≤ maxLen ∧ cur.size = cap * sz ∧ cur.toList.take (n * sz) = xs)
theorem own_iff (w : World) (base : Nat) (T : TypeId) (sz : Nat) (v : Value) (n : Nat) (xs : List Value) : w.ownsRow base T sz v n xs ↔ Own w.heap base T sz v n xs := Iff.rfl
end Go.Eng
namespace Go.Eng

/-- It yields v and leaves the heap. -/
def RunsV (C : Ctx) (tm lo : Env) (h : Heap) (op : Op) (v : Value) : Prop :=
  ∀ a w, Fits C tm lo a → w.heap = h → ∀ dst ty pos af gd, (execOp a.eval ⟨dst, op, ty, pos, af, gd⟩).run C.P w = .ok (.value v) w

/-- The place of a slice's cell. -/
def eptr : Value → Nat → Value
  | .slice (some a) _ _, j => .pointer (some (a.add j))
  | _, _ => undef
/-- A slice that begins somewhere. -/
def Has (v : Value) (n : Nat) : Prop := ∃ a cap, v = .slice (some a) n cap

section
variable {C : Ctx} {K : K3} {tm lo : Env} {h : Heap} {ops : Array Oper} {r : List Oper} {op : Op} {ty : TypeId} {pos : String} {af : Array Edge}

theorem RunsV.runs {v : Value} (H : RunsV C tm lo h op v) : Runs C tm lo h op (fun v' h' => v' = v ∧ h' = h) :=
  fun a w F hh dst ty pos af gd => ⟨v, w, H a w F hh dst ty pos af gd, Rest.refl w, rfl, hh⟩
theorem RunsV.p {v : Value} (hp : pureOp tm lo op = some v) : RunsV C tm lo h op v := fun _ w F _ _ _ _ _ _ => pure_run hp F w _ _ _ _ _
theorem WR.v {d : Nat} {v : Value} (hp : RunsV C tm lo h op v) (hd : C.isT d = true) (H : WR C ops r K ((d, v) :: tm) lo h) :
    WR C ops (⟨some d, op, ty, pos, af, none⟩ :: r) K tm lo h := WR.stepT hp.runs hd (by rintro _ _ ⟨rfl, rfl⟩; exact H)
theorem WR.vL {d : Nat} {v : Value} (hp : RunsV C tm lo h op v) (hd : C.isL d = true) (H : WR C ops r K tm ((d, v) :: lo) h) :
    WR C ops (⟨some d, op, ty, pos, af, none⟩ :: r) K tm lo h := WR.stepL hp.runs hd (by rintro _ _ ⟨rfl, rfl⟩; exact H)

/-! #### Whole numbers -/
theorem wrap64_of {n : Int} (h1 : -9223372036854775808 ≤ n) (h2 : n < 9223372036854775808) : IntKind.i64.wrap n = n := by
  simp only [IntKind.wrap, IntKind.bits, IntKind.signed]
  simp
  split <;> omega
theorem RunsV.add {x y : Operand} {T U : TypeId} {a b : Int} (hx : opv tm lo x = some (vI a)) (hy : opv tm lo y = some (vI b)) (hb : -9223372036854775808 ≤ a + b ∧ a + b < 9223372036854775808) :
    RunsV C tm lo h (.binOp .add T x y U) (vI (a + b)) :=
  RunsV.p (by simp [pureOp, hx, hy, eqk, intBin, wrap64_of hb.1 hb.2])
theorem RunsV.sub {x y : Operand} {T U : TypeId} {a b : Int} (hx : opv tm lo x = some (vI a)) (hy : opv tm lo y = some (vI b)) (hb : -9223372036854775808 ≤ a - b ∧ a - b < 9223372036854775808) :
    RunsV C tm lo h (.binOp .sub T x y U) (vI (a - b)) :=
  RunsV.p (by simp [pureOp, hx, hy, eqk, intBin, wrap64_of hb.1 hb.2])
theorem RunsV.mul {x y : Operand} {T U : TypeId} {a b : Int} (hx : opv tm lo x = some (vI a)) (hy : opv tm lo y = some (vI b)) (hb : -9223372036854775808 ≤ a * b ∧ a * b < 9223372036854775808) :
    RunsV C tm lo h (.binOp .mul T x y U) (vI (a * b)) :=
  RunsV.p (by simp [pureOp, hx, hy, eqk, intBin, wrap64_of hb.1 hb.2])
theorem RunsV.quo {x y : Operand} {T U : TypeId} {a b : Int} (hx : opv tm lo x = some (vI a)) (hy : opv tm lo y = some (vI b)) (hb : b ≠ 0) (hr : -9223372036854775808 ≤ a.tdiv b ∧ a.tdiv b < 9223372036854775808) :
    RunsV C tm lo h (.binOp .quo T x y U) (vI (a.tdiv b)) := fun c w F _ _ _ _ _ _ => by
  simp [execOp, F.eval hx, F.eval hy, eqGuard, binOp, Op.intDiv, hb, wrap64_of hr.1 hr.2]
theorem RunsV.rem {x y : Operand} {T U : TypeId} {a b : Int} (hx : opv tm lo x = some (vI a)) (hy : opv tm lo y = some (vI b)) (hb : b ≠ 0) :
    RunsV C tm lo h (.binOp .rem T x y U) (vI (a.tmod b)) := fun c w F _ _ _ _ _ _ => by
  simp [execOp, F.eval hx, F.eval hy, eqGuard, binOp, Op.intDiv, hb]
theorem RunsV.shl {x y : Operand} {T U : TypeId} {k k' : IntKind} {a b : Int} (hx : opv tm lo x = some (.int k a)) (hy : opv tm lo y = some (.int k' b)) (hb : 0 ≤ b) :
    RunsV C tm lo h (.binOp .shl T x y U) (.int k (k.wrap (a * 2 ^ min b.toNat k.bits))) := fun c w F _ _ _ _ _ _ => by
  simp [execOp, F.eval hx, F.eval hy, eqGuard, binOp, Op.shift, show ¬ b < 0 by omega]
theorem RunsV.shr {x y : Operand} {T U : TypeId} {k k' : IntKind} {a b : Int} (hx : opv tm lo x = some (.int k a)) (hy : opv tm lo y = some (.int k' b)) (hb : 0 ≤ b) :
    RunsV C tm lo h (.binOp .shr T x y U) (.int k (a.fdiv (2 ^ min b.toNat k.bits))) := fun c w F _ _ _ _ _ _ => by
  simp [execOp, F.eval hx, F.eval hy, eqGuard, binOp, Op.shift, show ¬ b < 0 by omega]
theorem RunsV.cvI {S T : TypeId} {k k' : IntKind} {x : Operand} {a : Int} [u : Und C.P T (.int k)] (d : TypeDesc) [s : Und C.P S d] (hx : opv tm lo x = some (.int k' a)) :
    RunsV C tm lo h (.convert S T x) (.int k (k.wrap a)) := fun c w F _ _ _ _ _ _ => by
  simp only [execOp, F.eval hx, convert, underlying, Sem.run_bind, run_program, Result.andThen_ok, s.h, u.h, Sem.run_pure]
  cases d <;> simp [Conv.intToInt]
theorem wrap8_of {n : Nat} (h : n < 256) : IntKind.u8.wrap (n : Int) = (n : Int) := by
  simp only [IntKind.wrap, IntKind.bits, IntKind.signed]
  simp
  omega
theorem bytewrap (x y : UInt8) : (BitVec.ofInt 8 (x.toNat : Int) ^^^ BitVec.ofInt 8 (y.toNat : Int)).toNat = (x ^^^ y).toNat := by
  have : ∀ z : UInt8, BitVec.ofInt 8 (z.toNat : Int) = z.toBitVec := fun z => by
    apply BitVec.eq_of_toNat_eq
    simp
  rw [this, this, ← UInt8.toBitVec_xor]
  rfl
theorem RunsV.xorB {x y : Operand} {T U : TypeId} {a b : UInt8} (hx : opv tm lo x = some (vB a)) (hy : opv tm lo y = some (vB b)) :
    RunsV C tm lo h (.binOp .xor T x y U) (vB (a ^^^ b)) :=
  RunsV.p (by
    have hl := (a ^^^ b).toNat_lt
    simp only [pureOp, hx, hy, eqk, intBin, cond_true]
    show some (Value.int .u8 (IntKind.u8.wrap ((BitVec.ofInt 8 (a.toNat : Int) ^^^ BitVec.ofInt 8 (b.toNat : Int)).toNat : Int))) = _
    rw [bytewrap, wrap8_of (by omega)])

/-! #### Lengths, places -/
theorem RunsV.len {x : Operand} {T E : TypeId} {A : Option Addr} {n cap : Nat} [u : Und C.P T (.slice E)] (hx : opv tm lo x = some (.slice A n cap)) :
    RunsV C tm lo h (.call { callee := .builtin .len, args := #[x], argTypes := #[T] }) (vI n) := fun c w F _ _ _ _ _ _ => by
  simp [execOp, resolve, invoke, builtin, Builtin.len_, F.eval hx, underlying, u.h, goInt]
theorem RunsV.lenS {x : Operand} {T : TypeId} {s : ByteArray} [u : Und C.P T .string] (hx : opv tm lo x = some (.string s)) :
    RunsV C tm lo h (.call { callee := .builtin .len, args := #[x], argTypes := #[T] }) (vI s.size) := fun c w F _ _ _ _ _ _ => by
  simp [execOp, resolve, invoke, builtin, Builtin.len_, F.eval hx, underlying, u.h, goInt]
theorem Sl.form {S : Nat → Prop} {sz n : Nat} {v : Value} {cs : List Value} (x : Sl S h sz v n cs) : ∃ A cap, v = .slice A n cap := by
  obtain ⟨_, _, A, cap, e, _⟩ := x; exact ⟨A, cap, e⟩
theorem RunsV.lenSl {S : Nat → Prop} {sz n : Nat} {v : Value} {cs : List Value} (q : Sl S h sz v n cs) {x : Operand} {T E : TypeId} [u : Und C.P T (.slice E)] (hx : opv tm lo x = some v) :
    RunsV C tm lo h (.call { callee := .builtin .len, args := #[x], argTypes := #[T] }) (vI n) := by
  obtain ⟨A, cap, rfl⟩ := q.form
  exact RunsV.len hx
theorem Own.form {base T sz n : Nat} {v : Value} {xs : List Value} (o : Own h base T sz v n xs) : ∃ A cap, v = .slice A n cap := by
  rcases o.2 with ⟨rfl, rfl⟩ | ⟨g, cap, _, rfl, _⟩
  · exact ⟨_, _, rfl⟩
  · exact ⟨_, _, rfl⟩
theorem RunsV.lenO {base B sz n : Nat} {v : Value} {xs : List Value} (o : Own h base B sz v n xs) {x : Operand} {T E : TypeId} [u : Und C.P T (.slice E)] (hx : opv tm lo x = some v) :
    RunsV C tm lo h (.call { callee := .builtin .len, args := #[x], argTypes := #[T] }) (vI n) := by
  obtain ⟨A, cap, rfl⟩ := o.form
  exact RunsV.len hx
theorem Sl.has {S : Nat → Prop} {sz n : Nat} {v : Value} {cs : List Value} (x : Sl S h sz v n cs) (hn : 0 < n) : Has v n := by
  obtain ⟨_, _, A, cap, rfl, _, _, g⟩ := x
  obtain ⟨b, off, rfl, _⟩ := g hn
  exact ⟨_, _, rfl⟩
theorem Own.has {base T sz n : Nat} {v : Value} {xs : List Value} (o : Own h base T sz v n xs) (hn : 0 < n) : Has v n := by
  rcases o.2 with ⟨_, rfl⟩ | ⟨g, cap, _, rfl, _⟩
  · omega
  · exact ⟨_, _, rfl⟩
/-- &x[i]. -/
theorem RunsV.ixS {v : Value} {n : Nat} (q : Has v n) (k : Nat) (hk : k < n) {x i : Operand} {T E : TypeId} {z : Value} {sz bytes : Nat} [u : Und C.P T (.slice E)] [e : Inf C.P E z sz bytes] {ik : IntKind} {j : Int}
    (hx : opv tm lo x = some v) (hi : opv tm lo i = some (.int ik j)) (hj : j = (k : Int)) : RunsV C tm lo h (.indexAddr T x i) (eptr v (k * sz)) := fun c w F _ _ _ _ _ _ => by
  obtain ⟨a, cap, rfl⟩ := q
  subst hj
  obtain ⟨info, h1, h2, h3, h4⟩ := e.parts
  simp [execOp, F.eval hx, F.eval hi, Instr.indexAt, asIntOf, underlying, u.h, sizeOf, typeInfo, h1, h3, hk, eptr]
theorem RunsV.ix {v : Value} {n : Nat} (q : Has v n) (k : Nat) (hk : k < n) {x i : Operand} {T E : TypeId} {z : Value} {bytes : Nat} [u : Und C.P T (.slice E)] [e : Inf C.P E z 1 bytes] {ik : IntKind} {j : Int}
    (hx : opv tm lo x = some v) (hi : opv tm lo i = some (.int ik j)) (hj : j = (k : Int)) : RunsV C tm lo h (.indexAddr T x i) (eptr v k) := by
  have := RunsV.ixS (C := C) (h := h) q k hk hx hi hj (T := T) (E := E) (z := z) (sz := 1) (bytes := bytes)
  simpa using this

/-- Of one cell. -/
def scal : TypeDesc → Bool
  | .struct _ | .array _ _ => false
  | _ => true
theorem RunsV.ldc {T : TypeId} {d : TypeDesc} [u : Und C.P T d] (hd : scal d = true) {x : Operand} {b o : Nat} {v : Value} (hx : opv tm lo x = some (.pointer (some ⟨b, o, none⟩))) (hv : hc h b o = some v) :
    RunsV C tm lo h (.load T x) v := fun c w F hh _ _ _ _ _ => by
  subst hh
  have := cell_hc w b o
  cases d <;> simp [scal] at hd <;> simp [execOp, F.eval hx, Instr.loadAt, Instr.sureAddr, loadVar, isAgg, underlying, u.h, this, hv]
/-- A slice's cell. -/
theorem RunsV.ldE {S : Nat → Prop} {sz n : Nat} {v : Value} {cs : List Value} (q : Sl S h sz v n cs) {j : Nat} (hj : j < n * sz) {T : TypeId} {d : TypeDesc} [u : Und C.P T d] (hd : scal d = true) {x : Operand} {y : Value}
    (hx : opv tm lo x = some (eptr v j)) (hy : cs[j]? = some y) : RunsV C tm lo h (.load T x) y := by
  obtain ⟨h1, _, A, cap, rfl, _, _, g⟩ := q
  obtain ⟨b, off, rfl, _, g⟩ := g (by rcases Nat.eq_zero_or_pos n with e | e; subst e; simp at hj; exact e)
  exact RunsV.ldc hd (by rw [hx]; simp [eptr, add_plain]) ((g j hj).trans hy)
theorem Own.cell {base T sz n : Nat} {v : Value} {xs : List Value} (o : Own h base T sz v n xs) {j : Nat} (hj : j < n * sz) : ∃ g cap, v = .slice (some ⟨g, 0, none⟩) n cap ∧ hc h g j = xs[j]? := by
  rcases o.2 with ⟨_, rfl⟩ | ⟨g, cap, cur, rfl, _, hg, _, _, hs, ht⟩
  · simp at hj
  · refine ⟨g, cap, rfl, ?_⟩
    subst ht
    simp [hc, hg, hj]
theorem RunsV.ldO {base B sz n : Nat} {v : Value} {xs : List Value} (o : Own h base B sz v n xs) {j : Nat} (hj : j < n * sz) {T : TypeId} {d : TypeDesc} [u : Und C.P T d] (hd : scal d = true) {x : Operand} {y : Value}
    (hx : opv tm lo x = some (eptr v j)) (hy : xs[j]? = some y) : RunsV C tm lo h (.load T x) y := by
  obtain ⟨g, cap, rfl, e⟩ := o.cell hj
  exact RunsV.ldc hd (by rw [hx]; simp [eptr, add_plain]) (e.trans hy)
end
end Go.Eng
