/-
  The framework of abstract values and abstract code (1 of 4): what a function of the program does is read off a list of abstract operations. No condition; it speaks of any program.
-/
import Derived.WalkKit
import Derived.OrdersIn
import Derived.RangeFuncLeaves
set_option linter.unusedVariables false
set_option linter.unusedSimpArgs false
namespace Go.Proofs.YtlbafapmhjfobaaGreatDoor

/-- two lists, element by element -/
def F2 {α β : Type} (R : α → β → Prop) : List α → List β → Prop
  | [], [] => True
  | a :: l, b :: m => R a b ∧ F2 R l m
  | _, _ => False
theorem F2.length {α β : Type} {R : α → β → Prop} : ∀ {l : List α} {m : List β}, F2 R l m → l.length = m.length
  | [], [], _ => rfl
  | _ :: l, _ :: m, h => by simp [F2.length h.2]
  | [], _ :: _, h => h.elim
  | _ :: _, [], h => h.elim
theorem F2.mono {α β : Type} {R R' : α → β → Prop} : ∀ {l : List α} {m : List β}, (∀ a ∈ l, ∀ b, R a b → R' a b) → F2 R l m → F2 R' l m
  | [], [], _, _ => trivial
  | a :: l, b :: m, hr, h => ⟨hr a (by simp) b h.1, F2.mono (fun a ha => hr a (by simp [ha])) h.2⟩
  | [], _ :: _, _, h => h.elim
  | _ :: _, [], _, h => h.elim
theorem F2.get {α β : Type} {R : α → β → Prop} : ∀ {l : List α} {m : List β} {j : Nat} {x : α} {u : β}, F2 R l m → l[j]? = some x → m[j]? = some u → R x u
  | a :: l, b :: m, 0, x, u, h, hx, hu => by simp at hx hu; subst hx; subst hu; exact h.1
  | a :: l, b :: m, j + 1, x, u, h, hx, hu => F2.get (j := j) h.2 (by simpa using hx) (by simpa using hu)
  | [], [], _, _, _, _, hx, _ => by simp at hx
  | [], _ :: _, _, _, _, h, _, _ => h.elim
  | _ :: _, [], _, _, _, h, _, _ => h.elim
theorem F2.of_get {α β : Type} {R : α → β → Prop} : ∀ {l : List α} {m : List β}, l.length = m.length → (∀ (j : Nat) (x : α) (u : β), l[j]? = some x → m[j]? = some u → R x u) → F2 R l m
  | [], [], _, _ => trivial
  | a :: l, b :: m, hl, h => ⟨h 0 a b rfl rfl, F2.of_get (by simpa using hl) (fun j x u hx hu => h (j + 1) x u (by simpa using hx) (by simpa using hu))⟩
  | [], _ :: _, hl, _ => by simp at hl
  | _ :: _, [], hl, _ => by simp at hl
theorem F2.append {α β : Type} {R : α → β → Prop} : ∀ {l l' : List α} {m m' : List β}, F2 R l m → F2 R l' m' → F2 R (l ++ l') (m ++ m')
  | [], _, [], _, _, h => h
  | _ :: _, _, _ :: _, _, h, h' => ⟨h.1, F2.append h.2 h'⟩
  | [], _, _ :: _, _, h, _ => h.elim
  | _ :: _, _, [], _, h, _ => h.elim
theorem F2.take {α β : Type} {R : α → β → Prop} : ∀ {l : List α} {m : List β} (n : Nat), F2 R l m → F2 R (l.take n) (m.take n)
  | _, _, 0, _ => by simp [F2]
  | [], [], n + 1, _ => by simp [F2]
  | _ :: _, _ :: _, n + 1, h => ⟨h.1, F2.take n h.2⟩
  | [], _ :: _, _ + 1, h => h.elim
  | _ :: _, [], _ + 1, h => h.elim
theorem F2.drop {α β : Type} {R : α → β → Prop} : ∀ {l : List α} {m : List β} (n : Nat), F2 R l m → F2 R (l.drop n) (m.drop n)
  | _, _, 0, h => by simpa using h
  | [], [], n + 1, _ => by simp [F2]
  | _ :: _, _ :: _, n + 1, h => by simpa using F2.drop n h.2
  | [], _ :: _, _ + 1, h => h.elim
  | _ :: _, [], _ + 1, h => h.elim
theorem F2.ex {α β : Type} {R : α → β → Prop} {l : List α} {m : List β} {j : Nat} {x : α} (h : F2 R l m) (hx : l[j]? = some x) : ∃ u, m[j]? = some u ∧ R x u := by
  have hj : j < m.length := by
    have := (List.getElem?_eq_some_iff.1 hx).1
    rw [← h.length]; exact this
  exact ⟨m[j], by simp [hj], h.get hx (by simp [hj])⟩

/-- An abstract cell. -/
inductive AV where
  | any
  | v (x : Value)
  | li (k : Nat) (xs : List (List AV))
  | ref (cs : List AV)
  | fn (f : Nat) (first : List (Bool × List AV)) (caps : List AV)
  | own (b n : Nat)
  | ptr (b off : Nat)
  | ept (b n i off : Nat)
  | part (b n lo hi : Nat)
  | mp (b : Nat)
  deriving Inhabited
abbrev AV.i (n : Int) : AV := .v (.int .i64 n)
abbrev AV.b (t : Bool) : AV := .v (.bool t)
abbrev AV.nil : AV := .v (.slice none 0 0)

/-- What a slot holds: nothing known; a value's cells (ag: it is an aggregate); a tuple. -/
inductive SV where
  | top
  | c (ag : Bool) (cs : List AV)
  | tup (xs : List (Bool × List AV))
  deriving Inhabited

/-- A tracked block. -/
inductive HE where
  | box (cs : List AV)
  | row (k : Nat) (xs : List (List AV))
  | keys (ds : List (Option IntKind)) (ks : List (List Value))
  deriving Inhabited

def AV.pers : AV → Bool
  | .v _ | .li .. | .ref _ | .fn .. => true
  | _ => false
def AV.id? : AV → Option Nat
  | .own b _ | .ptr b _ | .ept b _ _ _ | .part b _ _ _ | .mp b => some b
  | _ => none
def SV.cells : SV → List AV
  | .top => []
  | .c _ cs => cs
  | .tup xs => xs.flatMap (·.2)
def HE.cells : HE → List AV
  | .box cs => cs
  | _ => []

/-- the value of some cells -/
def valOf (p : Bool × List AV) (us : List Value) : Value := if p.1 then .agg us.toArray else us.headD (.tuple #[])
/-- A persistent abstract cell is realized: all that it leads to lies in blocks that are never written again. -/
inductive PR (w : World) (imm : Nat → Prop) : AV → Value → Prop
  | v {x} (h : x.oneCell' = true) : PR w imm (.v x) x
  | linil {k} : PR w imm (.li k []) (.slice none 0 0)
  | li {k xs blk off len cap} (us : List Value) (h1 : xs.length = len) (h2 : len ≤ cap) (h3 : ∀ x ∈ xs, x.length = k) (h4 : us.length = xs.flatten.length)
      (h5 : ∀ (j : Nat), j < us.length → w.cell? ⟨blk, off + j, none⟩ = us[j]?) (h6 : xs ≠ [] → imm blk)
      (h7 : ∀ (j : Nat) (x : AV) (u : Value), xs.flatten[j]? = some x → us[j]? = some u → PR w imm x u) : PR w imm (.li k xs) (.slice (some ⟨blk, off, none⟩) len cap)
  | ref {cs blk off} (us : List Value) (h4 : us.length = cs.length) (h5 : ∀ (j : Nat), j < us.length → w.cell? ⟨blk, off + j, none⟩ = us[j]?) (h6 : imm blk)
      (h7 : ∀ (j : Nat) (x : AV) (u : Value), cs[j]? = some x → us[j]? = some u → PR w imm x u) : PR w imm (.ref cs) (.pointer (some ⟨blk, off, none⟩))
  | fn {f first caps} (vs : List (List Value)) (us : List Value) (h1 : vs.length = first.length) (h2 : us.length = caps.length)
      (h3 : ∀ (j : Nat) (p : Bool × List AV) (x : List Value), first[j]? = some p → vs[j]? = some x → x.length = p.2.length ∧ (p.1 = false → x.length = 1))
      (h4 : ∀ (j : Nat) (p : Bool × List AV) (x : List Value) (i : Nat) (y : AV) (u : Value), first[j]? = some p → vs[j]? = some x → p.2[i]? = some y → x[i]? = some u → PR w imm y u)
      (h7 : ∀ (j : Nat) (x : AV) (u : Value), caps[j]? = some x → us[j]? = some u → PR w imm x u) :
      PR w imm (.fn f first caps) (.func (.func f) (List.zipWith valOf first vs).toArray us.toArray)

theorem cell_of_heap {w w' : World} {b : Nat} (h : w'.heap[b]? = w.heap[b]?) (o : Nat) : w'.cell? ⟨b, o, none⟩ = w.cell? ⟨b, o, none⟩ := by
  simp only [World.cell?, h]

theorem PR.mono {w w' : World} {imm imm' : Nat → Prop} (hi : ∀ b, imm b → imm' b) (hw : ∀ b, imm b → w'.heap[b]? = w.heap[b]?) {x : AV} {u : Value} (h : PR w imm x u) : PR w' imm' x u := by
  induction h with
  | v h => exact .v h
  | linil => exact .linil
  | @li k xs blk off len cap us h1 h2 h3 h4 h5 h6 h7 ih =>
    refine .li us h1 h2 h3 h4 (fun j hj => ?_) (fun hx => hi _ (h6 hx)) ih
    have hne : xs ≠ [] := by
      rintro rfl
      simp at h4
      subst h4
      simp at hj
    rw [cell_of_heap (hw _ (h6 hne))]
    exact h5 j hj
  | ref us h4 h5 h6 h7 ih => exact .ref us h4 (fun j hj => by rw [cell_of_heap (hw _ h6)]; exact h5 j hj) (hi _ h6) ih
  | fn vs us h1 h2 h3 h4 h7 ih4 ih7 => exact .fn vs us h1 h2 h3 ih4 ih7

theorem PR.one {w : World} {imm : Nat → Prop} {x : AV} {u : Value} (h : PR w imm x u) : u.oneCell' = true := by
  cases h <;> first | assumption | rfl
theorem PR.pers {w : World} {imm : Nat → Prop} {x : AV} {u : Value} (h : PR w imm x u) : x.pers = true := by
  cases h <;> rfl

/-- What a tracked block is, concretely: its number; of a row: the slice's value, its length, the cells of an element. -/
structure Cn where
  blk : Nat
  val : Value
  len : Nat
  k : Nat

/-- a part of a slice -/
def subV (v : Value) (k lo hi : Nat) : Value :=
  match v with
  | .slice (some ⟨b, o, r⟩) _ cap => .slice (some (if cap = lo then ⟨b, o, r⟩ else ⟨b, o + lo * k, r⟩)) (hi - lo) (cap - lo)
  | v => v
def RA (w : World) (imm : Nat → Prop) (ρ : Nat → Cn) (x : AV) (u : Value) : Prop :=
  match x with
  | .any => u.oneCell' = true
  | .own b n => u.oneCell' = true ∧ (n = (ρ b).len → u = (ρ b).val)
  | .ptr b off => u = .pointer (some ⟨(ρ b).blk, off, none⟩)
  | .ept b n i off => u.oneCell' = true ∧ (n = (ρ b).len → u = .pointer (some ⟨(ρ b).blk, i * (ρ b).k + off, none⟩))
  | .part b n lo hi => u.oneCell' = true ∧ (n = (ρ b).len → u = subV (ρ b).val (ρ b).k lo hi)
  | .mp b => u = .map (some (ρ b).blk)
  | x => PR w imm x u

theorem RA.of_pers {w imm ρ x u} (hx : AV.pers x = true) : RA w imm ρ x u = PR w imm x u := by
  cases x <;> first | rfl | (simp [AV.pers] at hx)
theorem RA.one {w imm ρ x u} (h : RA w imm ρ x u) : u.oneCell' = true := by
  cases x <;> simp only [RA] at h <;> first | exact h | exact h.1 | (subst h; rfl) | exact h.one
theorem RA.of_PR {w imm ρ x u} (h : PR w imm x u) : RA w imm ρ x u := by rw [RA.of_pers h.pers]; exact h

/-- cells -/
def RC (w : World) (imm : Nat → Prop) (ρ : Nat → Cn) (cs : List AV) (us : List Value) : Prop := F2 (RA w imm ρ) cs us
def RV (w : World) (imm : Nat → Prop) (ρ : Nat → Cn) (ag : Bool) (cs : List AV) (u : Value) : Prop :=
  ∃ us, RC w imm ρ cs us ∧ (if ag then u = .agg us.toArray else us = [u])
def RS (w : World) (imm : Nat → Prop) (ρ : Nat → Cn) (x : SV) (u : Value) : Prop :=
  match x with
  | .top => True
  | .c ag cs => RV w imm ρ ag cs u
  | .tup xs => ∃ us : List Value, u = .tuple us.toArray ∧ F2 (fun p u => RV w imm ρ p.1 p.2 u) xs us

def HE.uses (he : HE) (c : Cn) : Prop :=
  match he with
  | .row _ _ => c.val ≠ .slice none 0 0
  | _ => True

/-- literal cells of given kinds (none: a bool) -/
def kOk : List (Option IntKind) → List Value → Bool
  | [], [] => true
  | some k :: ds, .int k' _ :: us => k == k' && kOk ds us
  | none :: ds, .bool _ :: us => kOk ds us
  | _, _ => false
def keyOk (ks : List (List Value)) (es : List MapEntry) : Prop := F2 (fun k (e : MapEntry) => e.key = .agg k.toArray ∧ e.val = .bool true) ks es

def RH (w : World) (imm : Nat → Prop) (ρ : Nat → Cn) (c : Cn) (he : HE) : Prop :=
  match he with
  | .box cs => ∃ us elem, w.heap[c.blk]? = some (.cells us.toArray elem) ∧ RC w imm ρ cs us
  | .row k xs => c.len = xs.length ∧ c.k = k ∧ (∀ x ∈ xs, x.length = k) ∧
      ((xs = [] ∧ c.val = .slice none 0 0) ∨
        ∃ cap us rest elem, c.val = .slice (some ⟨c.blk, 0, none⟩) xs.length cap ∧ xs.length ≤ cap ∧ us.length + rest.length = cap * k ∧
          w.heap[c.blk]? = some (.cells (us ++ rest).toArray elem) ∧ F2 (PR w imm) xs.flatten us)
  | .keys ds ks => ∃ es clock, w.heap[c.blk]? = some (.map es clock) ∧ keyOk ks es.toList ∧ ∀ k ∈ ks, kOk ds k = true

/-- the world has grown; of the old blocks only those of S may have turned -/
structure Ext (S : Nat → Prop) (w w' : World) : Prop where
  os : w'.os = w.os
  tape : w'.tape = w.tape
  output : w'.output = w.output
  drawn : w.drawn ≤ w'.drawn
  size : w.heap.size ≤ w'.heap.size
  block : ∀ b, b < w.heap.size → ¬ S b → w'.heap[b]? = w.heap[b]?
theorem Ext.refl (S : Nat → Prop) (w : World) : Ext S w w := ⟨rfl, rfl, rfl, Nat.le_refl _, Nat.le_refl _, fun _ _ _ => rfl⟩
theorem Ext.trans {S S' : Nat → Prop} {a b c : World} (h : Ext S a b) (k : Ext S' b c) (hS : ∀ x, S' x → S x ∨ a.heap.size ≤ x) : Ext S a c :=
  ⟨k.os.trans h.os, k.tape.trans h.tape, k.output.trans h.output, Nat.le_trans h.drawn k.drawn, Nat.le_trans h.size k.size,
   fun i hi hn => (k.block i (Nat.lt_of_lt_of_le hi h.size) (fun hx => (hS i hx).elim hn (fun hx => by omega))).trans (h.block i hi hn)⟩
theorem Ext.mono {S S' : Nat → Prop} {a b : World} (h : Ext S a b) (hS : ∀ x, S x → S' x) : Ext S' a b :=
  ⟨h.os, h.tape, h.output, h.drawn, h.size, fun i hi hn => h.block i hi (fun hx => hn (hS i hx))⟩

/-- The state of a walk. -/
structure St where
  sl : Nat → SV
  hp : Nat → Option HE
  nx : Nat

def upd {α : Type} (f : Nat → α) (i : Nat) (x : α) : Nat → α := fun j => if j = i then x else f j
theorem upd_same {α : Type} (f : Nat → α) (i : Nat) (x : α) : upd f i x i = x := by simp [upd]
theorem upd_ne {α : Type} (f : Nat → α) {i j : Nat} (x : α) (h : j ≠ i) : upd f i x j = f j := by simp [upd, h]
theorem upd_apply {α : Type} (f : Nat → α) (i : Nat) (x : α) (j : Nat) : upd f i x j = if j = i then x else f j := rfl

/-- the blocks that are tracked and really there -/
def usedBy (hp : Nat → Option HE) (ρ : Nat → Cn) : Nat → Prop := fun x => ∃ b he, hp b = some he ∧ he.uses (ρ b) ∧ x = (ρ b).blk
/-- what somebody else holds of the world abides our steps: we write new blocks, and those of Z -/
def JStable (J : (Nat → Prop) → (Nat → Prop) → World → Prop) : Prop :=
  ∀ (imm Z : Nat → Prop) (w : World) (imm' Z' : Nat → Prop) (w' : World) (Wt : Nat → Prop), J imm Z w → (∀ x, Z x → x < w.heap.size ∧ ¬ imm x) → Ext Wt w w' → (∀ x, Wt x → Z x) → (∀ x, imm x → imm' x) →
    (∀ x, imm' x → x < w'.heap.size ∧ (imm x ∨ Z x ∨ w.heap.size ≤ x)) → (∀ x, Z' x → Z x ∨ w.heap.size ≤ x) → J imm' Z' w'
def mark (D : Nat) : Deferred := { target := .collected D, args := #[] }

/-- What stays one during a call's walk: how many slots, what hangs on the frame's exit, the world at the entry, the blocks that were handed over to be written, what was persistent. -/
structure Env where
  nt : Nat
  w0 : World
  S : Nat → Prop
  imm0 : Nat → Prop
  gl : Nat → Option (List AV)
  defs : List Deferred
  q : Bool
  pinr : Option Cn
  pin : Nat → Option Cn
  J : (Nat → Prop) → (Nat → Prop) → World → Prop
  jst : JStable J

/-- a cell names known blocks alone, and no row longer than it is -/
def okC (A : Nat → Prop) (hp : Nat → Option HE) (x : AV) : Prop :=
  ∀ b, x.id? = some b → A b ∧ ∀ k xs, hp b = some (HE.row k xs) → match x with
    | .own _ n => n ≤ xs.length
    | .ept _ n _ _ => n ≤ xs.length
    | .part _ n _ _ => n ≤ xs.length
    | _ => False
structure Wf (A : Nat → Prop) (sl : Nat → SV) (hp : Nat → Option HE) : Prop where
  ids : ∀ i, ∀ x ∈ (sl i).cells, okC A hp x
  idh : ∀ b he, hp b = some he → A b ∧ ∀ x ∈ he.cells, okC A hp x

def GInv (gl : Nat → Option (List AV)) (w : World) (imm : Nat → Prop) : Prop := ∀ g cs, gl g = some cs → PR w imm (.ref cs) (.pointer (some ⟨g, 0, none⟩))

structure Real (E : Env) (A : Nat → Prop) (sl : Nat → SV) (hp : Nat → Option HE) (ρ : Nat → Cn) (imm : Nat → Prop) (a : Act) (w : World) : Prop where
  wf : Wf A sl hp
  slots : ∀ i, RS w imm ρ (sl i) (a.tmps.getD i undef)
  nt : a.tmps.size = E.nt
  defs : ∃ ds : List Nat, a.defers = ds.map mark ++ E.defs ∧ (ds.Nodup ∧ (E.q = true → ds = [])) ∧ ∀ D ∈ ds, w.heap[D]? = some (.deferred (some [])) ∧ E.w0.heap.size ≤ D ∧ ¬ imm D ∧ ¬ usedBy hp ρ D
  heap : ∀ b he, hp b = some he → RH w imm ρ (ρ b) he
  used : ∀ b he, hp b = some he → he.uses (ρ b) → (ρ b).blk < w.heap.size ∧ ¬ imm (ρ b).blk ∧ (E.w0.heap.size ≤ (ρ b).blk ∨ E.S (ρ b).blk)
  inj : ∀ b b' he he', hp b = some he → hp b' = some he' → he.uses (ρ b) → he'.uses (ρ b') → b ≠ b' → (ρ b).blk ≠ (ρ b').blk
  immlt : ∀ x, imm x → x < w.heap.size
  imm0 : ∀ x, E.imm0 x → imm x
  immF : ∀ x, imm x → E.imm0 x ∨ E.w0.heap.size ≤ x ∨ E.S x
  ext : Ext E.S E.w0 w
  glob : GInv E.gl w imm
  pin : ∀ b c, E.pin b = some c → b < 100 ∧ A b ∧ ρ b = c ∧ ∀ k xs, hp b ≠ some (.row k xs)
  pinr : ∀ c, E.pinr = some c → A 0 ∧ ∀ k xs, hp 0 = some (.row k xs) → c.len ≤ xs.length ∧ (xs.length = c.len → ρ 0 = c)
  jinv : E.J imm (usedBy hp ρ) w

end Go.Proofs.YtlbafapmhjfobaaGreatDoor
namespace Go.Proofs.YtlbafapmhjfobaaGreatDoor

inductive Opd where
  | t (i : Nat)
  | k (ag : Bool) (cs : List AV)
  | f (f : Nat)
  | g (g : Nat)
  deriving Inhabited

inductive AOp where
  | mv (x : Opd)
  | pick (c a b : Opd)
  | bin (op : BinOp) (x y : Opd)
  | beq (neg : Bool) (x y : Opd)
  | eqa (neg : Bool) (ds : List (Option IntKind)) (x y : Opd)
  | eqn (neg : Bool) (x : Opd)
  | un (op : UnOp) (x : Opd)
  | conv (k : IntKind) (x : Opd)
  | alloc (z : List AV)
  | box (x : Opd)
  | build (z : List AV) (ps : List (Nat × Nat × Opd))
  | bslice (k : Nat) (xs : List Opd)
  | load (ag : Bool) (n : Nat) (x : Opd)
  | store (n : Nat) (x v : Opd)
  | faddr (off : Nat) (x : Opd)
  | fld (off n : Nat) (ag : Bool) (x : Opd)
  | ixarr (len k : Nat) (x i : Opd)
  | ixsl (k : Nat) (x i : Opd)
  | ix (len k : Nat) (ag : Bool) (x i : Opd)
  | ixs (x i : Opd)
  | slice (k : Nat) (x : Opd) (lo hi : Option Opd)
  | slarr (n k : Nat) (x : Opd)
  | ext (x : Opd) (i : Nat)
  | len (x : Opd)
  | lens (x : Opd)
  | app (k bytes : Nat) (x y : Opd)
  | mn (xs : List Opd)
  | mx (xs : List Opd)
  | mkslice (bytes : Nat) (z : List AV) (n c : Opd)
  | mkmap (ds : List (Option IntKind))
  | lkmap (ds : List (Option IntKind)) (x i : Opd)
  | upmap (ds : List (Option IntKind)) (x i v : Opd)
  | mkfn (f : Nat) (first caps : List Opd)
  | call (f : Nat) (args : List Opd)
  | dyn (x : Opd) (args : List Opd)
  | nilck (x : Opd)
  | clr (k : Nat) (z : List AV) (x : Opd)
  deriving Inhabited

structure AOper where
  dst : Option Nat
  op : AOp
  aft : List Nat
  gd : Option (Nat × Bool)
  deriving Inhabited

inductive ACode where
  | skip
  | reg (draw : Bool) (ops : List AOper)
  | seq (a b : ACode)
  | cond (x : Opd) (a b : ACode)
  | block (id : Nat) (b : ACode)
  | loop (b : ACode)
  | exit (id : Nat)
  | ret
  | stop (b : ACode)
  | frz (l : List Nat) (b : ACode)
  | rng (x : Opd) (ps : List Nat) (asg body : ACode)
  | scope (b : ACode)
  deriving Inhabited

/-! ### compiling -/
def szOf (P : Program) (t : Nat) : Option Nat := (P.info? t).map (·.size)
def agOf (P : Program) (t : Nat) : Option Bool := (P.underlying t).map fun | .struct _ | .array _ _ => true | _ => false
def cellsOk (cs : List Value) : Bool := cs.all Value.oneCell'
def zeroOf (P : Program) (t : Nat) : Option (List AV) :=
  match P.info? t with
  | some i => match i.zero with
    | some z => if cellsOk z.cells.toList then some (z.cells.toList.map AV.v) else none
    | none => none
  | none => none
def opdOf : Operand → Option Opd
  | .tmp t => some (.t t)
  | .const (.agg cs) => if cellsOk cs.toList then some (.k true (cs.toList.map AV.v)) else none
  | .const (.tuple _) => none
  | .const v => some (.k false [.v v])
  | .func f => some (.f f)
  | .global g => some (.g g)
def opdsOf (xs : List Operand) : Option (List Opd) := xs.mapM opdOf

/-- a type all of whose cells are integers or bools, laid one behind the other: their kinds -/
def flatFs (P : Program) (g : Nat → Option (List (Option IntKind))) : List Field → Nat → Option (List (Option IntKind))
  | [], _ => some []
  | f :: r, off => if f.name = "_" ∨ f.offset ≠ off then none else
    match g f.type with
    | some ds => if szOf P f.type = some ds.length then (flatFs P g r (off + ds.length)).map (ds ++ ·) else none
    | none => none
def flatK (P : Program) : Nat → Nat → Option (List (Option IntKind))
  | 0, _ => none
  | d + 1, t => match P.underlying t with
    | some (.int k) => some [some k]
    | some .bool => some [none]
    | some (.struct fs) => if P.stoodInHeld t then none else flatFs P (flatK P d) fs.toList 0
    | some (.array len e) => match flatK P d e with
      | some ds => if szOf P e = some ds.length then some (List.replicate len ds).flatten else none
      | none => none
    | _ => none

def boolZ (P : Program) (t : Nat) : Bool :=
  match P.info? t with
  | some i => match i.zero with
    | some (.bool false) => true
    | _ => false
  | none => false
def isStruct (P : Program) (t : Nat) : Bool :=
  match P.underlying t with
  | some (.struct _) => true
  | _ => false
def isNilS : Operand → Bool
  | .const (.slice none 0 0) => true
  | _ => false

def compOp (P : Program) (o : Op) : Option AOp :=
  match o with
  | .move x | .assign x => (opdOf x).map .mv
  | .pick c a b => (opdOf c).bind fun c => (opdOf a).bind fun a => (opdOf b).map fun b => .pick c a b
  | .alloc e => (zeroOf P e).map .alloc
  | .box _ x => (opdOf x).map .box
  | .build t ps => (zeroOf P t).bind fun z =>
    match P.underlying t with
    | some (.struct fs) =>
      if fs.all (fun f => (szOf P f.type).isSome) then
        (ps.toList.mapM fun ((i, x) : Nat × Operand) => (fs[i]?).bind fun (f : Field) => (szOf P f.type).bind fun s => (opdOf x).map fun x => (f.offset, s, x)).map (.build z)
      else none
    | some (.array _ e) => (szOf P e).bind fun s => (ps.toList.mapM fun ((i, x) : Nat × Operand) => (opdOf x).map fun x => (i * s, s, x)).map (.build z)
    | _ => none
  | .buildSlice t len ps =>
    match P.underlying t with
    | some (.slice e) => (szOf P e).bind fun k => (zeroOf P e).bind fun z =>
      if (ps.toList.map (·.1) == List.range len) && decide (len * k ≤ 2 ^ 24) && decide (0 < k) then (opdsOf (ps.toList.map (·.2))).map (.bslice k) else none
    | _ => none
  | .load t x => (agOf P t).bind fun ag => (szOf P t).bind fun n => (opdOf x).map fun x => .load ag (if ag then n else 1) x
  | .store t a v => (szOf P t).bind fun n => (opdOf a).bind fun a => (opdOf v).map fun v => .store n a v
  | .nilCheck x => (opdOf x).map .nilck
  | .binOp op t x y _ =>
    match P.underlying t with
    | some (.int _) => (opdOf x).bind fun x => (opdOf y).map fun y => .bin op x y
    | some .bool => (opdOf x).bind fun x => (opdOf y).bind fun y => match op with | .eql => some (.beq false x y) | .neq => some (.beq true x y) | _ => none
    | some (.struct _) | some (.array _ _) =>
      if P.eqGuardType P.depth t then none else
        (flatK P 20 t).bind fun ds => (opdOf x).bind fun x => (opdOf y).bind fun y => match op with | .eql => some (.eqa false ds x y) | .neq => some (.eqa true ds x y) | _ => none
    | some (.slice _) => if isNilS y then (opdOf x).bind fun x => match op with | .eql => some (.eqn false x) | .neq => some (.eqn true x) | _ => none else none
    | _ => none
  | .unOp op _ x => (opdOf x).map (.un op)
  | .convert s d x =>
    match P.underlying s, P.underlying d with
    | some (.int _), some (.int k) => (opdOf x).map (.conv k)
    | _, _ => none
  | .makeFunc (.func f) first caps => (opdsOf first.toList).bind fun first => (opdsOf caps.toList).map (.mkfn f first)
  | .makeSlice t l c =>
    match P.underlying t with
    | some (.slice e) => (P.info? e).bind fun i => (zeroOf P e).bind fun z => if i.size = z.length ∧ 0 < i.size then (opdOf l).bind fun l => (opdOf c).map fun c => .mkslice i.bytes z l c else none
    | _ => none
  | .slice t x lo hi mx =>
    match mx with
    | some _ => none
    | none =>
      (opdOf x).bind fun x =>
      match P.underlying t with
      | some (.slice e) => (szOf P e).bind fun k =>
        match lo, hi with
        | none, none => some (.slice k x none none)
        | some l, none => (opdOf l).map fun l => .slice k x (some l) none
        | none, some h => (opdOf h).map fun h => .slice k x none (some h)
        | some l, some h => (opdOf l).bind fun l => (opdOf h).map fun h => .slice k x (some l) (some h)
      | some (.array n e) => match lo, hi with
        | none, none => (szOf P e).map fun k => .slarr n k x
        | _, _ => none
      | _ => none
  | .fieldAddr s x f =>
    match P.underlying s with
    | some (.struct fs) => (fs[f]?).bind fun (f : Field) => (szOf P f.type).bind fun sz => if sz = 0 then none else (opdOf x).map (.faddr f.offset)
    | _ => none
  | .field t x f =>
    match P.underlying t with
    | some (.struct fs) => (fs[f]?).bind fun (f : Field) => (szOf P f.type).bind fun sz => (agOf P f.type).bind fun ag => (opdOf x).map (.fld f.offset (if ag then sz else 1) ag)
    | _ => none
  | .indexAddr t x i =>
    match P.underlying t with
    | some (.array n e) => (szOf P e).bind fun k => (opdOf x).bind fun x => (opdOf i).map fun i => .ixarr n k x i
    | some (.slice e) => (szOf P e).bind fun k => (opdOf x).bind fun x => (opdOf i).map fun i => .ixsl k x i
    | _ => none
  | .index t x i =>
    match P.underlying t with
    | some (.array n e) => (szOf P e).bind fun k => (agOf P e).bind fun ag => if ag || k == 1 then (opdOf x).bind fun x => (opdOf i).map fun i => .ix n k ag x i else none
    | some .string => (opdOf x).bind fun x => (opdOf i).map fun i => .ixs x i
    | _ => none
  | .extract x i => (opdOf x).map (.ext · i)
  | .makeMap t none =>
    match P.underlying t with
    | some (.map kt _) => (flatK P 20 kt).map .mkmap
    | _ => none
  | .lookup t x i false =>
    match P.underlying t with
    | some (.map kt e) => if boolZ P e && isStruct P kt then (flatK P 20 kt).bind fun ds => (opdOf x).bind fun x => (opdOf i).map fun i => .lkmap ds x i else none
    | _ => none
  | .mapUpdate t m k v =>
    match P.underlying t with
    | some (.map kt _) => if isStruct P kt then (flatK P 20 kt).bind fun ds => (opdOf m).bind fun m => (opdOf k).bind fun k => (opdOf v).map fun v => .upmap ds m k v else none
    | _ => none
  | .call c =>
    match c.callee with
    | .value (.func f) => (opdsOf c.args.toList).map (.call f)
    | .value (.tmp t) => (opdsOf c.args.toList).map (.dyn (.t t))
    | .builtin .len =>
      match c.args.toList, c.argTypes[0]? with
      | [x], some t => match P.underlying t with
        | some .string => (opdOf x).map .lens
        | some (.slice _) => (opdOf x).map .len
        | _ => none
      | _, _ => none
    | .builtin .append =>
      match c.args.toList, c.argTypes[0]?, c.argTypes[1]? with
      | [x, y], some t, some u => match P.underlying t, P.underlying u with
        | some (.slice e), some (.slice _) => (P.info? e).bind fun i => (zeroOf P e).bind fun z =>
          if 0 < i.size ∧ 0 < i.bytes ∧ i.bytes ≤ 1024 ∧ z.length = i.size then (opdOf x).bind fun x => (opdOf y).map fun y => .app i.size i.bytes x y else none
        | _, _ => none
      | _, _, _ => none
    | .builtin .clear =>
      match c.args.toList, c.argTypes[0]? with
      | [x], some t => match P.underlying t with
        | some (.slice e) => (szOf P e).bind fun k => (zeroOf P e).bind fun z => if z.length = k ∧ 0 < k then (opdOf x).map (.clr k z) else none
        | _ => none
      | _, _ => none
    | .builtin .min => if c.args.size = 0 then none else (opdsOf c.args.toList).map .mn
    | .builtin .max => if c.args.size = 0 then none else (opdsOf c.args.toList).map .mx
    | _ => none
  | _ => none

def compAft (o : Oper) : List Nat := o.after.toList.filterMap fun e => if Region.binds .any e then some e.on else none
def dstB (nt : Nat) : Option Nat → Bool
  | some d => decide (d < nt)
  | none => true
def compOper (P : Program) (nt : Nat) (ops : Array Oper) (o : Oper) : Option AOper :=
  (compOp P o.op).bind fun a =>
    if dstB nt o.dst = true then
      match o.guard with
      | none => some { dst := o.dst, op := a, aft := compAft o, gd := none }
      | some (g, want) => match (ops[g]?).bind (·.dst) with
        | some d => some { dst := o.dst, op := a, aft := compAft o, gd := some (d, want) }
        | none => none
    else none
def compOps (P : Program) (nt : Nat) (ops : Array Oper) : Option (List AOper) := ops.toList.mapM (compOper P nt ops)

/-! ### what the operations do -/
def ev (gl : Nat → Option (List AV)) (sl : Nat → SV) : Opd → SV
  | .t i => sl i
  | .k ag cs => .c ag cs
  | .f f => .c false [.fn f [] []]
  | .g g => match gl g with
    | some cs => .c false [.ref cs]
    | none => .top

def EntersP (P : Program) (f : Nat) : Prop := ∀ args w, (callFunc f args).run P w = .ok (.enter f args) w

def sameKind (he he' : HE) : Prop :=
  match he, he' with
  | .box _, .box _ => True
  | .row k xs, .row k' xs' => k = k' ∧ xs.length = xs'.length
  | _, _ => False

/-- A function's contract in abstract values: hin: the block (number 0) that is handed over to be written; hout: that block behind the call, or a new one; hin without hout: the block is used up. -/
def Spec (P : Program) (gl : Nat → Option (List AV)) (f : Nat) (hin : Option HE) (args : List (Bool × List AV)) (res : SV) (hout : Option HE) : Prop :=
  EntersP P f ∧
  ∀ (w : World) (imm : Nat → Prop) (c : Cn) (us : List Value),
    (∀ x, imm x → x < w.heap.size) → GInv gl w imm →
    (∀ he, hin = some he → RH w imm (fun _ => c) c he ∧ (he.uses c → c.blk < w.heap.size ∧ ¬ imm c.blk)) →
    F2 (fun p u => RV w imm (fun _ => c) p.1 p.2 u) args us →
    CallsIn Fence.wide 0 P f us.toArray w (fun e w' => ∃ v imm' c', e = .returned v ∧
      RS w' imm' (fun _ => c') res v ∧
      (∀ x, imm x → imm' x) ∧
      (∀ x, imm' x → x < w'.heap.size ∧ (imm x ∨ w.heap.size ≤ x ∨ (hout = none ∧ ∃ he, hin = some he ∧ he.uses c ∧ x = c.blk))) ∧
      (∀ he', hout = some he' → RH w' imm' (fun _ => c') c' he' ∧ (∀ he, hin = some he → (he'.uses c' → he.uses c ∧ c'.blk = c.blk) ∧ (sameKind he he' → c' = c)) ∧ (hin = none → he'.uses c' → w.heap.size ≤ c'.blk) ∧
        (he'.uses c' → c'.blk < w'.heap.size ∧ ¬ imm' c'.blk)) ∧
      Ext (fun x => ∃ he, hin = some he ∧ he.uses c ∧ x = c.blk) w w')

/-- an argument may be handed over as: itself; nil as an empty list; a row of ours as a list (lent, or for good) -/
def coeA (hv : Nat → Option HE) (x y : AV) : Prop :=
  (x = y ∧ x.pers = true) ∨ (∃ k, x = .nil ∧ y = .li k []) ∨ (∃ b n k xs, x = .own b n ∧ y = .li k xs ∧ hv b = some (.row k xs) ∧ n = xs.length)
def coeV (hv : Nat → Option HE) (x : SV) (y : Bool × List AV) : Prop := ∃ cs, x = .c y.1 cs ∧ F2 (coeA hv) cs y.2
def isOwn : AV → Bool
  | .own _ _ => true
  | _ => false
/-- a result that leads nowhere -/
def SV.flat (x : SV) : Prop := ∀ y ∈ x.cells, ∃ u, y = AV.v u
def ren (b : Nat) : AV → AV
  | .own _ n => .own b n
  | .ptr _ o => .ptr b o
  | .ept _ n i o => .ept b n i o
  | .part _ n lo hi => .part b n lo hi
  | .mp _ => .mp b
  | x => x
def SV.ren (b : Nat) : SV → SV
  | .top => .top
  | .c ag cs => .c ag (cs.map (Go.Proofs.YtlbafapmhjfobaaGreatDoor.ren b))
  | .tup xs => .tup (xs.map fun p => (p.1, p.2.map (Go.Proofs.YtlbafapmhjfobaaGreatDoor.ren b)))
def idFree (cs : List AV) : Prop := ∀ x ∈ cs, x.id? = none

inductive CallS (P : Program) (gl : Nat → Option (List AV)) (hv : Nat → Option HE) (j f : Nat) (vs : List SV) (K : SV → List (Nat × Option HE) → Prop) : Prop
  | pure (as : List (Bool × List AV)) (res : SV) (hc : F2 (coeV hv) vs as) (hs : Spec P gl f none as res none) (hf : (∀ v ∈ vs, ∀ x ∈ v.cells, isOwn x = false) ∨ res.flat)
      (hi : idFree res.cells) (hk : K res []) : CallS P gl hv j f vs K
  | fresh (as : List (Bool × List AV)) (res : SV) (he : HE) (hc : F2 (coeV hv) vs as) (hs : Spec P gl f none as res (some he)) (hn : ∀ v ∈ vs, ∀ x ∈ v.cells, isOwn x = false)
      (hi : idFree he.cells) (hl : ∀ x ∈ res.cells, x.id? = none ∨ ∃ k xs, he = .row k xs ∧ x = .own 0 xs.length) (hk : K (res.ren j) [(j, some he)]) : CallS P gl hv j f vs K
  | inout (b : Nat) (he he' : HE) (as : List (Bool × List AV)) (res : SV) (hb : hv b = some he) (hi : idFree he.cells) (hi' : idFree he'.cells)
      (hkind : sameKind he he')
      (hin : ∃ v ∈ vs, ∃ x ∈ v.cells, x.id? = some b)
      (hc : F2 (fun (x : SV) (y : Bool × List AV) => ∃ cs, x = .c y.1 cs ∧ F2 (fun x y => (x = y ∧ x.pers = true) ∨ (x.id? = some b ∧ y = ren 0 x ∧ (∀ n, x = .own b n → ∃ k xs, he = .row k xs ∧ n = xs.length))) cs y.2) vs as)
      (hs : Spec P gl f (some he) as res (some he')) (hr : idFree res.cells) (hk : K res [(b, some he')]) : CallS P gl hv j f vs K
  | eats (b n k : Nat) (xs : List (List AV)) (as : List (Bool × List AV)) (res : SV) (hb : hv b = some (.row k xs)) (hn : n = xs.length)
      (hin : ∃ v ∈ vs, ∃ x ∈ v.cells, x.id? = some b)
      (hc : F2 (fun (x : SV) (y : Bool × List AV) => ∃ cs, x = .c y.1 cs ∧ F2 (fun x y => (x = y ∧ x.pers = true) ∨ (x = .own b n ∧ y = .own 0 n)) cs y.2) vs as)
      (hs : Spec P gl f (some (.row k xs)) as res none) (hr : idFree res.cells) (hk : K res [(b, none)]) : CallS P gl hv j f vs K
  | turn (b n k : Nat) (xs : List (List AV)) (k' : Nat) (xs' : List (List AV)) (as : List (Bool × List AV)) (res : SV) (hb : hv b = some (.row k xs)) (hn : n = xs.length)
      (hin : ∃ v ∈ vs, ∃ x ∈ v.cells, x.id? = some b)
      (hc : F2 (fun (x : SV) (y : Bool × List AV) => ∃ cs, x = .c y.1 cs ∧ F2 (fun x y => (x = y ∧ x.pers = true) ∨ (x = .own b n ∧ y = .own 0 n)) cs y.2) vs as)
      (hs : Spec P gl f (some (.row k xs)) as res (some (.row k' xs'))) (hl : ∀ x ∈ res.cells, x.id? = none ∨ x = .own 0 xs'.length) (hk : K (res.ren j) [(b, none), (j, some (.row k' xs'))]) : CallS P gl hv j f vs K

def putAt (cs : List AV) (off : Nat) (xs : List AV) : List AV := cs.take off ++ (xs ++ cs.drop (off + xs.length))
def fillA (evv : Opd → SV) : List AV → List (Nat × Nat × Opd) → Option (List AV)
  | cs, [] => some cs
  | cs, (off, sz, x) :: r => match evv x with
    | .c _ xs => if xs.length = sz ∧ off + xs.length ≤ cs.length then fillA evv (putAt cs off xs) r else none
    | _ => none

def binS (op : BinOp) (k : IntKind) (a : Int) (k' : IntKind) (b : Int) (K : AV → Prop) : Prop :=
  match op with
  | .add => k = k' ∧ K (.v (.int k (k.wrap (a + b))))
  | .sub => k = k' ∧ K (.v (.int k (k.wrap (a - b))))
  | .mul => k = k' ∧ K (.v (.int k (k.wrap (a * b))))
  | .quo => k = k' ∧ b ≠ 0 ∧ K (.v (.int k (k.wrap (a.tdiv b))))
  | .rem => k = k' ∧ b ≠ 0 ∧ K (.v (.int k (a.tmod b)))
  | .eql => k = k' ∧ K (.b (a == b))
  | .neq => k = k' ∧ K (.b (a != b))
  | .lss => k = k' ∧ K (.b (decide (a < b)))
  | .leq => k = k' ∧ K (.b (decide (a ≤ b)))
  | .gtr => k = k' ∧ K (.b (decide (b < a)))
  | .geq => k = k' ∧ K (.b (decide (b ≤ a)))
  | .and => k = k' ∧ K (.v (.int k (k.wrap (BitVec.ofInt k.bits a &&& BitVec.ofInt k.bits b).toNat)))
  | .shr => 0 ≤ b ∧ K (.v (.int k (a.fdiv (2 ^ (min b.toNat k.bits)))))
  | .shl => 0 ≤ b ∧ K (.v (.int k (k.wrap (a * 2 ^ (min b.toNat k.bits)))))
  | _ => False

def eqVs : List Value → List Value → Bool
  | [], [] => true
  | .int _ a :: r, .int _ b :: s => a == b && eqVs r s
  | .bool a :: r, .bool b :: s => a == b && eqVs r s
  | _, _ => false
def litCells : List AV → Option (List Value)
  | [] => some []
  | .v x :: r => (litCells r).map (x :: ·)
  | _ => none
def fnCells (evv : Opd → SV) : List Opd → Option (List AV)
  | [] => some []
  | x :: r => match evv x with
    | .c false [a] => if a.pers then (fnCells evv r).map (a :: ·) else none
    | _ => none
def firstCells (evv : Opd → SV) : List Opd → Option (List (Bool × List AV))
  | [] => some []
  | x :: r => match evv x with
    | .c ag cs => if cs.all AV.pers = true then (firstCells evv r).map ((ag, cs) :: ·) else none
    | _ => none
def rowOf (evv : Opd → SV) (k : Nat) : List Opd → Option (List (List AV))
  | [] => some []
  | x :: r => match evv x with
    | .c _ cs => if cs.length = k ∧ cs.all AV.pers = true then (rowOf evv k r).map (cs :: ·) else none
    | _ => none
def mnS (mx : Bool) (k : IntKind) (a : Int) : List SV → Option AV
  | [] => some (.v (.int k a))
  | .c false [.v (.int k' b)] :: r => if k = k' then mnS mx k (if mx then (if b > a then b else a) else (if b < a then b else a)) r else none
  | _ => none
def chunks (k : Nat) : Nat → List AV → List (List AV)
  | 0, _ => []
  | n + 1, cs => cs.take k :: chunks k n (cs.drop k)

def srcS (hv : Nat → Option HE) (k : Nat) (y : SV) : Option (List (List AV) × Prop) :=
  match y with
  | .c false [.v (.slice none 0 0)] => some ([], True)
  | .c false [.li k' ys] => some (ys, k' = k)
  | .c false [.own b n] => match hv b with
    | some (.row k' ys) => some (ys, k' = k ∧ n = ys.length)
    | _ => none
  | _ => none
def big : Nat := 1073741824
def hasKey (ks : List (List Value)) (us : List Value) : Bool := ks.any fun k => eqVs us k

section
variable (P : Program) (gl : Nat → Option (List AV)) (evv : Opd → SV) (hv : Nat → Option HE) (j : Nat)
def opSem (o : AOp) (K : SV → List (Nat × Option HE) → Prop) : Prop :=
  match o with
  | .mv x => K (evv x) []
  | .pick c a b => match evv c with
    | .c false [.v (.bool t)] => (t = true → K (evv a) []) ∧ (t = false → K (evv b) [])
    | _ => False
  | .bin op x y => match evv x, evv y with
    | .c false [.v (.int k a)], .c false [.v (.int k' b)] => binS op k a k' b fun r => K (.c false [r]) []
    | _, _ => False
  | .beq neg x y => match evv x, evv y with
    | .c false [.v (.bool a)], .c false [.v (.bool b)] => K (.c false [.b (if neg then a != b else a == b)]) []
    | _, _ => False
  | .eqa neg ds x y => match evv x, evv y with
    | .c true cs, .c true es => match litCells cs, litCells es with
      | some us, some vs => kOk ds us = true ∧ kOk ds vs = true ∧ K (.c false [.b (if neg then !eqVs us vs else eqVs us vs)]) []
      | _, _ => False
    | _, _ => False
  | .eqn neg x => match evv x with
    | .c false [.v (.slice none 0 0)] => K (.c false [.b (!neg)]) []
    | .c false [.li _ xs] => xs ≠ [] ∧ K (.c false [.b neg]) []
    | _ => False
  | .un op x => match op, evv x with
    | .neg, .c false [.v (.int k a)] => K (.c false [.v (.int k (k.wrap (0 - a)))]) []
    | .not, .c false [.v (.bool t)] => K (.c false [.b (!t)]) []
    | _, _ => False
  | .conv k x => match evv x with
    | .c false [.v (.int _ a)] => K (.c false [.v (.int k (k.wrap a))]) []
    | _ => False
  | .alloc z => K (.c false [.ptr j 0]) [(j, some (.box z))]
  | .box x => match evv x with
    | .c _ cs => K (.c false [.ptr j 0]) [(j, some (.box cs))]
    | _ => False
  | .build z ps => match fillA evv z ps with
    | some cs => K (.c true cs) []
    | none => False
  | .bslice k xs => match rowOf evv k xs with
    | some r => K (.c false [.own j xs.length]) [(j, some (.row k r))]
    | none => False
  | .load ag n x => match evv x with
    | .c false [.ptr b off] => match hv b with
      | some (.box cs) => off + n ≤ cs.length ∧ K (.c ag ((cs.drop off).take n)) []
      | _ => False
    | .c false [.ept b m i off] => match hv b with
      | some (.row k xs) => m = xs.length ∧ i < xs.length ∧ off + n ≤ k ∧ K (.c ag (((xs.getD i []).drop off).take n)) []
      | _ => False
    | .c false [.ref cs] => n ≤ cs.length ∧ K (.c ag (cs.take n)) []
    | _ => False
  | .store n x v => match evv x, evv v with
    | .c false [.ptr b off], .c _ ys => match hv b with
      | some (.box cs) => ys.length = n ∧ off + n ≤ cs.length ∧ K .top [(b, some (.box (putAt cs off ys)))]
      | _ => False
    | .c false [.ept b m i off], .c _ ys => match hv b with
      | some (.row k xs) => m = xs.length ∧ i < xs.length ∧ ys.length = n ∧ off + n ≤ k ∧ ys.all AV.pers = true ∧ K .top [(b, some (.row k (xs.set i (putAt (xs.getD i []) off ys))))]
      | _ => False
    | _, _ => False
  | .faddr off x => match evv x with
    | .c false [.ptr b o] => K (.c false [.ptr b (o + off)]) []
    | .c false [.ept b m i o] => match hv b with
      | some (.row _ xs) => m = xs.length ∧ K (.c false [.ept b m i (o + off)]) []
      | _ => False
    | .c false [.ref cs] => K (.c false [.ref (cs.drop off)]) []
    | _ => False
  | .fld off n ag x => match evv x with
    | .c true cs => off + n ≤ cs.length ∧ K (.c ag ((cs.drop off).take n)) []
    | _ => False
  | .ixarr len k x i => match evv x, evv i with
    | .c false [.ptr b o], .c false [.v (.int _ a)] => (0 ≤ a ∧ a < len) ∧ K (.c false [.ptr b (o + a.toNat * k)]) []
    | .c false [.ref cs], .c false [.v (.int _ a)] => (0 ≤ a ∧ a < len) ∧ K (.c false [.ref (cs.drop (a.toNat * k))]) []
    | _, _ => False
  | .ixsl k x i => match evv x, evv i with
    | .c false [.own b n], .c false [.v (.int _ a)] => match hv b with
      | some (.row k' xs) => k' = k ∧ n = xs.length ∧ (0 ≤ a ∧ a < (xs.length : Int)) ∧ K (.c false [.ept b xs.length a.toNat 0]) []
      | _ => False
    | .c false [.li k' xs], .c false [.v (.int _ a)] => k' = k ∧ (0 ≤ a ∧ a < (xs.length : Int)) ∧ K (.c false [.ref (xs.getD a.toNat [])]) []
    | .c false [.part b n lo hi], .c false [.v (.int _ a)] => match hv b with
      | some (.row k' xs) => (k' = k ∧ n = xs.length) ∧ (0 ≤ a ∧ (a.toNat < hi - lo ∧ hi ≤ xs.length)) ∧ K (.c false [.ept b xs.length (lo + a.toNat) 0]) []
      | _ => False
    | _, _ => False
  | .ix len k ag x i => match evv x, evv i with
    | .c true cs, .c false [.v (.int _ a)] => (0 ≤ a ∧ a < len) ∧ cs.length = len * k ∧ K (.c ag ((cs.drop (a.toNat * k)).take k)) []
    | _, _ => False
  | .ixs x i => match evv x, evv i with
    | .c false [.v (.string s)], .c false [.v (.int _ a)] => (0 ≤ a ∧ a < (s.size : Int)) ∧ K (.c false [.v (.int .u8 ((s.data.getD a.toNat 0).toNat : Nat))]) []
    | _, _ => False
  | .slice k x lo hi => match evv x with
    | .c false [.li k' xs] =>
      let l : SV := match lo with | some l => evv l | none => .c false [.i 0]
      let h : SV := match hi with | some h => evv h | none => .c false [.i xs.length]
      match l, h with
      | .c false [.v (.int _ l)], .c false [.v (.int _ h)] => k' = k ∧ (0 ≤ l ∧ l ≤ h ∧ h ≤ (xs.length : Int)) ∧ K (.c false [.li k ((xs.take h.toNat).drop l.toNat)]) []
      | _, _ => False
    | .c false [.own b n] => match hv b with
      | some (.row k' xs) =>
        let l : SV := match lo with | some l => evv l | none => .c false [.i 0]
        let h : SV := match hi with | some h => evv h | none => .c false [.i xs.length]
        match l, h with
        | .c false [.v (.int _ l)], .c false [.v (.int _ h)] => (k' = k ∧ n = xs.length) ∧ (0 ≤ l ∧ l ≤ h ∧ h ≤ (xs.length : Int)) ∧ K (.c false [.part b n l.toNat h.toNat]) []
        | _, _ => False
      | _ => False
    | _ => False
  | .slarr n k x => match evv x with
    | .c false [.ref cs] => n * k ≤ cs.length ∧ K (.c false [.li k (chunks k n cs)]) []
    | _ => False
  | .ext x i => match evv x with
    | .tup xs => match xs[i]? with
      | some p => K (.c p.1 p.2) []
      | none => False
    | _ => False
  | .len x => match evv x with
    | .c false [.v (.slice none 0 0)] => K (.c false [.i 0]) []
    | .c false [.li _ xs] => K (.c false [.i xs.length]) []
    | .c false [.own b n] => match hv b with
      | some (.row _ xs) => n = xs.length ∧ K (.c false [.i n]) []
      | _ => False
    | .c false [.part b n lo hi] => match hv b with
      | some (.row _ xs) => (n = xs.length ∧ hi ≤ xs.length) ∧ K (.c false [.i (hi - lo : Nat)]) []
      | _ => False
    | _ => False
  | .lens x => match evv x with
    | .c false [.v (.string s)] => K (.c false [.i s.size]) []
    | _ => False
  | .app k _ x y =>
    match srcS hv k (evv y) with
    | none => False
    | some (ys, c) => c ∧ match evv x with
      | .c false [.v (.slice none 0 0)] => ys.length ≤ big ∧ K (.c false [.own j ys.length]) [(j, some (.row k ys))]
      | .c false [.own b n] => match hv b with
        | some (.row k' xs) => k' = k ∧ n = xs.length ∧ xs.length + ys.length ≤ big ∧ (∀ m, evv y ≠ .c false [.own b m]) ∧ K (.c false [.own b (xs ++ ys).length]) [(b, some (.row k (xs ++ ys)))]
        | _ => False
      | _ => False
  | .mn xs => match xs with
    | x :: r => match evv x with
      | .c false [.v (.int k a)] => match mnS false k a (r.map evv) with
        | some y => K (.c false [y]) []
        | none => False
      | _ => False
    | [] => False
  | .mx xs => match xs with
    | x :: r => match evv x with
      | .c false [.v (.int k a)] => match mnS true k a (r.map evv) with
        | some y => K (.c false [y]) []
        | none => False
      | _ => False
    | [] => False
  | .mkslice bytes z n c => match evv n, evv c with
    | .c false [.v (.int .i64 n)], .c false [.v (.int .i64 c)] => n = c ∧ 0 ≤ n ∧ n ≤ big ∧ bytes ≤ 1024 ∧ K (.c false [.own j n.toNat]) [(j, some (.row z.length (List.replicate n.toNat z)))]
    | _, _ => False
  | .mkmap ds => K (.c false [.mp j]) [(j, some (.keys ds []))]
  | .lkmap ds x i => match evv x, evv i with
    | .c false [.mp b], .c true cs => match hv b, litCells cs with
      | some (.keys ds' ks), some us => ds' = ds ∧ kOk ds us = true ∧ K (.c false [.b (hasKey ks us)]) []
      | _, _ => False
    | _, _ => False
  | .upmap ds x i v => match evv x, evv i, evv v with
    | .c false [.mp b], .c true cs, .c false [.v (.bool true)] => match hv b, litCells cs with
      | some (.keys ds' ks), some us => ds' = ds ∧ kOk ds us = true ∧ hasKey ks us = false ∧ K .top [(b, some (.keys ds (ks ++ [us])))]
      | _, _ => False
    | _, _, _ => False
  | .mkfn f first caps => match firstCells evv first, fnCells evv caps with
    | some fs, some cs => K (.c false [.fn f fs cs]) []
    | _, _ => False
  | .call f args => CallS P gl hv j f (args.map evv) K
  | .dyn x args => match evv x with
    | .c false [.fn f first caps] => CallS P gl hv j f ((first.map fun p => .c p.1 p.2) ++ (args.map evv ++ caps.map fun c => .c false [c])) K
    | _ => False
  | .nilck x => match evv x with
    | .c false [.ptr b o] => K (.c false [.ptr b o]) []
    | .c false [.ref cs] => K (.c false [.ref cs]) []
    | _ => False
  | .clr k z x => match evv x with
    | .c false [.part b n lo hi] => match hv b with
      | some (.row k' xs) => (k' = k ∧ n = xs.length) ∧ (lo ≤ hi ∧ hi ≤ xs.length) ∧ K (.tup []) [(b, some (.row k' (xs.take lo ++ (List.replicate (hi - lo) z ++ xs.drop hi))))]
      | _ => False
    | _ => False
end
end Go.Proofs.YtlbafapmhjfobaaGreatDoor
namespace Go.Proofs.YtlbafapmhjfobaaGreatDoor

theorem RS.c1 {w imm ρ x u} (h : RS w imm ρ (.c false [x]) u) : RA w imm ρ x u := by
  obtain ⟨us, hc, hu⟩ := h
  match us, hc with
  | [y], hc => simp at hu; subst hu; exact hc.1
theorem RS.mk1 {w imm ρ x u} (h : RA w imm ρ x u) : RS w imm ρ (.c false [x]) u := ⟨[u], ⟨h, trivial⟩, by simp⟩
theorem RS.agg {w imm ρ cs u} (h : RS w imm ρ (.c true cs) u) : ∃ us : List Value, u = .agg us.toArray ∧ RC w imm ρ cs us := by
  obtain ⟨us, hc, hu⟩ := h
  exact ⟨us, by simpa using hu, hc⟩
theorem RS.mkagg {w imm ρ cs} {us : List Value} (h : RC w imm ρ cs us) : RS w imm ρ (.c true cs) (.agg us.toArray) := ⟨us, h, by simp⟩
theorem RC.one {w imm ρ} : ∀ {cs : List AV} {us : List Value}, RC w imm ρ cs us → ∀ u ∈ us, u.oneCell' = true
  | [], [], _, _, hu => by simp at hu
  | _ :: _, _ :: _, h, u, hu => by
    rcases List.mem_cons.1 hu with rfl | hu
    · exact h.1.one
    · exact RC.one h.2 u hu
  | [], _ :: _, h, _, _ => h.elim
  | _ :: _, [], h, _, _ => h.elim
theorem RC.length {w imm ρ} {cs : List AV} {us : List Value} (h : RC w imm ρ cs us) : cs.length = us.length := F2.length h

/-- a value's cells -/
theorem RV.cells {w imm ρ ag cs u} (h : RV w imm ρ ag cs u) : RC w imm ρ cs u.cells.toList ∧ (ag = false → u.oneCell' = true) ∧ (ag = true → u = .agg u.cells) := by
  obtain ⟨us, hc, hu⟩ := h
  cases ag
  · simp at hu
    subst hu
    have h1 := RC.one hc u (by simp)
    have : u.cells = #[u] := by cases u <;> first | rfl | (simp [Value.oneCell'] at h1)
    rw [this]
    exact ⟨hc, fun _ => h1, fun h => by cases h⟩
  · simp at hu
    subst hu
    exact ⟨by simpa [Value.cells] using hc, (fun h => by cases h), fun _ => rfl⟩
theorem RS.cells {w imm ρ ag cs u} (h : RS w imm ρ (.c ag cs) u) : RC w imm ρ cs u.cells.toList ∧ (ag = false → u.oneCell' = true) ∧ (ag = true → u = .agg u.cells) := RV.cells h
/-- a value out of some cells -/
theorem RS.of_cells {w imm ρ cs} {us : List Value} (ag : Bool) (h : RC w imm ρ cs us) (h1 : ag = false → us.length = 1) : RS w imm ρ (.c ag cs) (if ag then .agg us.toArray else us.headD (.tuple #[])) := by
  cases ag
  · match us, h1 rfl with
    | [u], _ => exact ⟨[u], h, by simp⟩
  · exact ⟨us, h, by simp⟩

theorem RA.mono {w w' imm imm' ρ x u} (hi : ∀ b, imm b → imm' b) (hw : ∀ b, imm b → w'.heap[b]? = w.heap[b]?) (h : RA w imm ρ x u) : RA w' imm' ρ x u := by
  cases x <;> simp only [RA] at h ⊢ <;> first | exact h | exact h.mono hi hw
theorem RA.upd {w imm ρ x u j c} (hx : x.id? ≠ some j) (h : RA w imm ρ x u) : RA w imm (upd ρ j c) x u := by
  cases x with
  | own b n => have hb : b ≠ j := fun e => hx (by simp [AV.id?, e]); simpa only [RA, upd_ne _ _ hb] using h
  | ptr b n => have hb : b ≠ j := fun e => hx (by simp [AV.id?, e]); simpa only [RA, upd_ne _ _ hb] using h
  | ept b m i n => have hb : b ≠ j := fun e => hx (by simp [AV.id?, e]); simpa only [RA, upd_ne _ _ hb] using h
  | mp b => have hb : b ≠ j := fun e => hx (by simp [AV.id?, e]); simpa only [RA, upd_ne _ _ hb] using h
  | part b n lo hi => have hb : b ≠ j := fun e => hx (by simp [AV.id?, e]); simpa only [RA, upd_ne _ _ hb] using h
  | any => exact h
  | v x => exact h
  | li k xs => exact h
  | ref cs => exact h
  | fn f a b => exact h
theorem RC.mono {w w' imm imm' ρ cs us} (hi : ∀ b, imm b → imm' b) (hw : ∀ b, imm b → w'.heap[b]? = w.heap[b]?) (h : RC w imm ρ cs us) : RC w' imm' ρ cs us :=
  F2.mono (fun _ _ _ h => h.mono hi hw) h
theorem RC.upd {w imm ρ cs us j c} (hx : ∀ x ∈ cs, x.id? ≠ some j) (h : RC w imm ρ cs us) : RC w imm (upd ρ j c) cs us :=
  F2.mono (fun a ha _ h => RA.upd (hx a ha) h) h
theorem RV.mono {w w' imm imm' ρ ag cs u} (hi : ∀ b, imm b → imm' b) (hw : ∀ b, imm b → w'.heap[b]? = w.heap[b]?) (h : RV w imm ρ ag cs u) : RV w' imm' ρ ag cs u :=
  let ⟨us, h1, h2⟩ := h; ⟨us, h1.mono hi hw, h2⟩
theorem RV.upd {w imm ρ ag cs u j c} (hx : ∀ x ∈ cs, x.id? ≠ some j) (h : RV w imm ρ ag cs u) : RV w imm (upd ρ j c) ag cs u :=
  let ⟨us, h1, h2⟩ := h; ⟨us, h1.upd hx, h2⟩
theorem RS.mono {w w' imm imm' ρ s u} (hi : ∀ b, imm b → imm' b) (hw : ∀ b, imm b → w'.heap[b]? = w.heap[b]?) (h : RS w imm ρ s u) : RS w' imm' ρ s u := by
  cases s with
  | top => trivial
  | c ag cs => exact RV.mono hi hw h
  | tup xs => obtain ⟨us, h1, h2⟩ := h; exact ⟨us, h1, F2.mono (fun _ _ _ h => RV.mono hi hw h) h2⟩
theorem RS.upd {w imm ρ s u j c} (hx : ∀ x ∈ s.cells, x.id? ≠ some j) (h : RS w imm ρ s u) : RS w imm (upd ρ j c) s u := by
  cases s with
  | top => trivial
  | c ag cs => exact RV.upd hx h
  | tup xs =>
    obtain ⟨us, h1, h2⟩ := h
    exact ⟨us, h1, F2.mono (fun p hp _ h => RV.upd (fun x hx' => hx x (by simp only [SV.cells, List.mem_flatMap]; exact ⟨p, hp, hx'⟩)) h) h2⟩
theorem RH.mono {w w' imm imm' ρ c he} (hi : ∀ b, imm b → imm' b) (hw : ∀ b, imm b → w'.heap[b]? = w.heap[b]?) (hb : he.uses c → w'.heap[c.blk]? = w.heap[c.blk]?) (h : RH w imm ρ c he) : RH w' imm' ρ c he := by
  cases he with
  | box cs => obtain ⟨us, e, h1, h2⟩ := h; exact ⟨us, e, by rw [hb trivial]; exact h1, h2.mono hi hw⟩
  | row k xs =>
    obtain ⟨h1, h2, h3, h4⟩ := h
    refine ⟨h1, h2, h3, ?_⟩
    rcases h4 with h4 | ⟨cap, us, rest, e, h5, h6, h7, h8, h9⟩
    · exact .inl h4
    · exact .inr ⟨cap, us, rest, e, h5, h6, h7, by rw [hb (by simp [HE.uses, h5])]; exact h8, F2.mono (fun _ _ _ h => h.mono hi hw) h9⟩
  | keys ds ks => obtain ⟨es, cl, h1, h2⟩ := h; exact ⟨es, cl, by rw [hb trivial]; exact h1, h2⟩
theorem RH.upd {w imm ρ c he j d} (hx : ∀ x ∈ he.cells, x.id? ≠ some j) (h : RH w imm ρ c he) : RH w imm (upd ρ j d) c he := by
  cases he with
  | box cs => obtain ⟨us, e, h1, h2⟩ := h; exact ⟨us, e, h1, h2.upd hx⟩
  | row k xs => exact h
  | keys t ks => exact h

/-! ### memory -/
section runs
variable (P : Program)
theorem addr_add (b o i : Nat) : (⟨b, o, none⟩ : Addr).add i = ⟨b, o + i, none⟩ := by
  unfold Addr.add
  split
  · rename_i h; subst h; rfl
  · rfl

theorem run_loadFrom {w : World} {b o : Nat} : ∀ (us : List Value) (i : Nat) (acc : Array Value), (∀ j, j < us.length → w.cell? ⟨b, o + i + j, none⟩ = us[j]?) →
    (loadCellsFrom ⟨b, o, none⟩ i us.length acc).run P w = .ok (acc ++ us.toArray) w
  | [], i, acc, _ => by simp [loadCellsFrom]
  | u :: us, i, acc, h => by
    have h0 := h 0 (by simp)
    have ih := run_loadFrom (w := w) (b := b) (o := o) us (i + 1) (acc.push u) (fun j hj => by
      have := h (j + 1) (by simp; omega)
      simp only [List.getElem?_cons_succ] at this
      rw [← this]
      congr 2
      omega)
    simp only [Nat.add_zero, List.getElem?_cons_zero] at h0
    simp only [List.length_cons, loadCellsFrom, Sem.run_bind, addr_add, run_load, h0, Result.andThen_ok, ih]
    simp
theorem run_loadCells {w : World} {b o : Nat} (us : List Value) (h : ∀ j, j < us.length → w.cell? ⟨b, o + j, none⟩ = us[j]?) :
    (loadCells ⟨b, o, none⟩ us.length).run P w = .ok us.toArray w := by
  unfold loadCells
  rw [run_loadFrom P us 0 #[] (by simpa using h)]
  simp

theorem run_under {t : TypeId} {d : TypeDesc} (w : World) (h : P.underlying t = some d) : (underlying t).run P w = .ok d w := by
  simp [underlying, h]
theorem run_info {t : TypeId} {i : TypeInfo} (w : World) (h : P.info? t = some i) : (typeInfo t).run P w = .ok i w := by
  simp [typeInfo, h]
theorem run_size {t : TypeId} {n : Nat} (w : World) (h : szOf P t = some n) : (sizeOf t).run P w = .ok n w := by
  unfold szOf at h
  cases hi : P.info? t with
  | none => simp [hi] at h
  | some i => simp [hi] at h; simp [sizeOf, run_info P w hi, h]
theorem run_isAgg {t : TypeId} {ag : Bool} (w : World) (h : agOf P t = some ag) : (isAgg t).run P w = .ok ag w := by
  unfold agOf at h
  cases hd : P.underlying t with
  | none => simp [hd] at h
  | some d =>
    simp only [hd, Option.map_some, Option.some.injEq] at h
    simp only [isAgg, Sem.run_bind, run_under P w hd, Result.andThen_ok]
    cases d <;> simp_all
theorem run_zero {t : TypeId} {z : List AV} (w : World) (h : zeroOf P t = some z) : ∃ v, (zeroValue t).run P w = .ok v w ∧ z = v.cells.toList.map AV.v ∧ cellsOk v.cells.toList = true ∧ ∃ i, P.info? t = some i ∧ i.zero = some v := by
  unfold zeroOf at h
  cases hi : P.info? t with
  | none => simp [hi] at h
  | some i =>
    simp only [hi] at h
    cases hz : i.zero with
    | none => simp [hz] at h
    | some v =>
      simp only [hz] at h
      split at h
      · rename_i hok
        simp only [Option.some.injEq] at h
        exact ⟨v, by simp [zeroValue, run_info P w hi, hz], h.symm, hok, i, rfl, hz⟩
      · cases h

theorem run_loadVar {w : World} {t : TypeId} {ag : Bool} {n b o : Nat} {us : List Value} (hag : agOf P t = some ag) (hsz : szOf P t = some n) (hn : us.length = if ag then n else 1)
    (h : ∀ j, j < us.length → w.cell? ⟨b, o + j, none⟩ = us[j]?) :
    (loadVar t ⟨b, o, none⟩).run P w = .ok (if ag then .agg us.toArray else us.headD (.tuple #[])) w := by
  simp only [loadVar, Sem.run_bind, run_isAgg P w hag, Result.andThen_ok]
  cases ag
  · simp only [Bool.false_eq_true, if_false] at hn ⊢
    match us, hn with
    | [u], _ =>
      have h0 := h 0 (by simp)
      simp only [Nat.add_zero, List.getElem?_cons_zero] at h0
      simp [h0]
  · simp only [if_true] at hn ⊢
    subst hn
    simp [run_size P w hsz, run_loadCells P us h]

/-- a world with another object in a block -/
def setBlk (w : World) (b : Nat) (o : Obj) : World := { w with heap := w.heap.setIfInBounds b o }
theorem setBlk_heap {w : World} {b c : Nat} {o : Obj} : (setBlk w b o).heap[c]? = if c = b then (if b < w.heap.size then some o else none) else w.heap[c]? := by
  simp only [setBlk]
  rw [Array.getElem?_setIfInBounds]
  by_cases h : b = c
  · subst h; simp
  · simp [h, Ne.symm h]
theorem setBlk_size {w : World} {b : Nat} {o : Obj} : (setBlk w b o).heap.size = w.heap.size := by simp [setBlk]
theorem cellsAt {w : World} {b : Nat} {us : List Value} {e : TypeId} {f : Nat × Nat} (h : w.heap[b]? = some (.cells us.toArray e f)) (o : Nat) : w.cell? ⟨b, o, none⟩ = us[o]? := by
  simp [World.cell?, h]
theorem frozenAt {w : World} {b : Nat} {us : Array Value} {e : TypeId} (h : w.heap[b]? = some (.cells us e)) (o : Nat) : w.frozen? ⟨b, o, none⟩ = false := by
  simp [World.frozen?, h]
theorem setCell_eq {w : World} {b o : Nat} {us : List Value} {e : TypeId} {v : Value} (h : w.heap[b]? = some (.cells us.toArray e)) :
    w.setCell ⟨b, o, none⟩ v = setBlk w b (.cells (us.set o v).toArray e) := by
  unfold World.setCell setBlk
  congr 1
  apply Array.ext_getElem?
  intro i
  rw [Array.getElem?_modify, Array.getElem?_setIfInBounds]
  have hb : b < w.heap.size := (Array.getElem?_eq_some_iff.1 h).1
  by_cases hi : b = i
  · subst hi
    simp only [h, Option.map_some, if_true, hb]
    simp
  · simp [hi]
theorem setBlk_setBlk (w : World) (b : Nat) (o o' : Obj) : setBlk (setBlk w b o) b o' = setBlk w b o' := by
  simp [setBlk]
theorem setBlk_self {w : World} {b : Nat} {o : Obj} (h : w.heap[b]? = some o) : setBlk w b o = w := by
  unfold setBlk
  have : w.heap.setIfInBounds b o = w.heap := by
    apply Array.ext_getElem?
    intro i
    rw [Array.getElem?_setIfInBounds]
    by_cases hi : b = i
    · subst hi; rw [h]; simp [(Array.getElem?_eq_some_iff.1 h).1]
    · simp [hi]
  rw [this]

theorem run_storeFrom : ∀ (vs : List Value) {w : World} {b o i : Nat} {us : List Value} {e : TypeId}, w.heap[b]? = some (.cells us.toArray e) → o + i + vs.length ≤ us.length → (∀ v ∈ vs, v.oneCell' = true) →
    (storeCells ⟨b, o, none⟩ vs i).run P w = .ok () (setBlk w b (.cells (us.take (o + i) ++ (vs ++ us.drop (o + i + vs.length))).toArray e))
  | [], w, b, o, i, us, e, h, _, _ => by
    simp only [storeCells, List.nil_append, List.length_nil, Nat.add_zero, List.take_append_drop, Sem.run_pure]
    rw [setBlk_self h]
  | v :: vs, w, b, o, i, us, e, h, hl, h1 => by
    simp only [List.length_cons] at hl
    have hc : w.cell? ⟨b, o + i, none⟩ = some us[o + i] := by
      rw [cellsAt h]
      simp [show o + i < us.length by omega]
    have hs := setCell_eq (v := v) (o := o + i) h
    have hb : b < w.heap.size := (Array.getElem?_eq_some_iff.1 h).1
    have h' : (setBlk w b (.cells (us.set (o + i) v).toArray e)).heap[b]? = some (.cells (us.set (o + i) v).toArray e) := by
      rw [setBlk_heap]; simp [hb]
    have ih := run_storeFrom vs (w := setBlk w b (.cells (us.set (o + i) v).toArray e)) (b := b) (o := o) (i := i + 1) h' (by simp; omega) (fun x hx => h1 x (by simp [hx]))
    simp only [storeCells, Sem.run_bind, addr_add, run_store P w _ v _ (h1 v (by simp)), hc, frozenAt h, Bool.false_eq_true, if_false, Result.andThen_ok, hs, ih]
    rw [setBlk_setBlk]
    congr 4
    rw [show o + (i + 1) = o + i + 1 by omega, show o + i + 1 + vs.length = o + i + (vs.length + 1) by omega]
    rw [List.drop_set_of_lt (by omega), List.length_cons]
    rw [List.take_succ_eq_append_getElem (by simp; omega)]
    simp [List.take_set_of_le]
theorem run_storeVar {w : World} {t : TypeId} {n b o : Nat} {us : List Value} {e : TypeId} {v : Value} (hsz : szOf P t = some n) (hv : v.cells.toList.length = n) (h1 : ∀ x ∈ v.cells.toList, x.oneCell' = true)
    (h : w.heap[b]? = some (.cells us.toArray e)) (hl : o + n ≤ us.length) :
    (storeVar t ⟨b, o, none⟩ v).run P w = .ok () (setBlk w b (.cells (us.take o ++ (v.cells.toList ++ us.drop (o + n))).toArray e)) := by
  have hn : ¬ v.cells.size ≠ n := by simpa using hv
  simp only [storeVar, Sem.run_bind, run_size P w hsz, Result.andThen_ok, if_neg hn]
  have := run_storeFrom P v.cells.toList (w := w) (b := b) (o := o) (i := 0) h (by omega) h1
  simp only [Nat.add_zero, hv] at this
  simpa [hv] using this
end runs
end Go.Proofs.YtlbafapmhjfobaaGreatDoor
namespace Go.Proofs.YtlbafapmhjfobaaGreatDoor

def putS (sl : Nat → SV) (d : Option Nat) (out : SV) : Nat → SV := match d with | some d => upd sl d out | none => sl
def putH (hp : Nat → Option HE) (u : List (Nat × Option HE)) : Nat → Option HE := u.foldl (fun h p => upd h p.1 p.2) hp

variable {P : Program} {E : Env} {A A' : Nat → Prop} {sl sl' : Nat → SV} {hp hp' : Nat → Option HE} {ρ ρ' : Nat → Cn} {imm imm' : Nat → Prop} {a a' : Act} {w w' : World}

theorem put_getD (a : Act) (d i : Nat) (v : Value) (h : d < a.tmps.size) : (a.put (some d) v).tmps.getD i undef = if i = d then v else a.tmps.getD i undef := by
  simp only [Act.put, Array.getD_eq_getD_getElem?, Array.getElem?_setIfInBounds]
  by_cases hi : d = i
  · subst hi; simp [h]
  · simp [hi, Ne.symm hi]
theorem put_size (a : Act) (d : Option Nat) (v : Value) : (a.put d v).tmps.size = a.tmps.size := by cases d <;> simp [Act.put]
theorem put_defers (a : Act) (d : Option Nat) (v : Value) : (a.put d v).defers = a.defers := by cases d <;> rfl

def dstOk (E : Env) (d : Option Nat) : Prop := ∀ i, d = some i → i < E.nt

theorem Real.weakA (h : Real E A sl hp ρ imm a w) (hA : ∀ x, A x → A' x) : Real E A' sl hp ρ imm a w :=
  { h with
    wf := ⟨fun i x hx b hb => ⟨hA _ (h.wf.ids i x hx b hb).1, (h.wf.ids i x hx b hb).2⟩, fun b he hb => ⟨hA _ (h.wf.idh b he hb).1, fun x hx c hc => ⟨hA _ ((h.wf.idh b he hb).2 x hx c hc).1, ((h.wf.idh b he hb).2 x hx c hc).2⟩⟩⟩
    pin := fun b c hc => ⟨(h.pin b c hc).1, hA _ (h.pin b c hc).2.1, (h.pin b c hc).2.2⟩
    pinr := fun c hc => ⟨hA _ (h.pinr c hc).1, (h.pinr c hc).2⟩ }

theorem cell_sameHeap {w w' : World} (h : w'.heap = w.heap) (a : Addr) : w'.cell? a = w.cell? a := by simp [World.cell?, h]
theorem RH.same {c : Cn} {he : HE} (h : w'.heap = w.heap) (hr : RH w imm ρ c he) : RH w' imm ρ c he :=
  hr.mono (fun _ h => h) (fun _ _ => by rw [h]) (fun _ => by rw [h])
/-- nothing but a count of the world has turned -/
theorem Real.same (h : Real E A sl hp ρ imm a w) (hw : w'.heap = w.heap) (h1 : w'.os = w.os) (h2 : w'.tape = w.tape) (h3 : w'.output = w.output) (h4 : w.drawn ≤ w'.drawn) : Real E A sl hp ρ imm a w' :=
  { h with
    slots := fun i => (h.slots i).mono (fun _ h => h) (fun _ _ => by rw [hw])
    heap := fun b he hb => (h.heap b he hb).same hw
    used := fun b he hb hu => by rw [hw]; exact h.used b he hb hu
    immlt := fun x hx => by rw [hw]; exact h.immlt x hx
    ext := ⟨h1.trans h.ext.os, h2.trans h.ext.tape, h3.trans h.ext.output, Nat.le_trans h.ext.drawn h4, by rw [hw]; exact h.ext.size, fun b hb hs => by rw [hw]; exact h.ext.block b hb hs⟩
    glob := fun g cs hg => (h.glob g cs hg).mono (fun _ h => h) (fun _ _ => by rw [hw])
    defs := by obtain ⟨ds, e1, e2, e3⟩ := h.defs; exact ⟨ds, e1, e2, fun D hD => by rw [hw]; exact e3 D hD⟩
    jinv := E.jst _ _ _ _ _ _ (fun _ => False) h.jinv (fun x hx => by obtain ⟨b, he, hb, hu, rfl⟩ := hx; exact ⟨(h.used b he hb hu).1, (h.used b he hb hu).2.1⟩) ⟨h1, h2, h3, h4, by rw [hw]; exact Nat.le_refl _, fun b hb _ => by rw [hw]⟩ (fun _ h => h.elim) (fun _ h => h) (fun x hx => ⟨by rw [hw]; exact h.immlt x hx, .inl hx⟩) (fun _ h => .inl h) }

theorem Real.put (h : Real E A sl hp ρ imm a w) {d : Option Nat} {out : SV} {v : Value} (hd : dstOk E d) (hr : RS w imm ρ out v) (hok : ∀ x ∈ out.cells, okC A hp x) :
    Real E A (putS sl d out) hp ρ imm (a.put d v) w := by
  cases d with
  | none => exact { h with slots := fun i => by simpa [putS, Act.put] using h.slots i }
  | some d =>
    refine { h with wf := ⟨fun i x hx => ?_, h.wf.idh⟩, slots := fun i => ?_, nt := by rw [put_size]; exact h.nt, defs := by rw [put_defers]; exact h.defs }
    · simp only [putS, upd_apply] at hx
      split at hx
      · exact hok x hx
      · exact h.wf.ids i x hx
    · rw [put_getD _ _ _ _ (by rw [h.nt]; exact hd d rfl)]
      simp only [putS, upd_apply]
      split
      · exact hr
      · exact h.slots i

theorem Real.go {b0 : Nat} {Wt : Nat → Prop} (h : Real E A sl hp ρ imm a w) (hA : ∀ x, A x → A' x) (hw : Ext Wt w w')
    (hWt : ∀ x, Wt x → ∃ he, hp b0 = some he ∧ he.uses (ρ b0) ∧ x = (ρ b0).blk)
    (himm : ∀ x, imm x → imm' x)
    (himm' : ∀ x, imm' x → x < w'.heap.size ∧ (imm x ∨ w.heap.size ≤ x ∨ (hp' b0 = none ∧ ∃ he, hp b0 = some he ∧ he.uses (ρ b0) ∧ x = (ρ b0).blk)))
    (hnt : a'.tmps.size = E.nt) (hdf : a'.defers = a.defers)
    (hρ : ∀ x u, okC A hp x → RA w imm ρ x u → RA w' imm' ρ' x u)
    (hok : ∀ x, okC A hp x → okC A' hp' x)
    (hsl : ∀ i, (sl' i = sl i ∧ a'.tmps.getD i undef = a.tmps.getD i undef) ∨ (RS w' imm' ρ' (sl' i) (a'.tmps.getD i undef) ∧ ∀ x ∈ (sl' i).cells, okC A' hp' x))
    (hhp : ∀ b, b ≠ b0 → hp' b = hp b ∧ ρ' b = ρ b)
    (h0 : ∀ he, hp' b0 = some he → A' b0 ∧ (∀ x ∈ he.cells, okC A' hp' x) ∧ RH w' imm' ρ' (ρ' b0) he ∧ (he.uses (ρ' b0) → (ρ' b0).blk < w'.heap.size ∧ ¬ imm' (ρ' b0).blk ∧
      (w.heap.size ≤ (ρ' b0).blk ∨ ∃ he0, hp b0 = some he0 ∧ he0.uses (ρ b0) ∧ (ρ' b0).blk = (ρ b0).blk)))
    (hpin : ∀ c, E.pin b0 = some c → ρ' b0 = c ∧ ∀ k xs, hp' b0 ≠ some (.row k xs))
    (hpr : A 0 → b0 = 0 → ∀ k xs, hp' 0 = some (.row k xs) → ∃ k0 xs0, hp 0 = some (.row k0 xs0) ∧ xs0.length ≤ xs.length ∧ (xs0.length = xs.length → ρ' 0 = ρ 0)) :
    Real E A' sl' hp' ρ' imm' a' w' := by
  have hsz : w.heap.size ≤ w'.heap.size := hw.size
  have hmine : ∀ x, Wt x → ¬ imm x ∧ (E.w0.heap.size ≤ x ∨ E.S x) := by
    intro x hx
    obtain ⟨he, hb, hu, rfl⟩ := hWt x hx
    have := h.used b0 he hb hu
    exact ⟨this.2.1, this.2.2⟩
  have hblk : ∀ x, imm x → w'.heap[x]? = w.heap[x]? := fun x hx => hw.block x (h.immlt x hx) (fun hwx => (hmine x hwx).1 hx)
  have hRS : ∀ s u, (∀ x ∈ s.cells, okC A hp x) → RS w imm ρ s u → RS w' imm' ρ' s u := by
    intro s u hs hr
    cases s with
    | top => trivial
    | c ag cs => obtain ⟨us, h1, h2⟩ := hr; exact ⟨us, F2.mono (fun x hx u hr => hρ x u (hs x hx) hr) h1, h2⟩
    | tup xs =>
      obtain ⟨us, h1, h2⟩ := hr
      refine ⟨us, h1, F2.mono (fun p hp' u hr => ?_) h2⟩
      obtain ⟨vs, h3, h4⟩ := hr
      exact ⟨vs, F2.mono (fun x hx u hr => hρ x u (hs x (by simp only [SV.cells, List.mem_flatMap]; exact ⟨p, hp', hx⟩)) hr) h3, h4⟩
  have hsz0 : E.w0.heap.size ≤ w.heap.size := h.ext.size
  have hused' : ∀ x, usedBy hp' ρ' x → usedBy hp ρ x ∨ w.heap.size ≤ x := by
    rintro x ⟨b, he, hb, hu, rfl⟩
    by_cases hbb : b = b0
    · subst hbb
      rcases ((h0 he hb).2.2.2 hu).2.2 with h3 | ⟨he0, h4, h5, h6⟩
      · exact .inr h3
      · exact .inl ⟨b, he0, h4, h5, h6⟩
    · rw [(hhp b hbb).1] at hb
      rw [(hhp b hbb).2] at hu ⊢
      exact .inl ⟨b, he, hb, hu, rfl⟩
  refine { wf := ⟨fun i x hx => ?_, fun b he hb => ?_⟩, slots := fun i => ?_, nt := hnt, defs := ?_, heap := fun b he hb => ?_, used := fun b he hb hu => ?_, inj := ?_, immlt := fun x hx => (himm' x hx).1, imm0 := fun x hx => himm x (h.imm0 x hx), immF := fun x hx => ?_, ext := ?_, glob := ?_, pin := fun b c hc => ⟨(h.pin b c hc).1, hA _ (h.pin b c hc).2.1, ?_⟩, pinr := fun c hc => ⟨hA _ (h.pinr c hc).1, fun k xs hk => ?_⟩, jinv := E.jst _ _ _ _ _ _ Wt h.jinv (fun x hx => by obtain ⟨b, he, hb, hu, rfl⟩ := hx; exact ⟨(h.used b he hb hu).1, (h.used b he hb hu).2.1⟩) hw (fun x hx => ⟨b0, hWt x hx⟩) himm (fun x hx => ⟨(himm' x hx).1, ?_⟩) ?_ }
  · rcases hsl i with ⟨h1, _⟩ | ⟨_, h2⟩
    · rw [h1] at hx; exact hok x (h.wf.ids i x hx)
    · exact h2 x hx
  · by_cases hbb : b = b0
    · subst hbb; exact ⟨(h0 he hb).1, (h0 he hb).2.1⟩
    · rw [(hhp b hbb).1] at hb
      exact ⟨hA _ (h.wf.idh b he hb).1, fun x hx => hok x ((h.wf.idh b he hb).2 x hx)⟩
  · rcases hsl i with ⟨h1, h2⟩ | ⟨h1, _⟩
    · rw [h1, h2]; exact hRS _ _ (fun x hx => h.wf.ids i x hx) (h.slots i)
    · exact h1
  · obtain ⟨ds, e1, e2, e3⟩ := h.defs
    refine ⟨ds, hdf.trans e1, e2, fun D hD => ?_⟩
    obtain ⟨g1, g2, g3, g4⟩ := e3 D hD
    have hlt : D < w.heap.size := (Array.getElem?_eq_some_iff.1 g1).1
    refine ⟨(hw.block D hlt (fun hx => g4 ⟨b0, hWt D hx⟩)).trans g1, g2, fun hi => ?_, fun hu => ?_⟩
    · rcases (himm' D hi).2 with h4 | h4 | ⟨_, he0, h5, h6, h7⟩
      · exact g3 h4
      · omega
      · exact g4 ⟨b0, he0, h5, h6, h7⟩
    · rcases hused' D hu with h4 | h4
      · exact g4 h4
      · omega
  · by_cases hbb : b = b0
    · subst hbb; exact (h0 he hb).2.2.1
    · rw [(hhp b hbb).1] at hb
      rw [(hhp b hbb).2]
      have hold := h.heap b he hb
      have hwb : he.uses (ρ b) → w'.heap[(ρ b).blk]? = w.heap[(ρ b).blk]? := fun hu => hw.block _ (h.used b he hb hu).1 (fun hx => by
        obtain ⟨he0, hb0, hu0, e⟩ := hWt _ hx
        exact h.inj b b0 he he0 hb hb0 hu hu0 hbb e)
      cases he with
      | box cs =>
        obtain ⟨us, e, h1, h2⟩ := hold
        exact ⟨us, e, by rw [hwb trivial]; exact h1, F2.mono (fun x hx u hr => hρ x u ((h.wf.idh b _ hb).2 x hx) hr) h2⟩
      | row k xs =>
        obtain ⟨h1, h2, h3, h4⟩ := hold
        refine ⟨h1, h2, h3, ?_⟩
        rcases h4 with h4 | ⟨cap, us, rest, e, h5, h6, h7, h8, h9⟩
        · exact .inl h4
        · exact .inr ⟨cap, us, rest, e, h5, h6, h7, by rw [hwb (by simp [HE.uses, h5])]; exact h8, F2.mono (fun _ _ _ hq => hq.mono himm hblk) h9⟩
      | keys t ks => obtain ⟨es, cl, h1, h2⟩ := hold; exact ⟨es, cl, by rw [hwb trivial]; exact h1, h2⟩
  · by_cases hbb : b = b0
    · subst hbb
      obtain ⟨h1, h2, h3⟩ := (h0 he hb).2.2.2 hu
      refine ⟨h1, h2, ?_⟩
      rcases h3 with h3 | ⟨he0, h4, h5, h6⟩
      · exact .inl (Nat.le_trans hsz0 h3)
      · rw [h6]; exact (h.used b he0 h4 h5).2.2
    · rw [(hhp b hbb).1] at hb
      rw [(hhp b hbb).2] at hu ⊢
      obtain ⟨h1, h2, h3⟩ := h.used b he hb hu
      refine ⟨Nat.lt_of_lt_of_le h1 hsz, fun hx => ?_, h3⟩
      rcases (himm' _ hx).2 with h4 | h4 | ⟨_, he0, h5, h6, h7⟩
      · exact h2 h4
      · omega
      · exact h.inj b b0 he he0 hb h5 hu h6 hbb h7
  · have key : ∀ b he he0, b ≠ b0 → hp b = some he → he.uses (ρ b) → hp' b0 = some he0 → he0.uses (ρ' b0) → (ρ b).blk ≠ (ρ' b0).blk := by
      intro b he he0 hbb hb hu hb0 hu0
      have h1 := (h.used b he hb hu).1
      rcases ((h0 he0 hb0).2.2.2 hu0).2.2 with h3 | ⟨he1, h4, h5, h6⟩
      · omega
      · rw [h6]; exact h.inj b b0 he he1 hb h4 hu h5 hbb
    intro b b' he he' hb hb' hu hu' hne
    by_cases hbb : b = b0
    · subst hbb
      have hne' : b' ≠ b := Ne.symm hne
      rw [(hhp b' hne').1] at hb'
      rw [(hhp b' hne').2] at hu' ⊢
      exact (key b' he' he hne' hb' hu' hb hu).symm
    · rw [(hhp b hbb).1] at hb
      rw [(hhp b hbb).2] at hu ⊢
      by_cases hbb' : b' = b0
      · subst hbb'; exact key b he he' hbb hb hu hb' hu'
      · rw [(hhp b' hbb').1] at hb'
        rw [(hhp b' hbb').2] at hu' ⊢
        exact h.inj b b' he he' hb hb' hu hu' hne
  · rcases (himm' x hx).2 with h4 | h4 | ⟨_, he0, h5, h6, rfl⟩
    · exact h.immF x h4
    · exact .inr (.inl (Nat.le_trans hsz0 h4))
    · exact .inr (h.used b0 he0 h5 h6).2.2
  · exact h.ext.trans hw (fun x hx => (hmine x hx).2.symm)
  · exact fun g cs hg => (h.glob g cs hg).mono himm hblk
  · by_cases hb0 : b = b0
    · subst hb0; exact hpin c hc
    · rw [(hhp b hb0).1, (hhp b hb0).2]; exact (h.pin b c hc).2.2
  · by_cases hb0 : b0 = 0
    · obtain ⟨k0, xs0, g1, g2, g3⟩ := hpr (h.pinr c hc).1 hb0 k xs hk
      obtain ⟨f1, f2⟩ := (h.pinr c hc).2 k0 xs0 g1
      refine ⟨by omega, fun he => ?_⟩
      rw [g3 (by omega)]
      exact f2 (by omega)
    · rw [(hhp 0 (Ne.symm hb0)).1] at hk
      rw [(hhp 0 (Ne.symm hb0)).2]
      exact (h.pinr c hc).2 k xs hk
  · rcases (himm' x hx).2 with h4 | h4 | ⟨_, he0, h5, h6, h7⟩
    · exact .inl h4
    · exact .inr (.inr h4)
    · exact .inr (.inl ⟨b0, he0, h5, h6, h7⟩)
  · exact hused'

/-- a step, put generally -/
theorem Real.step {Wt : Nat → Prop} (h : Real E A sl hp ρ imm a w) (hA : ∀ x, A x → A' x) (hw : Ext Wt w w') (hWt : ∀ x, Wt x → usedBy hp ρ x) (himm : ∀ x, imm x → imm' x)
    (himm' : ∀ x, imm' x → x < w'.heap.size ∧ (imm x ∨ w.heap.size ≤ x ∨ usedBy hp ρ x)) (hnt : a'.tmps.size = E.nt) (hdf : a'.defers = a.defers)
    (hsl : ∀ i, RS w' imm' ρ' (sl' i) (a'.tmps.getD i undef) ∧ ∀ x ∈ (sl' i).cells, okC A' hp' x)
    (hhp : ∀ b he, hp' b = some he → A' b ∧ (∀ x ∈ he.cells, okC A' hp' x) ∧ RH w' imm' ρ' (ρ' b) he ∧ (he.uses (ρ' b) → (ρ' b).blk < w'.heap.size ∧ ¬ imm' (ρ' b).blk ∧ (w.heap.size ≤ (ρ' b).blk ∨ usedBy hp ρ (ρ' b).blk)))
    (hinj : ∀ b b' he he', hp' b = some he → hp' b' = some he' → he.uses (ρ' b) → he'.uses (ρ' b') → b ≠ b' → (ρ' b).blk ≠ (ρ' b').blk)
    (hpin : ∀ b c, E.pin b = some c → ρ' b = c ∧ ∀ k xs, hp' b ≠ some (.row k xs))
    (hpr : ∀ c, E.pinr = some c → ∀ k xs, hp' 0 = some (.row k xs) → c.len ≤ xs.length ∧ (xs.length = c.len → ρ' 0 = c)) : Real E A' sl' hp' ρ' imm' a' w' := by
  have husd : ∀ x, usedBy hp ρ x → x < w.heap.size ∧ ¬ imm x ∧ (E.w0.heap.size ≤ x ∨ E.S x) := by rintro x ⟨b, he, hb, hu, rfl⟩; exact h.used b he hb hu
  have hblk : ∀ x, imm x → w'.heap[x]? = w.heap[x]? := fun x hx => hw.block x (h.immlt x hx) (fun hwx => (husd x (hWt x hwx)).2.1 hx)
  have hsz0 : E.w0.heap.size ≤ w.heap.size := h.ext.size
  have hused' : ∀ x, usedBy hp' ρ' x → usedBy hp ρ x ∨ w.heap.size ≤ x := by
    rintro x ⟨b, he, hb, hu, rfl⟩
    exact ((hhp b he hb).2.2.2 hu).2.2.symm
  refine { wf := ⟨fun i => (hsl i).2, fun b he hb => ⟨(hhp b he hb).1, (hhp b he hb).2.1⟩⟩, slots := fun i => (hsl i).1, nt := hnt, defs := ?_, heap := fun b he hb => (hhp b he hb).2.2.1, used := fun b he hb hu => ⟨((hhp b he hb).2.2.2 hu).1, ((hhp b he hb).2.2.2 hu).2.1, ?_⟩, inj := hinj, immlt := fun x hx => (himm' x hx).1, imm0 := fun x hx => himm x (h.imm0 x hx), immF := fun x hx => ?_, ext := h.ext.trans hw (fun x hx => ((husd x (hWt x hx)).2.2).symm), glob := fun g cs hg => (h.glob g cs hg).mono himm hblk, pin := fun b c hc => ⟨(h.pin b c hc).1, hA _ (h.pin b c hc).2.1, hpin b c hc⟩, pinr := fun c hc => ⟨hA _ (h.pinr c hc).1, hpr c hc⟩, jinv := E.jst _ _ _ _ _ _ Wt h.jinv (fun x hx => ⟨(husd x hx).1, (husd x hx).2.1⟩) hw hWt himm (fun x hx => ⟨(himm' x hx).1, ?_⟩) hused' }
  · obtain ⟨ds, e1, e2, e3⟩ := h.defs
    refine ⟨ds, hdf.trans e1, e2, fun D hD => ?_⟩
    obtain ⟨g1, g2, g3, g4⟩ := e3 D hD
    have hlt : D < w.heap.size := (Array.getElem?_eq_some_iff.1 g1).1
    refine ⟨(hw.block D hlt (fun hx => g4 (hWt D hx))).trans g1, g2, fun hi => ?_, fun hu => ?_⟩
    · rcases (himm' D hi).2 with h4 | h4 | h4
      · exact g3 h4
      · omega
      · exact g4 h4
    · rcases hused' D hu with h4 | h4
      · exact g4 h4
      · omega
  · rcases ((hhp b he hb).2.2.2 hu).2.2 with h4 | h4
    · exact .inl (Nat.le_trans hsz0 h4)
    · exact (husd _ h4).2.2
  · rcases (himm' x hx).2 with h4 | h4 | h4
    · exact h.immF x h4
    · exact .inr (.inl (Nat.le_trans hsz0 h4))
    · exact .inr (husd _ h4).2.2
  · rcases (himm' x hx).2 with h4 | h4 | h4
    · exact .inl h4
    · exact .inr (.inr h4)
    · exact .inr (.inl h4)

/-- a fresh number is named nowhere -/
theorem okC.fresh {j : Nat} {o : Option HE} (hj : ¬ A j) {x : AV} (h : okC A hp x) : okC (fun y => A y ∨ y = j) (upd hp j o) x := by
  intro b hb
  obtain ⟨h1, h2⟩ := h b hb
  have hne : b ≠ j := fun e => hj (e ▸ h1)
  exact ⟨.inl h1, fun k xs hk => h2 k xs (by rwa [upd_ne _ _ hne] at hk)⟩
theorem okC.none_id {x : AV} (h : x.id? = none) : okC A hp x := fun b hb => by rw [h] at hb; cases hb

/-- A new block. -/
theorem Real.new {j : Nat} {he : HE} {c : Cn} {o : Obj} {d : Option Nat} {out : SV} {v : Value} (h : Real E A sl hp ρ imm a w) (hj : ¬ A j) (hd : dstOk E d)
    (hw : w' = { w with heap := w.heap.push o }) (hcells : ∀ x ∈ he.cells, okC A hp x) (hrh : RH w' imm (upd ρ j c) c he) (hu : he.uses c → c.blk = w.heap.size)
    (hr : RS w' imm (upd ρ j c) out v) (hout : ∀ x ∈ out.cells, okC (fun y => A y ∨ y = j) (upd hp j (some he)) x) :
    Real E (fun y => A y ∨ y = j) (putS sl d out) (upd hp j (some he)) (upd ρ j c) imm (a.put d v) w' := by
  have hsz : w'.heap.size = w.heap.size + 1 := by subst hw; simp
  have hhp : hp j = none := by
    cases hb : hp j with
    | none => rfl
    | some he => exact (hj (h.wf.idh j he hb).1).elim
  have hext : Ext (fun _ => False) w w' := by
    subst hw
    exact ⟨rfl, rfl, rfl, Nat.le_refl _, by simp, fun b hb _ => by simp [Array.getElem?_push, show ¬ b = w.heap.size by omega]⟩
  have hb : ∀ b, imm b → w'.heap[b]? = w.heap[b]? := fun b hb => hext.block b (h.immlt b hb) (fun h => h)
  refine h.go (b0 := j) (hpin := fun c hc => (hj (h.pin _ c hc).2.1).elim) (hpr := fun hA0 e => (hj (e ▸ hA0)).elim) (fun x hx => .inl hx) hext (fun x hx => hx.elim) (fun x hx => hx) (fun x hx => ⟨by have := h.immlt x hx; omega, .inl hx⟩) (by rw [put_size]; exact h.nt) (put_defers _ _ _)
    (fun x u hx hr => ?_) (fun x hx => hx.fresh hj) (fun i => ?_) (fun b hb => ⟨upd_ne _ _ hb, upd_ne _ _ hb⟩) (fun he' hhe => ?_)
  · refine (RA.upd (fun e => hj (hx j e).1) hr).mono (fun _ h => h) hb
  · cases d with
    | none => exact .inl ⟨rfl, rfl⟩
    | some d =>
      rw [put_getD _ _ _ _ (by rw [h.nt]; exact hd d rfl)]
      simp only [putS, upd_apply]
      by_cases hi : i = d
      · simp only [hi, if_true]; exact .inr ⟨hr, hout⟩
      · simp only [hi, if_false]; exact .inl (by simp)
  · rw [upd_same] at hhe
    cases hhe
    simp only [upd_same]
    exact ⟨by simp, fun x hx => (hcells x hx).fresh hj, hrh, fun hu' => ⟨by rw [hu hu', hsz]; omega, fun hi => by have := h.immlt _ hi; rw [hu hu'] at this; omega, .inl (by rw [hu hu']; exact Nat.le_refl _)⟩⟩

/-- A store into a tracked block; a row keeps its length. -/
theorem Real.write {b : Nat} {he he' : HE} {o : Obj} {d : Option Nat} {out : SV} {v : Value} (h : Real E A sl hp ρ imm a w) (hd : dstOk E d) (hb : hp b = some he) (hu : he.uses (ρ b))
    (hlen : ∀ k xs, he' = .row k xs → ∃ ys, he = .row k ys ∧ ys.length = xs.length)
    (hrow : ∀ k xs, he = .row k xs → ∃ ys, he' = .row k ys) (hbox : ∀ cs, he' = .box cs → ∃ cs', he = .box cs')
    (hw : w' = setBlk w (ρ b).blk o) (hcells : ∀ x ∈ he'.cells, okC A hp x) (hrh : RH w' imm ρ (ρ b) he')
    (hr : RS w' imm ρ out v) (hout : ∀ x ∈ out.cells, okC A hp x) :
    Real E A (putS sl d out) (upd hp b (some he')) ρ imm (a.put d v) w' := by
  have hsz : w'.heap.size = w.heap.size := by subst hw; exact setBlk_size
  have hext : Ext (fun x => x = (ρ b).blk) w w' := by
    subst hw
    exact ⟨rfl, rfl, rfl, Nat.le_refl _, by rw [setBlk_size]; exact Nat.le_refl _, fun c _ hn => by rw [setBlk_heap, if_neg hn]⟩
  have hi := (h.used b he hb hu).2.1
  have himm : ∀ c, imm c → w'.heap[c]? = w.heap[c]? := fun c hc => hext.block c (h.immlt c hc) (fun e => hi (e ▸ hc))
  have hok : ∀ x, okC A hp x → okC A (upd hp b (some he')) x := by
    intro x hx c hc
    obtain ⟨h1, h2⟩ := hx c hc
    refine ⟨h1, fun k xs hk => ?_⟩
    by_cases hcb : c = b
    · subst hcb
      rw [upd_same] at hk
      cases hk
      obtain ⟨ys, h3, h4⟩ := hlen k xs rfl
      have := h2 k ys (by rw [hb, h3])
      rw [← h4]; exact this
    · rw [upd_ne _ _ hcb] at hk; exact h2 k xs hk
  refine h.go (b0 := b) (hpin := fun c hc => ⟨(h.pin _ c hc).2.2.1, fun k xs hk => by rw [upd_same] at hk; cases hk; obtain ⟨ys, hy, _⟩ := hlen k xs rfl; exact (h.pin _ c hc).2.2.2 k ys (by rw [hb, hy])⟩) (hpr := fun _ e k xs hk => by subst e; rw [upd_same] at hk; cases hk; obtain ⟨ys, hy, hyl⟩ := hlen k xs rfl; exact ⟨k, ys, by rw [hb, hy], Nat.le_of_eq hyl, fun _ => rfl⟩) (Wt := fun x => x = (ρ b).blk) (fun x hx => hx) hext (fun x hx => ⟨he, hb, hu, hx⟩) (fun x hx => hx) (fun x hx => ⟨by have := h.immlt x hx; omega, .inl hx⟩) (by rw [put_size]; exact h.nt) (put_defers _ _ _)
    (fun x u _ hr => hr.mono (fun _ h => h) himm) hok (fun i => ?_) (fun c hc => ⟨upd_ne _ _ hc, rfl⟩) (fun he1 hhe => ?_)
  · cases d with
    | none => exact .inl ⟨rfl, rfl⟩
    | some d =>
      rw [put_getD _ _ _ _ (by rw [h.nt]; exact hd d rfl)]
      simp only [putS, upd_apply]
      by_cases hi : i = d
      · simp only [hi, if_true]; exact .inr ⟨hr, fun x hx => hok x (hout x hx)⟩
      · simp only [hi, if_false]; exact .inl (by simp)
  · rw [upd_same] at hhe
    cases hhe
    refine ⟨(h.wf.idh b he hb).1, fun x hx => hok x (hcells x hx), hrh, fun _ => ⟨?_, hi, .inr ⟨he, hb, hu, rfl⟩⟩⟩
    have := (h.used b he hb hu).1
    omega
end Go.Proofs.YtlbafapmhjfobaaGreatDoor
namespace Go.Proofs.YtlbafapmhjfobaaGreatDoor
variable {P : Program} {E : Env} {F : Fence} {n : Nat} {A : Nat → Prop} {sl : Nat → SV} {hp : Nat → Option HE} {ρ : Nat → Cn} {imm : Nat → Prop} {a : Act} {w : World} {j : Nat}
  {K : SV → List (Nat × Option HE) → Prop} {Q : Exit → Act → World → Prop} {o : Oper}

/-- behind an operation -/
def Post (E : Env) (A : Nat → Prop) (sl : Nat → SV) (hp : Nat → Option HE) (d : Option Nat) (j : Nat) (K : SV → List (Nat × Option HE) → Prop) (a : Act) (w : World) : Prop :=
  ∃ out u ρ' imm', K out u ∧ Real E (fun y => A y ∨ y = j) (putS sl d out) (putH hp u) ρ' imm' a w

theorem RA_v {w : World} {imm : Nat → Prop} {ρ : Nat → Cn} {x u : Value} (h : RA w imm ρ (.v x) u) : u = x := by
  have h' : PR w imm (.v x) u := h
  cases h'; rfl
theorem RS_v {w : World} {imm : Nat → Prop} {ρ : Nat → Cn} {x u : Value} (h : RS w imm ρ (.c false [.v x]) u) : u = x := RA_v h.c1
theorem RS_mkv {w : World} {imm : Nat → Prop} {ρ : Nat → Cn} {x : Value} (h : x.oneCell' = true) : RS w imm ρ (.c false [.v x]) x := .mk1 (.of_PR (.v h))
theorem okC_v {A : Nat → Prop} {hp : Nat → Option HE} {x : Value} : okC A hp (.v x) := .none_id rfl
theorem okC_v1 {A : Nat → Prop} {hp : Nat → Option HE} {x : Value} {ag : Bool} : ∀ y ∈ (SV.c ag [.v x]).cells, okC A hp y := by
  intro y hy
  simp only [SV.cells, List.mem_singleton] at hy
  subst hy; exact okC_v
theorem okC.pers {A : Nat → Prop} {hp : Nat → Option HE} {x : AV} (h : x.pers = true) : okC A hp x := .none_id (by cases x <;> simp_all [AV.pers, AV.id?])

theorem PR.lits {w : World} {imm : Nat → Prop} {ρ : Nat → Cn} : ∀ {us : List Value}, cellsOk us = true → RC w imm ρ (us.map AV.v) us
  | [], _ => trivial
  | u :: us, h => by
    simp only [cellsOk, List.all_cons, Bool.and_eq_true] at h
    exact ⟨.of_PR (.v h.1), PR.lits h.2⟩

/-- operands -/
theorem ev_RS (h : Real E A sl hp ρ imm a w) {x : Operand} {y : Opd} (hx : opdOf x = some y) : RS w imm ρ (ev E.gl sl y) (a.eval x) ∧ ∀ c ∈ (ev E.gl sl y).cells, okC A hp c := by
  cases x with
  | tmp t =>
    simp only [opdOf, Option.some.injEq] at hx
    subst hx
    exact ⟨h.slots t, h.wf.ids t⟩
  | func f =>
    simp only [opdOf, Option.some.injEq] at hx
    subst hx
    refine ⟨.mk1 (.of_PR (.fn [] [] rfl rfl (by simp) (by simp) (by simp))), fun c hc => ?_⟩
    simp only [ev, SV.cells, List.mem_singleton] at hc
    subst hc; exact .none_id rfl
  | global g =>
    simp only [opdOf, Option.some.injEq] at hx
    subst hx
    simp only [ev]
    split
    · rename_i cs hg
      refine ⟨.mk1 (.of_PR (h.glob g cs hg)), fun c hc => ?_⟩
      simp only [SV.cells, List.mem_singleton] at hc
      subst hc; exact .none_id rfl
    · exact ⟨trivial, fun c hc => by simp [SV.cells] at hc⟩
  | const v =>
    have hone : ∀ z : Value, z.oneCell' = true → some (Opd.k false [AV.v z]) = some y → RS w imm ρ (ev E.gl sl y) z ∧ ∀ c ∈ (ev E.gl sl y).cells, okC A hp c := by
      intro z hz hy
      simp only [Option.some.injEq] at hy
      subst hy
      exact ⟨RS_mkv hz, okC_v1⟩
    cases v with
    | agg cs =>
      simp only [opdOf] at hx
      split at hx
      · rename_i hok
        simp only [Option.some.injEq] at hx
        subst hx
        refine ⟨⟨cs.toList, PR.lits hok, by simp [Act.eval]⟩, fun c hc => ?_⟩
        simp only [ev, SV.cells, List.mem_map] at hc
        obtain ⟨z, _, rfl⟩ := hc
        exact okC_v
      · cases hx
    | tuple vs => simp [opdOf] at hx
    | _ => exact hone _ rfl hx

theorem ev1 (h : Real E A sl hp ρ imm a w) {x : Operand} {y : Opd} (hx : opdOf x = some y) {c : AV} (he : ev E.gl sl y = .c false [c]) : RA w imm ρ c (a.eval x) ∧ okC A hp c := by
  obtain ⟨h1, h2⟩ := ev_RS h hx
  rw [he] at h1 h2
  exact ⟨h1.c1, h2 c (by simp [SV.cells])⟩
theorem evv1 (h : Real E A sl hp ρ imm a w) {x : Operand} {y : Opd} (hx : opdOf x = some y) {v : Value} (he : ev E.gl sl y = .c false [.v v]) : a.eval x = v := RA_v (ev1 h hx he).1

/-- an operation that only computes -/
theorem snd_pure (hne : ∀ c, o.op ≠ .defer c) (hF : ∀ f, F.fn f) (h : Real E A sl hp ρ imm a w) (hd : dstOk E o.dst) {out : SV} {v : Value}
    (hrun : (execOp a.eval o).run P w = .ok (.value v) w) (hr : RS w imm ρ out v) (hok : ∀ x ∈ out.cells, okC A hp x) (hk : K out []) :
    o.wpIn F n P a w (Post E A sl hp o.dst j K) Q := by
  refine ⟨fun f _ => hF f, ?_⟩
  rw [Oper.semAt_eq _ _ _ hne, hrun]
  exact ⟨out, [], ρ, imm, hk, (h.put hd hr hok).weakA fun _ h => .inl h⟩

theorem snd_mv {x : Operand} {y : Opd} (ho : o.op = .move x ∨ o.op = .assign x) (hx : opdOf x = some y) (hF : ∀ f, F.fn f) (h : Real E A sl hp ρ imm a w) (hd : dstOk E o.dst)
    (hs : opSem P E.gl (ev E.gl sl) hp j (.mv y) K) : o.wpIn F n P a w (Post E A sl hp o.dst j K) Q := by
  obtain ⟨h1, h2⟩ := ev_RS h hx
  refine snd_pure (by rcases ho with ho | ho <;> simp [ho]) hF h hd (v := a.eval x) ?_ h1 h2 hs
  rcases ho with ho | ho <;> simp [execOp, ho]

theorem snd_pick {c x y : Operand} {c' x' y' : Opd} (ho : o.op = .pick c x y) (hc : opdOf c = some c') (hx : opdOf x = some x') (hy : opdOf y = some y') (hF : ∀ f, F.fn f) (h : Real E A sl hp ρ imm a w) (hd : dstOk E o.dst)
    (hs : opSem P E.gl (ev E.gl sl) hp j (.pick c' x' y') K) : o.wpIn F n P a w (Post E A sl hp o.dst j K) Q := by
  simp only [opSem] at hs
  split at hs
  · rename_i t he
    have hv := evv1 h hc he
    cases t
    · obtain ⟨h1, h2⟩ := ev_RS h hy
      exact snd_pure (by simp [ho]) hF h hd (v := a.eval y) (by simp [execOp, ho, hv, asBool]) h1 h2 (hs.2 rfl)
    · obtain ⟨h1, h2⟩ := ev_RS h hx
      exact snd_pure (by simp [ho]) hF h hd (v := a.eval x) (by simp [execOp, ho, hv, asBool]) h1 h2 (hs.1 rfl)
  · exact hs.elim

theorem run_eqGuard_int (op : BinOp) (t : TypeId) (x y : Operand) (k k' : IntKind) (m l : Int) : (eqGuard op t x y (.int k m) (.int k' l)).run P w = .ok () w := by
  cases op <;> simp [eqGuard]
theorem run_eqGuard_bool (op : BinOp) (t : TypeId) (x y : Operand) (m l : Bool) : (eqGuard op t x y (.bool m) (.bool l)).run P w = .ok () w := by
  cases op <;> simp [eqGuard]
theorem run_eqGuard_slice (op : BinOp) (t : TypeId) (x y : Operand) (p : Option Addr) (m l : Nat) (v : Value) : (eqGuard op t x y (.slice p m l) v).run P w = .ok () w := by
  cases op <;> simp [eqGuard]

theorem snd_bin {op : BinOp} {t ty : TypeId} {x y : Operand} {x' y' : Opd} (ho : o.op = .binOp op t x y ty) (hx : opdOf x = some x') (hy : opdOf y = some y') (hF : ∀ f, F.fn f) (h : Real E A sl hp ρ imm a w) (hd : dstOk E o.dst)
    (hs : opSem P E.gl (ev E.gl sl) hp j (.bin op x' y') K) : o.wpIn F n P a w (Post E A sl hp o.dst j K) Q := by
  simp only [opSem] at hs
  split at hs
  · rename_i k m k' l he he'
    have hv := evv1 h hx he
    have hv' := evv1 h hy he'
    have key : ∀ r : Value, r.oneCell' = true → (binOp op t (.int k m) (.int k' l)).run P w = .ok r w → K (.c false [.v r]) [] → o.wpIn F n P a w (Post E A sl hp o.dst j K) Q := by
      intro r h1 hr hk
      refine snd_pure (by simp [ho]) hF h hd (v := r) ?_ (RS_mkv h1) okC_v1 hk
      simp [execOp, ho, hv, hv', run_eqGuard_int, hr]
    cases op <;> simp only [binS] at hs <;> first
      | exact hs.elim
      | (obtain ⟨rfl, hs⟩ := hs; exact key _ rfl (by simp [binOp, Op.intArith, Op.intCmp, Op.intBits]) hs)
      | (obtain ⟨rfl, hne, hs⟩ := hs; exact key _ rfl (by simp [binOp, Op.intDiv, hne]) hs)
      | (obtain ⟨hne, hs⟩ := hs; exact key _ rfl (by simp [binOp, Op.shift, show ¬ l < 0 by omega]) hs)
  · exact hs.elim

theorem snd_beq {neg : Bool} {t ty : TypeId} {x y : Operand} {x' y' : Opd} (ho : o.op = .binOp (if neg then .neq else .eql) t x y ty) (ht : P.underlying t = some .bool) (hx : opdOf x = some x') (hy : opdOf y = some y') (hF : ∀ f, F.fn f) (h : Real E A sl hp ρ imm a w) (hd : dstOk E o.dst)
    (hs : opSem P E.gl (ev E.gl sl) hp j (.beq neg x' y') K) : o.wpIn F n P a w (Post E A sl hp o.dst j K) Q := by
  simp only [opSem] at hs
  split at hs
  · rename_i m l he he'
    have hv := evv1 h hx he
    have hv' := evv1 h hy he'
    refine snd_pure (by simp [ho]) hF h hd (v := .bool (if neg then m != l else m == l)) ?_ (RS_mkv rfl) okC_v1 hs
    have hq : (Op.equal t (.bool m) (.bool l)).run P w = .ok (m == l) w := run_equalIn_bool' w 9999 t m l ht
    cases neg <;> simp [execOp, ho, hv, hv', run_eqGuard_bool, binOp, hq, bne]
  · exact hs.elim

theorem snd_un {op : UnOp} {t : TypeId} {x : Operand} {x' : Opd} (ho : o.op = .unOp op t x) (hx : opdOf x = some x') (hF : ∀ f, F.fn f) (h : Real E A sl hp ρ imm a w) (hd : dstOk E o.dst)
    (hs : opSem P E.gl (ev E.gl sl) hp j (.un op x') K) : o.wpIn F n P a w (Post E A sl hp o.dst j K) Q := by
  simp only [opSem] at hs
  split at hs
  · rename_i k m he
    have hv := evv1 h hx he
    exact snd_pure (by simp [ho]) hF h hd (v := .int k (k.wrap (0 - m))) (by simp [execOp, ho, hv, Op.unary, Op.intArith]) (RS_mkv rfl) okC_v1 hs
  · rename_i t he
    have hv := evv1 h hx he
    exact snd_pure (by simp [ho]) hF h hd (v := .bool (!t)) (by simp [execOp, ho, hv, Op.unary]) (RS_mkv rfl) okC_v1 hs
  · exact hs.elim

theorem snd_conv {s d : TypeId} {k k' : IntKind} {x : Operand} {x' : Opd} (ho : o.op = .convert s d x) (h1 : P.underlying s = some (.int k')) (h2 : P.underlying d = some (.int k)) (hx : opdOf x = some x') (hF : ∀ f, F.fn f) (h : Real E A sl hp ρ imm a w) (hd : dstOk E o.dst)
    (hs : opSem P E.gl (ev E.gl sl) hp j (.conv k x') K) : o.wpIn F n P a w (Post E A sl hp o.dst j K) Q := by
  simp only [opSem] at hs
  split at hs
  · rename_i kk m he
    have hv := evv1 h hx he
    exact snd_pure (by simp [ho]) hF h hd (v := .int k (k.wrap m)) (by simp [execOp, ho, hv, convert, run_under P w h1, run_under P w h2, Conv.intToInt]) (RS_mkv rfl) okC_v1 hs
  · exact hs.elim

theorem snd_ext {x : Operand} {x' : Opd} {i : Nat} (ho : o.op = .extract x i) (hx : opdOf x = some x') (hF : ∀ f, F.fn f) (h : Real E A sl hp ρ imm a w) (hd : dstOk E o.dst)
    (hs : opSem P E.gl (ev E.gl sl) hp j (.ext x' i) K) : o.wpIn F n P a w (Post E A sl hp o.dst j K) Q := by
  simp only [opSem] at hs
  split at hs
  · rename_i xs he
    obtain ⟨h1, h2⟩ := ev_RS h hx
    rw [he] at h1 h2
    split at hs
    · rename_i p hp'
      obtain ⟨us, h3, h4⟩ := h1
      obtain ⟨u, hu, hr⟩ := F2.ex h4 hp'
      refine snd_pure (by simp [ho]) hF h hd (v := u) ?_ (show RS w imm ρ (.c p.1 p.2) u from hr) (fun c hc => h2 c ?_) hs
      · simp [execOp, ho, h3, Instr.extract, hu]
      · simp only [SV.cells, List.mem_flatMap]
        exact ⟨p, List.mem_of_getElem? hp', hc⟩
    · exact hs.elim
  · exact hs.elim

/-! ### memory -/
theorem RC.sub {w : World} {imm : Nat → Prop} {ρ : Nat → Cn} {cs : List AV} {us : List Value} (off n : Nat) (h : RC w imm ρ cs us) : RC w imm ρ ((cs.drop off).take n) ((us.drop off).take n) :=
  F2.take n (F2.drop off h)
theorem mem_sub {cs : List AV} {off n : Nat} {x : AV} (h : x ∈ (cs.drop off).take n) : x ∈ cs := List.mem_of_mem_drop (List.mem_of_mem_take h)
theorem getElem?_sub {α : Type} (us : List α) (off n i : Nat) (h : i < n) : ((us.drop off).take n)[i]? = us[off + i]? := by
  rw [List.getElem?_take, if_pos h, List.getElem?_drop]

/-- what stands at a pointer -/
theorem snd_loaded {t : TypeId} {x : Operand} {ag : Bool} {m b off : Nat} {cs : List AV} {us : List Value} (ho : o.op = .load t x) (hag : agOf P t = some ag) (hsz : szOf P t = some m) (hF : ∀ f, F.fn f) (h : Real E A sl hp ρ imm a w) (hd : dstOk E o.dst)
    (hx : a.eval x = .pointer (some ⟨b, off, none⟩)) (hn : us.length = if ag then m else 1) (hc : ∀ i, i < us.length → w.cell? ⟨b, off + i, none⟩ = us[i]?) (hr : RC w imm ρ cs us) (hok : ∀ x ∈ cs, okC A hp x) (hk : K (.c ag cs) []) :
    o.wpIn F n P a w (Post E A sl hp o.dst j K) Q := by
  refine snd_pure (by simp [ho]) hF h hd (v := if ag then .agg us.toArray else us.headD (.tuple #[])) ?_ (RS.of_cells ag hr (fun e => by rw [hn, e]; rfl)) hok hk
  simp [execOp, ho, hx, Instr.loadAt, Instr.sureAddr, run_loadVar P hag hsz hn hc]

/-- a row's element -/
theorem row_elem {k : Nat} {xs : List (List AV)} (h3 : ∀ x ∈ xs, x.length = k) : ∀ (i : Nat), i < xs.length → ∀ l, l < k → xs.flatten[i * k + l]? = (xs.getD i [])[l]? := by
  induction xs with
  | nil => intro i hi; simp at hi
  | cons x xs ih =>
    intro i hi l hl
    have hx := h3 x (by simp)
    cases i with
    | zero => simp only [Nat.zero_mul, Nat.zero_add, List.flatten_cons, List.getD_cons_zero]; rw [List.getElem?_append_left (by omega)]
    | succ i =>
      rw [List.flatten_cons, List.getElem?_append_right (by rw [hx, Nat.succ_mul]; omega), List.getD_cons_succ]
      rw [← ih (fun x hx => h3 x (by simp [hx])) i (by simpa using hi) l hl]
      congr 1
      rw [hx, Nat.succ_mul]; omega
theorem row_len {k : Nat} {xs : List (List AV)} (h3 : ∀ x ∈ xs, x.length = k) : xs.flatten.length = xs.length * k := by
  induction xs with
  | nil => simp
  | cons x xs ih => simp [h3 x (by simp), ih (fun x hx => h3 x (by simp [hx])), Nat.succ_mul, Nat.add_comm]
theorem row_get {k : Nat} {xs : List (List AV)} (h3 : ∀ x ∈ xs, x.length = k) {i : Nat} (hi : i < xs.length) : (xs.getD i []).length = k := by
  rw [List.getD_eq_getElem?_getD, List.getElem?_eq_getElem hi]
  exact h3 _ (List.getElem_mem hi)
theorem row_sub {k : Nat} {xs : List (List AV)} (h3 : ∀ x ∈ xs, x.length = k) {i : Nat} (hi : i < xs.length) {off n : Nat} (hn : off + n ≤ k) : ((xs.flatten.drop (i * k + off)).take n) = ((xs.getD i []).drop off).take n := by
  apply List.ext_getElem?
  intro l
  by_cases hl : l < n
  · rw [getElem?_sub _ _ _ _ hl, getElem?_sub _ _ _ _ hl, ← row_elem h3 i hi (off + l) (by omega)]
    congr 1; omega
  · rw [List.getElem?_take, List.getElem?_take, if_neg hl, if_neg hl]

theorem row_mul {i l k : Nat} (h : i < l) : i * k + k ≤ l * k := by
  have := Nat.mul_le_mul_right k (Nat.succ_le_of_lt h)
  rw [Nat.succ_mul] at this; exact this

theorem snd_load {t : TypeId} {x : Operand} {x' : Opd} {ag : Bool} {m : Nat} (ho : o.op = .load t x) (hag : agOf P t = some ag) (hsz : szOf P t = some m) (hx : opdOf x = some x') (hF : ∀ f, F.fn f) (h : Real E A sl hp ρ imm a w) (hd : dstOk E o.dst)
    (hs : opSem P E.gl (ev E.gl sl) hp j (.load ag (if ag then m else 1) x') K) : o.wpIn F n P a w (Post E A sl hp o.dst j K) Q := by
  generalize hN : (if ag then m else 1) = N at hs
  simp only [opSem] at hs
  split at hs
  · rename_i b off he
    have hp1 := (ev1 h hx he).1
    split at hs
    · rename_i cs hb
      obtain ⟨hlen, hk⟩ := hs
      obtain ⟨us, e, h1, h2⟩ := h.heap b _ hb
      have hul := h2.length
      refine snd_loaded ho hag hsz hF h hd (b := (ρ b).blk) (off := off) (us := (us.drop off).take N) hp1 (by simp; omega) (fun i hi => ?_) (h2.sub off N) (fun c hc => (h.wf.idh b _ hb).2 c (mem_sub hc)) hk
      simp only [List.length_take, List.length_drop] at hi
      rw [cellsAt h1, getElem?_sub _ _ _ _ (by omega)]
    · exact hs.elim
  · rename_i b q i off he
    have hp1 := (ev1 h hx he).1
    split at hs
    · rename_i k xs hb
      obtain ⟨hq, hi, hlen, hk⟩ := hs
      obtain ⟨g1, g2, g3, g4⟩ := h.heap b _ hb
      rcases g4 with ⟨g4, _⟩ | ⟨cap, us, rest, e, g5, g6, g7, g8, g9⟩
      · subst g4; simp at hi
      · have hul := g9.length
        rw [row_len g3] at hul
        have hik := row_mul (k := k) hi
        have hpv := hp1.2 (by rw [hq, g1])
        rw [g2] at hpv
        refine snd_loaded ho hag hsz hF h hd (us := (us.drop (i * k + off)).take N) hpv (by simp; omega) (fun l hl => ?_) (cs := ((xs.getD i []).drop off).take N) ?_ (fun c hc => ?_) hk
        · simp only [List.length_take, List.length_drop] at hl
          rw [cellsAt g8, getElem?_sub _ _ _ _ (by omega), List.getElem?_append_left (by omega)]
        · rw [← row_sub g3 hi hlen]
          exact F2.take N (F2.drop _ (F2.mono (fun _ _ _ h => RA.of_PR h) g9))
        · have hmem : c ∈ xs.flatten := by
            rw [← row_sub g3 hi hlen] at hc; exact mem_sub hc
          obtain ⟨jj, hjj⟩ := List.mem_iff_getElem?.1 hmem
          obtain ⟨u, _, hpr⟩ := F2.ex g9 hjj
          exact .pers hpr.pers
    · exact hs.elim
  · rename_i cs he
    obtain ⟨hlen, hk⟩ := hs
    have hp1 : PR w imm (.ref cs) (a.eval x) := (ev1 h hx he).1
    cases hq : a.eval x with
    | pointer p =>
      rw [hq] at hp1
      cases hp1 with
      | ref us h4 h5 h6 h7 =>
        refine snd_loaded ho hag hsz hF h hd (us := us.take N) hq (by simp; omega) (fun i hi => ?_) (cs := cs.take N) (F2.take N (F2.of_get h4.symm (fun i x u hx hu => .of_PR (h7 i x u hx hu)))) (fun c hc => ?_) hk
        · simp only [List.length_take] at hi
          rw [h5 i (by omega), List.getElem?_take, if_pos (by omega)]
        · obtain ⟨jj, hjj⟩ := List.mem_iff_getElem?.1 (List.mem_of_mem_take hc)
          have hlt := (List.getElem?_eq_some_iff.1 hjj).1
          exact .pers (h7 jj c us[jj] hjj (by simp [show jj < us.length by omega])).pers
    | _ => rw [hq] at hp1; cases hp1
  · exact hs.elim
end Go.Proofs.YtlbafapmhjfobaaGreatDoor
namespace Go.Proofs.YtlbafapmhjfobaaGreatDoor
variable {P : Program} {E : Env} {F : Fence} {n : Nat} {A : Nat → Prop} {sl : Nat → SV} {hp : Nat → Option HE} {ρ : Nat → Cn} {imm : Nat → Prop} {a : Act} {w : World} {j : Nat}
  {K : SV → List (Nat × Option HE) → Prop} {Q : Exit → Act → World → Prop} {o : Oper}

/-! ### new blocks -/
theorem heap_push_new (w : World) (o : Obj) : ({ w with heap := w.heap.push o } : World).heap[w.heap.size]? = some o := by simp
theorem heap_push_old (w : World) (o : Obj) {b : Nat} (h : b < w.heap.size) : ({ w with heap := w.heap.push o } : World).heap[b]? = w.heap[b]? := by
  show (w.heap.push o)[b]? = _
  rw [Array.getElem?_push, if_neg (by omega)]

theorem snd_newbox {us : List Value} {cs : List AV} {e : TypeId} (hne : ∀ c, o.op ≠ .defer c) (hF : ∀ f, F.fn f) (h : Real E A sl hp ρ imm a w) (hj : ¬ A j) (hd : dstOk E o.dst)
    (hrun : (execOp a.eval o).run P w = .ok (.value (.pointer (some ⟨w.heap.size, 0, none⟩))) { w with heap := w.heap.push (.cells us.toArray e) })
    (hr : RC w imm ρ cs us) (hok : ∀ x ∈ cs, okC A hp x) (hk : K (.c false [.ptr j 0]) [(j, some (.box cs))]) :
    o.wpIn F n P a w (Post E A sl hp o.dst j K) Q := by
  refine ⟨fun f _ => hF f, ?_⟩
  rw [Oper.semAt_eq _ _ _ hne, hrun]
  refine ⟨_, _, upd ρ j ⟨w.heap.size, .slice none 0 0, 0, 0⟩, imm, hk, ?_⟩
  refine h.new hj hd rfl hok ?_ (fun _ => rfl) ?_ ?_
  · exact ⟨us, e, heap_push_new _ _, (hr.upd (fun x hx e => hj (hok x hx j e).1)).mono (fun _ h => h) (fun b hb => heap_push_old _ _ (h.immlt b hb))⟩
  · exact .mk1 (by simp only [RA, upd_same])
  · intro x hx b hb
    simp only [SV.cells, List.mem_singleton] at hx
    subst hx
    simp only [AV.id?, Option.some.injEq] at hb
    subst hb
    exact ⟨.inr rfl, fun k xs hk => by rw [upd_same] at hk; cases hk⟩

theorem snd_newrow {us : List Value} {xs : List (List AV)} {k m : Nat} {e : TypeId} (hne : ∀ c, o.op ≠ .defer c) (hF : ∀ f, F.fn f) (h : Real E A sl hp ρ imm a w) (hj : ¬ A j) (hd : dstOk E o.dst)
    (hrun : (execOp a.eval o).run P w = .ok (.value (.slice (some ⟨w.heap.size, 0, none⟩) m m)) { w with heap := w.heap.push (.cells us.toArray e) })
    (hm : xs.length = m) (h3 : ∀ x ∈ xs, x.length = k) (hr : F2 (PR w imm) xs.flatten us) (hk : K (.c false [.own j m]) [(j, some (.row k xs))]) :
    o.wpIn F n P a w (Post E A sl hp o.dst j K) Q := by
  refine ⟨fun f _ => hF f, ?_⟩
  rw [Oper.semAt_eq _ _ _ hne, hrun]
  refine ⟨_, _, upd ρ j ⟨w.heap.size, .slice (some ⟨w.heap.size, 0, none⟩) m m, m, k⟩, imm, hk, ?_⟩
  refine h.new hj hd rfl (by simp [HE.cells]) ?_ (fun _ => rfl) ?_ ?_
  · refine ⟨hm.symm, rfl, h3, .inr ⟨m, us, [], e, by rw [hm], by omega, ?_, by simp, F2.mono (fun _ _ _ h' => h'.mono (fun _ h => h) (fun b hb => heap_push_old _ _ (h.immlt b hb))) hr⟩⟩
    have := hr.length
    rw [row_len h3, hm] at this
    simp [this]
  · refine .mk1 ?_
    simp only [RA, upd_same]
    exact ⟨rfl, by simp⟩
  · intro x hx b hb
    simp only [SV.cells, List.mem_singleton] at hx
    subst hx
    simp only [AV.id?, Option.some.injEq] at hb
    subst hb
    refine ⟨.inr rfl, fun k' xs' hk => ?_⟩
    rw [upd_same] at hk
    cases hk
    exact Nat.le_of_eq hm.symm

theorem snd_alloc {t : TypeId} {z : List AV} (ho : o.op = .alloc t) (hz : zeroOf P t = some z) (hF : ∀ f, F.fn f) (h : Real E A sl hp ρ imm a w) (hj : ¬ A j) (hd : dstOk E o.dst)
    (hs : opSem P E.gl (ev E.gl sl) hp j (.alloc z) K) : o.wpIn F n P a w (Post E A sl hp o.dst j K) Q := by
  obtain ⟨v, hv, rfl, hok, _⟩ := run_zero P w hz
  refine snd_newbox (us := v.cells.toList) (by simp [ho]) hF h hj hd (e := t) ?_ (PR.lits hok) (fun x hx => ?_) hs
  · simp [execOp, ho, Instr.alloc, hv, newVar, newRow]
  · obtain ⟨y, _, rfl⟩ := List.mem_map.1 hx
    exact okC_v

theorem snd_box {t : TypeId} {x : Operand} {x' : Opd} (ho : o.op = .box t x) (hx : opdOf x = some x') (hF : ∀ f, F.fn f) (h : Real E A sl hp ρ imm a w) (hj : ¬ A j) (hd : dstOk E o.dst)
    (hs : opSem P E.gl (ev E.gl sl) hp j (.box x') K) : o.wpIn F n P a w (Post E A sl hp o.dst j K) Q := by
  simp only [opSem] at hs
  split at hs
  · rename_i ag cs he
    obtain ⟨h1, h2⟩ := ev_RS h hx
    rw [he] at h1 h2
    have hc := (RS.cells h1).1
    refine snd_newbox (us := (a.eval x).cells.toList) (by simp [ho]) hF h hj hd (e := t) ?_ hc h2 hs
    simp [execOp, ho, Instr.box, newVar, newRow]
  · exact hs.elim

/-! ### filling -/
theorem fold_set : ∀ (vs : List Value) (i : Nat) (cells : Array Value) (off : Nat), off + i + vs.length ≤ cells.size →
    ((vs.zipIdx i).foldl (fun (cs : Array Value) (x : Value × Nat) => cs.setIfInBounds (off + x.2) x.1) cells).toList = cells.toList.take (off + i) ++ (vs ++ cells.toList.drop (off + i + vs.length))
  | [], i, cells, off, _ => by simp
  | v :: vs, i, cells, off, h => by
    simp only [List.length_cons] at h
    simp only [List.zipIdx_cons, List.foldl_cons]
    rw [fold_set vs (i + 1) _ off (by simp; omega)]
    simp only [Array.toList_setIfInBounds, List.length_cons]
    rw [show off + (i + 1) = off + i + 1 by omega, show off + i + 1 + vs.length = off + i + (vs.length + 1) by omega]
    rw [List.drop_set_of_lt (by omega)]
    rw [List.take_succ_eq_append_getElem (by simp; omega)]
    simp [List.take_set_of_le]
theorem fill_step {place : Nat → Option (Nat × Nat)} {cells : Array Value} {i : Nat} {v : Value} {rest : List (Nat × Value)} {off size : Nat} (hp : place i = some (off, size)) (h1 : v.cells.toList.length = size) (h2 : off + size ≤ cells.size) :
    Instr.fill place cells ((i, v) :: rest) = Instr.fill place (cells.toList.take off ++ (v.cells.toList ++ cells.toList.drop (off + size))).toArray rest := by
  have hc : ¬ (v.cells.size ≠ size || off + v.cells.size > cells.size) = true := by
    simp only [Array.length_toList] at h1
    simp [h1]; omega
  simp only [Instr.fill, hp, if_neg hc]
  congr 1
  apply Array.ext'
  have hf := fold_set v.cells.toList 0 cells off (by simp only [Nat.add_zero]; omega)
  simp only [Nat.add_zero, h1] at hf
  rw [← hf, ← Array.foldl_toList]
  simp

theorem run_mapM_places (P : Program) (w : World) : ∀ (fs : List Field), fs.all (fun f => (szOf P f.type).isSome) = true →
    (fs.mapM fun f => do pure (f.offset, ← sizeOf f.type) : Sem (List (Nat × Nat))).run P w = .ok (fs.map fun f => (f.offset, (szOf P f.type).getD 0)) w
  | [], _ => by simp
  | f :: fs, h => by
    simp only [List.all_cons, Bool.and_eq_true] at h
    obtain ⟨s, hs⟩ := Option.isSome_iff_exists.1 h.1
    have ih := run_mapM_places P w fs h.2
    simp only [List.mapM_cons, Sem.run_bind, run_size P w hs, Result.andThen_ok, Sem.run_pure, ih, List.map_cons, hs, Option.getD_some]

/-- the parts of a composite literal, laid one behind the other -/
theorem fillA_sound (h : Real E A sl hp ρ imm a w) {place : Nat → Option (Nat × Nat)} : ∀ (ps : List (Nat × Operand)) (qs : List (Nat × Nat × Opd)) (cs ds : List AV) (us : List Value),
    F2 (fun (p : Nat × Operand) (q : Nat × Nat × Opd) => place p.1 = some (q.1, q.2.1) ∧ opdOf p.2 = some q.2.2) ps qs → RC w imm ρ cs us → (∀ x ∈ cs, okC A hp x) → fillA (ev E.gl sl) cs qs = some ds →
    ∃ vs, Instr.fill place us.toArray (ps.map fun p => (p.1, a.eval p.2)) = some (vs.toArray) ∧ RC w imm ρ ds vs ∧ ∀ x ∈ ds, okC A hp x
  | [], [], cs, ds, us, _, hr, hok, hf => by
    simp only [fillA, Option.some.injEq] at hf
    subst hf
    exact ⟨us, rfl, hr, hok⟩
  | p :: ps, (off, sz, y) :: qs, cs, ds, us, hq, hr, hok, hf => by
    simp only [fillA] at hf
    obtain ⟨⟨hq1, hq2⟩, hq3⟩ := hq
    simp only at hq1 hq2
    obtain ⟨g1, g2⟩ := ev_RS h hq2
    split at hf
    · rename_i ag xs he
      rw [he] at g1 g2
      split at hf
      · rename_i hlen
        have hc := (RS.cells g1).1
        have hcl := hc.length
        have hul := hr.length
        have hvl : (a.eval p.2).cells.toList.length = sz := by rw [← hcl]; exact hlen.1
        have hput : RC w imm ρ (putAt cs off xs) (us.take off ++ ((a.eval p.2).cells.toList ++ us.drop (off + sz))) := by
          unfold putAt
          rw [hlen.1]
          exact (F2.take off hr).append (hc.append (F2.drop _ hr))
        obtain ⟨vs, h1, h2, h3⟩ := fillA_sound h ps qs (putAt cs off xs) ds _ hq3 hput (fun x hx => by
          simp only [putAt, List.mem_append] at hx
          rcases hx with hx | hx | hx
          · exact hok x (List.mem_of_mem_take hx)
          · exact g2 x hx
          · exact hok x (List.mem_of_mem_drop hx)) hf
        refine ⟨vs, ?_, h2, h3⟩
        rw [List.map_cons, fill_step hq1 hvl (by simp; omega)]
        simpa using h1
      · cases hf
    · cases hf
  | [], _ :: _, _, _, _, hq, _, _, _ => hq.elim
  | _ :: _, [], _, _, _, hq, _, _, _ => hq.elim

theorem mapM_F2 {α β : Type} (f : α → Option β) : ∀ {l : List α} {m : List β}, l.mapM f = some m → F2 (fun x y => f x = some y) l m
  | [], m, h => by simp at h; subst h; trivial
  | x :: l, m, h => by
    simp only [List.mapM_cons, Option.bind_eq_bind, Option.bind_eq_some_iff] at h
    obtain ⟨y, hy, ys, hys, hm⟩ := h
    simp only [Option.pure_def, Option.some.injEq] at hm
    subst hm
    exact ⟨hy, mapM_F2 f hys⟩

theorem snd_build {t : TypeId} {ps : Array (Nat × Operand)} {ao : AOp} (ho : o.op = .build t ps) (hc : compOp P (.build t ps) = some ao) (hF : ∀ f, F.fn f) (h : Real E A sl hp ρ imm a w) (hd : dstOk E o.dst)
    (hs : opSem P E.gl (ev E.gl sl) hp j ao K) : o.wpIn F n P a w (Post E A sl hp o.dst j K) Q := by
  simp only [compOp, Option.bind_eq_some_iff] at hc
  obtain ⟨z, hz, hc⟩ := hc
  obtain ⟨zv, hzv, rfl, hok, _⟩ := run_zero P w hz
  have hcells : ∀ x ∈ (zv.cells.toList.map AV.v), okC A hp x := fun x hx => by obtain ⟨y, _, rfl⟩ := List.mem_map.1 hx; exact okC_v
  have fin : ∀ (place : Nat → Option (Nat × Nat)) (qs : List (Nat × Nat × Opd)), F2 (fun (p : Nat × Operand) (q : Nat × Nat × Opd) => place p.1 = some (q.1, q.2.1) ∧ opdOf p.2 = some q.2.2) ps.toList qs →
      ao = .build (zv.cells.toList.map AV.v) qs →
      (∀ vs : List Value, Instr.fill place zv.cells ((ps.map fun p => (p.1, a.eval p.2)).toList) = some vs.toArray → (Instr.build t (ps.map fun p => (p.1, a.eval p.2))).run P w = .ok (.agg vs.toArray) w) →
      o.wpIn F n P a w (Post E A sl hp o.dst j K) Q := by
    intro place qs hq hao hrun
    subst hao
    simp only [opSem] at hs
    split at hs
    · rename_i cs hf
      obtain ⟨vs, h1, h2, h3⟩ := fillA_sound h ps.toList qs _ cs zv.cells.toList hq (PR.lits hok) hcells hf
      refine snd_pure (by simp [ho]) hF h hd (v := .agg vs.toArray) ?_ (RS.mkagg h2) h3 hs
      have := hrun vs (by simpa using h1)
      simp only [execOp, ho, Sem.run_bind]
      rw [this]
      rfl
    · exact hs.elim
  split at hc
  · rename_i fs hu
    split at hc
    · rename_i hall
      simp only [Option.map_eq_some_iff] at hc
      obtain ⟨qs, hm, rfl⟩ := hc
      have hall' : fs.toList.all (fun f => (szOf P f.type).isSome) = true := by simpa using hall
      refine fin ((fs.map fun f => (f.offset, (szOf P f.type).getD 0))[·]?) qs (F2.mono (fun p _ q hpq => ?_) (mapM_F2 _ hm)) rfl (fun vs hv => ?_)
      · simp only [Option.bind_eq_some_iff, Option.map_eq_some_iff] at hpq
        obtain ⟨f, hf, s, hs', x, hx, rfl⟩ := hpq
        refine ⟨?_, hx⟩
        simp only [Array.getElem?_map, hf, Option.map_some, hs', Option.getD_some]
      · have hpl := run_mapM_places P w fs.toList hall'
        have hpl' : (fs.mapM fun f => do pure (f.offset, ← sizeOf f.type) : Sem (Array (Nat × Nat))).run P w = .ok (fs.map fun f => (f.offset, (szOf P f.type).getD 0)) w := by
          rw [Array.mapM_eq_mapM_toList]
          simp only [Sem.run_map, hpl, Result.andThen_ok]
          congr 1
          apply Array.ext'
          simp
        simp only [Instr.build, Sem.run_bind, hzv, Result.andThen_ok, run_under P w hu, hpl', hv, Sem.run_pure]
    · cases hc
  · rename_i m e hu
    simp only [Option.bind_eq_some_iff, Option.map_eq_some_iff] at hc
    obtain ⟨s, hsz, qs, hm, rfl⟩ := hc
    refine fin (fun i => some (i * s, s)) qs (F2.mono (fun p _ q hpq => ?_) (mapM_F2 _ hm)) rfl (fun vs hv => ?_)
    · simp only [Option.map_eq_some_iff] at hpq
      obtain ⟨x, hx, rfl⟩ := hpq
      exact ⟨rfl, hx⟩
    · simp only [Instr.build, Sem.run_bind, hzv, Result.andThen_ok, run_under P w hu, run_size P w hsz, hv, Sem.run_pure]
  · cases hc
end Go.Proofs.YtlbafapmhjfobaaGreatDoor
namespace Go.Proofs.YtlbafapmhjfobaaGreatDoor
variable {P : Program} {E : Env} {F : Fence} {n : Nat} {A : Nat → Prop} {sl : Nat → SV} {hp : Nat → Option HE} {ρ : Nat → Cn} {imm : Nat → Prop} {a : Act} {w : World} {j : Nat}
  {K : SV → List (Nat × Option HE) → Prop} {Q : Exit → Act → World → Prop} {o : Oper}

theorem RC.pers {w : World} {imm : Nat → Prop} {ρ : Nat → Cn} : ∀ {cs : List AV} {us : List Value}, RC w imm ρ cs us → cs.all AV.pers = true → F2 (PR w imm) cs us
  | [], [], _, _ => trivial
  | c :: cs, u :: us, h, hp => by
    simp only [List.all_cons, Bool.and_eq_true] at hp
    exact ⟨by rw [← RA.of_pers hp.1]; exact h.1, RC.pers h.2 hp.2⟩
  | [], _ :: _, h, _ => h.elim
  | _ :: _, [], h, _ => h.elim
theorem RC.of_pers {w : World} {imm : Nat → Prop} {ρ : Nat → Cn} {cs : List AV} {us : List Value} (h : F2 (PR w imm) cs us) : RC w imm ρ cs us := F2.mono (fun _ _ _ h => .of_PR h) h
theorem F2.pers {w : World} {imm : Nat → Prop} {cs : List AV} {us : List Value} (h : F2 (PR w imm) cs us) : ∀ x ∈ cs, x.pers = true := by
  intro x hx
  obtain ⟨jj, hjj⟩ := List.mem_iff_getElem?.1 hx
  obtain ⟨u, _, hpr⟩ := F2.ex h hjj
  exact hpr.pers

/-- the elements of a slice literal -/
theorem rowOf_sound (h : Real E A sl hp ρ imm a w) {k : Nat} : ∀ (ps : List Operand) (qs : List Opd) (r : List (List AV)), F2 (fun x y => opdOf x = some y) ps qs → rowOf (ev E.gl sl) k qs = some r →
    r.length = ps.length ∧ (∀ x ∈ r, x.length = k) ∧ F2 (PR w imm) r.flatten (ps.map fun p => (a.eval p).cells.toList).flatten ∧ ∀ p ∈ ps, (a.eval p).cells.toList.length = k
  | [], [], r, _, hr => by
    simp only [rowOf, Option.some.injEq] at hr
    subst hr
    exact ⟨rfl, by simp, trivial, by simp⟩
  | p :: ps, q :: qs, r, hq, hr => by
    simp only [rowOf] at hr
    obtain ⟨g1, g2⟩ := ev_RS h hq.1
    split at hr
    · rename_i ag cs he
      rw [he] at g1
      split at hr
      · rename_i hk
        simp only [Option.map_eq_some_iff] at hr
        obtain ⟨r', hr', rfl⟩ := hr
        obtain ⟨h1, h2, h3, h4⟩ := rowOf_sound h ps qs r' hq.2 hr'
        have hc := (RS.cells g1).1
        refine ⟨by simp [h1], ?_, ?_, ?_⟩
        · intro x hx
          rcases List.mem_cons.1 hx with rfl | hx
          · exact hk.1
          · exact h2 x hx
        · simp only [List.flatten_cons, List.map_cons]
          exact (RC.pers hc hk.2).append h3
        · intro x hx
          rcases List.mem_cons.1 hx with rfl | hx
          · rw [← hc.length]; exact hk.1
          · exact h4 x hx
      · cases hr
    · cases hr
  | [], _ :: _, _, hq, _ => hq.elim
  | _ :: _, [], _, hq, _ => hq.elim

/-- a slice literal's cells, laid one behind the other -/
theorem fill_row {k : Nat} : ∀ (ps : List Value) (s : Nat) (done tail : List Value), (∀ p ∈ ps, p.cells.toList.length = k) → done.length = s * k → tail.length = ps.length * k →
    Instr.fill (fun i => some (i * k, k)) (done ++ tail).toArray ((List.range' s ps.length).zip ps) = some (done ++ (ps.map fun p => p.cells.toList).flatten).toArray
  | [], s, done, tail, _, _, ht => by
    simp at ht
    subst ht
    simp [Instr.fill]
  | p :: ps, s, done, tail, hp, hd, ht => by
    have hpk := hp p (by simp)
    simp only [List.length_cons, Nat.succ_mul] at ht
    simp only [List.length_cons, List.range'_succ, List.zip_cons_cons]
    rw [fill_step rfl hpk (by simp; omega)]
    have h1 : ((done ++ tail).toArray.toList.take (s * k) ++ (p.cells.toList ++ (done ++ tail).toArray.toList.drop (s * k + k))) = (done ++ p.cells.toList) ++ tail.drop k := by
      simp only [List.append_assoc]
      rw [← hd]
      simp
    rw [h1, fill_row ps (s + 1) (done ++ p.cells.toList) (tail.drop k) (fun x hx => hp x (by simp [hx])) (by simp only [List.length_append, hpk, hd, Nat.succ_mul]) (by simp; omega)]
    simp

theorem opdsOf_F2 {l : List Operand} {m : List Opd} (h : opdsOf l = some m) : F2 (fun x y => opdOf x = some y) l m := mapM_F2 _ h

theorem zip_unzip_eq {α β : Type} : ∀ (l : List (α × β)), (l.map (·.1)).zip (l.map (·.2)) = l
  | [] => rfl
  | (a, b) :: l => by simp [zip_unzip_eq l]

theorem snd_bslice {t len : Nat} {ps : Array (Nat × Operand)} {ao : AOp} (ho : o.op = .buildSlice t len ps) (hc : compOp P (.buildSlice t len ps) = some ao) (hF : ∀ f, F.fn f) (h : Real E A sl hp ρ imm a w) (hj : ¬ A j) (hd : dstOk E o.dst)
    (hs : opSem P E.gl (ev E.gl sl) hp j ao K) : o.wpIn F n P a w (Post E A sl hp o.dst j K) Q := by
  simp only [compOp] at hc
  split at hc
  · rename_i e hu
    simp only [Option.bind_eq_some_iff] at hc
    obtain ⟨k, hk, z, hz, hc⟩ := hc
    split at hc
    · rename_i hcond
      simp only [Bool.and_eq_true, beq_iff_eq, decide_eq_true_eq] at hcond
      simp only [Option.map_eq_some_iff] at hc
      obtain ⟨qs, hq, rfl⟩ := hc
      have hqf := opdsOf_F2 hq
      simp only [opSem] at hs
      split at hs
      · rename_i r hr
        obtain ⟨h1, h2, h3, h4⟩ := rowOf_sound h _ qs r hqf hr
        have hlen : ps.toList.length = len := by
          have := congrArg List.length hcond.1.1
          simpa using this
        have hqlen : qs.length = len := by rw [← hqf.length]; simp; simpa using hlen
        obtain ⟨zv, hzv, _, _⟩ := run_zero P w hz
        refine snd_newrow (us := ((ps.toList.map (·.2)).map fun p => (a.eval p).cells.toList).flatten) (e := e) (m := qs.length) (by simp [ho]) hF h hj hd ?_ (by rw [h1, hqlen]; simpa using hlen) h2 h3 hs
        have hb : ∀ base : Array Value, base.size = len * k → Instr.fill (fun i => some (i * k, k)) base ((ps.map fun p => (p.1, a.eval p.2)).toList) = some (((ps.toList.map (·.2)).map fun p => (a.eval p).cells.toList).flatten).toArray := by
          intro base hbase
          have hf := fill_row (k := k) ((ps.toList.map (·.2)).map a.eval) 0 [] base.toList (by
            intro p hp
            obtain ⟨x, hx, rfl⟩ := List.mem_map.1 hp
            exact h4 x hx) (by simp) (by simp [hbase]; rw [show ps.size = len by simpa using hlen])
          simp only [List.nil_append, List.length_map, List.map_map] at hf
          have hzip : (List.range' 0 ps.toList.length).zip (ps.toList.map (a.eval ∘ fun x => x.2)) = (ps.map fun p => (p.1, a.eval p.2)).toList := by
            rw [hlen, show List.range' 0 len = ps.toList.map (·.1) by rw [hcond.1.1, List.range_eq_range']]
            simp only [Array.toList_map]
            have : ∀ l : List (Nat × Operand), (l.map (·.1)).zip (l.map (a.eval ∘ fun x => x.2)) = l.map fun p => (p.1, a.eval p.2) := by
              intro l
              induction l with
              | nil => rfl
              | cons x l ih => simp [ih]
            exact this _
          rw [hzip] at hf
          simpa [Function.comp_def] using hf
        have hbig : ¬ len * k > 2 ^ 24 := by omega
        simp only [execOp, ho, Sem.run_bind]
        have hrun : (Instr.buildSlice t len (ps.map fun p => (p.1, a.eval p.2))).run P w = .ok (.slice (some ⟨w.heap.size, 0, none⟩) len len) { w with heap := w.heap.push (.cells (((ps.toList.map (·.2)).map fun p => (a.eval p).cells.toList).flatten).toArray e) } := by
          by_cases h0 : len * k = 0
          · simp only [Instr.buildSlice, Sem.run_bind, run_under P w hu, Result.andThen_ok, run_size P w hk, if_neg hbig, Sem.run_pure, if_pos h0]
            rw [hb _ (by simp)]
            simp [newRow]
          · simp only [Instr.buildSlice, Sem.run_bind, run_under P w hu, Result.andThen_ok, run_size P w hk, if_neg hbig, Sem.run_pure, if_neg h0, hzv]
            rw [hb _ (by simp)]
            simp [newRow]
        rw [hqlen, hrun]
        rfl
      · exact hs.elim
    · cases hc
  · cases hc

theorem setBlk_imm {imm : Nat → Prop} {w : World} {b : Nat} {o : Obj} (hni : ¬ imm b) : ∀ c, imm c → (setBlk w b o).heap[c]? = w.heap[c]? := fun c hc => by
  rw [setBlk_heap]
  split
  · rename_i e; exact (hni (by rw [← e]; exact hc)).elim
  · rfl
/-! ### stores -/
theorem F2.set {α β : Type} {R : α → β → Prop} {l : List α} {m : List β} (off : Nat) {x : List α} {y : List β} {k : Nat} (h : F2 R l m) (hx : F2 R x y) (hk : x.length = k) : F2 R (l.take off ++ (x ++ l.drop (off + k))) (m.take off ++ (y ++ m.drop (off + k))) :=
  (F2.take off h).append (hx.append (F2.drop _ h))
theorem row_set {k : Nat} {xs : List (List AV)} (h3 : ∀ x ∈ xs, x.length = k) {i : Nat} (hi : i < xs.length) {off : Nat} {ys : List AV} (hn : off + ys.length ≤ k) :
    (xs.set i (putAt (xs.getD i []) off ys)).flatten = xs.flatten.take (i * k + off) ++ (ys ++ xs.flatten.drop (i * k + off + ys.length)) := by
  induction xs generalizing i with
  | nil => simp at hi
  | cons x xs ih =>
    have hx := h3 x (by simp)
    cases i with
    | zero =>
      simp only [List.set_cons_zero, List.getD_cons_zero, List.flatten_cons, putAt, Nat.zero_mul, Nat.zero_add]
      rw [List.take_append_of_le_length (by omega), List.drop_append_of_le_length (by omega)]
      simp
    | succ i =>
      simp only [List.set_cons_succ, List.getD_cons_succ, List.flatten_cons]
      rw [ih (fun x hx => h3 x (by simp [hx])) (by simpa using hi)]
      rw [show (i + 1) * k + off = x.length + (i * k + off) by rw [hx, Nat.succ_mul]; omega]
      rw [List.take_length_add_append, show x.length + (i * k + off) + ys.length = x.length + (i * k + off + ys.length) by omega, List.drop_length_add_append]
      simp

theorem snd_store {t : TypeId} {x v : Operand} {x' v' : Opd} {m : Nat} (ho : o.op = .store t x v) (hsz : szOf P t = some m) (hx : opdOf x = some x') (hv : opdOf v = some v') (hF : ∀ f, F.fn f) (h : Real E A sl hp ρ imm a w) (hd : dstOk E o.dst)
    (hs : opSem P E.gl (ev E.gl sl) hp j (.store m x' v') K) : o.wpIn F n P a w (Post E A sl hp o.dst j K) Q := by
  have hne : ∀ c, o.op ≠ .defer c := by simp [ho]
  simp only [opSem] at hs
  split at hs
  · rename_i b off ag ys he he'
    have hp1 : a.eval x = .pointer (some ⟨(ρ b).blk, off, none⟩) := (ev1 h hx he).1
    obtain ⟨g1, g2⟩ := ev_RS h hv
    rw [he'] at g1 g2
    have hyc := (RS.cells g1).1
    split at hs
    · rename_i cs hb
      obtain ⟨hlen, hoff, hk⟩ := hs
      obtain ⟨us, e, h1, h2⟩ := h.heap b _ hb
      have hvl : (a.eval v).cells.toList.length = m := by rw [← hyc.length]; exact hlen
      have hrun := run_storeVar P (v := a.eval v) hsz hvl (RC.one hyc) h1 (o := off) (by have := h2.length; omega)
      refine ⟨fun f _ => hF f, ?_⟩
      rw [Oper.semAt_eq _ _ _ hne]
      simp only [execOp, ho, Sem.run_bind, Instr.storeAt, Instr.sureAddr, hp1, Sem.run_pure, Result.andThen_ok, hrun]
      refine ⟨_, _, ρ, imm, hk, ?_⟩
      have hblk : (ρ b).blk < w.heap.size := (Array.getElem?_eq_some_iff.1 h1).1
      refine (h.write (out := .top) (v := undef) (he := .box cs) (he' := .box (putAt cs off ys)) hd hb trivial (fun k xs hk => by cases hk) (fun k xs hk => by cases hk) (fun _ _ => ⟨_, rfl⟩) rfl (fun x hx => ?_) ?_ trivial (fun x hx => by simp [SV.cells] at hx)).weakA fun _ h => .inl h
      · simp only [HE.cells, putAt, List.mem_append] at hx
        rcases hx with hx | hx | hx
        · exact (h.wf.idh b _ hb).2 x (List.mem_of_mem_take hx)
        · exact g2 x hx
        · exact (h.wf.idh b _ hb).2 x (List.mem_of_mem_drop hx)
      · refine ⟨us.take off ++ ((a.eval v).cells.toList ++ us.drop (off + m)), e, by rw [setBlk_heap]; simp [hblk], ?_⟩
        have hni := (h.used b _ hb trivial).2.1
        refine RC.mono (imm := imm) (fun _ h => h) (setBlk_imm hni) ?_
        have := F2.set off h2 hyc hlen
        show F2 _ _ _
        simpa [putAt, hlen] using this
    · exact hs.elim
  · rename_i b q i off ag ys he he'
    have hp1 := (ev1 h hx he).1
    obtain ⟨g1, g2⟩ := ev_RS h hv
    rw [he'] at g1 g2
    have hyc := (RS.cells g1).1
    split at hs
    · rename_i k xs hb
      obtain ⟨hq, hi, hlen, hoff, hpers, hk⟩ := hs
      obtain ⟨f1, f2, f3, f4⟩ := h.heap b _ hb
      rcases f4 with ⟨f4, _⟩ | ⟨cap, us, rest, e, f5, f6, f7, f8, f9⟩
      · subst f4; simp at hi
      · have hul := f9.length
        rw [row_len f3] at hul
        have hik := row_mul (k := k) hi
        have hpv := hp1.2 (by rw [hq, f1])
        rw [f2] at hpv
        have hvl : (a.eval v).cells.toList.length = m := by rw [← hyc.length]; exact hlen
        have hrun := run_storeVar P (v := a.eval v) hsz hvl (RC.one hyc) f8 (o := i * k + off) (by simp; omega)
        refine ⟨fun f _ => hF f, ?_⟩
        rw [Oper.semAt_eq _ _ _ hne]
        simp only [execOp, ho, Sem.run_bind, Instr.storeAt, Instr.sureAddr, hpv, Sem.run_pure, Result.andThen_ok, hrun]
        refine ⟨_, _, ρ, imm, hk, ?_⟩
        have hblk : (ρ b).blk < w.heap.size := (Array.getElem?_eq_some_iff.1 f8).1
        have hu : (HE.row k xs).uses (ρ b) := by simp [HE.uses, f5]
        refine (h.write (out := .top) (v := undef) (he := .row k xs) (he' := .row k (xs.set i (putAt (xs.getD i []) off ys))) hd hb hu (fun k' xs' hk' => by cases hk'; exact ⟨xs, rfl, by simp⟩) (fun k' xs' hk' => by cases hk'; exact ⟨_, rfl⟩) (fun _ h => by cases h) rfl (fun x hx => by simp [HE.cells] at hx) ?_ trivial (fun x hx => by simp [SV.cells] at hx)).weakA fun _ h => .inl h
        have hni := (h.used b _ hb hu).2.1
        refine ⟨by simpa using f1, f2, fun x hx => ?_, .inr ⟨cap, us.take (i * k + off) ++ ((a.eval v).cells.toList ++ us.drop (i * k + off + m)), rest, e, by simpa using f5, by simpa using f6, by simp only [List.length_append, List.length_take, List.length_drop, hvl]; omega, ?_, ?_⟩⟩
        · rcases List.mem_or_eq_of_mem_set hx with hx | rfl
          · exact f3 x hx
          · have := row_get f3 hi
            simp only [putAt, List.length_append, List.length_take, List.length_drop]
            omega
        · rw [setBlk_heap]
          simp only [if_true, hblk]
          congr 3
          rw [List.take_append_of_le_length (by omega), List.drop_append_of_le_length (by omega)]
          simp
        · rw [row_set f3 hi (by omega)]
          refine F2.mono (R := PR w imm) (fun _ _ _ hq => PR.mono (imm := imm) (fun _ h => h) (setBlk_imm hni) hq) ?_
          have := F2.set (i * k + off) f9 (RC.pers hyc hpers) hlen
          rw [hlen]; exact this
    · exact hs.elim
  · exact hs.elim
end Go.Proofs.YtlbafapmhjfobaaGreatDoor
namespace Go.Proofs.YtlbafapmhjfobaaGreatDoor
variable {P : Program} {E : Env} {F : Fence} {n : Nat} {A : Nat → Prop} {sl : Nat → SV} {hp : Nat → Option HE} {ρ : Nat → Cn} {imm : Nat → Prop} {a : Act} {w : World} {j : Nat}
  {K : SV → List (Nat × Option HE) → Prop} {Q : Exit → Act → World → Prop} {o : Oper}

theorem okC1 {x : AV} (h : okC A hp x) {ag : Bool} : ∀ y ∈ (SV.c ag [x]).cells, okC A hp y := by
  intro y hy
  simp only [SV.cells, List.mem_singleton] at hy
  subst hy; exact h

/-- a reference's pointer -/
theorem PR.ref_inv {w : World} {imm : Nat → Prop} {cs : List AV} {u : Value} (h : PR w imm (.ref cs) u) : ∃ blk off, ∃ us : List Value, u = .pointer (some ⟨blk, off, none⟩) ∧ us.length = cs.length ∧
    (∀ i, i < us.length → w.cell? ⟨blk, off + i, none⟩ = us[i]?) ∧ imm blk ∧ F2 (PR w imm) cs us := by
  cases h with
  | ref us h4 h5 h6 h7 => exact ⟨_, _, us, rfl, h4, h5, h6, F2.of_get h4.symm h7⟩
theorem PR.mkref {w : World} {imm : Nat → Prop} {cs : List AV} {us : List Value} {blk off : Nat} (h5 : ∀ i, i < us.length → w.cell? ⟨blk, off + i, none⟩ = us[i]?) (h6 : imm blk) (h : F2 (PR w imm) cs us) :
    PR w imm (.ref cs) (.pointer (some ⟨blk, off, none⟩)) := .ref us h.length.symm h5 h6 (fun _ _ _ hx hu => h.get hx hu)
theorem PR.ref_drop {w : World} {imm : Nat → Prop} {cs : List AV} {blk off : Nat} (d : Nat) (h : PR w imm (.ref cs) (.pointer (some ⟨blk, off, none⟩))) : PR w imm (.ref (cs.drop d)) (.pointer (some ⟨blk, off + d, none⟩)) := by
  obtain ⟨blk', off', us, he, hl, hc, hi, hf⟩ := h.ref_inv
  simp only [Value.pointer.injEq, Option.some.injEq, Addr.mk.injEq] at he
  obtain ⟨rfl, rfl, _⟩ := he
  refine .mkref (us := us.drop d) (fun i hi' => ?_) hi (F2.drop d hf)
  simp only [List.length_drop] at hi'
  rw [List.getElem?_drop, ← hc (d + i) (by omega), Nat.add_assoc]

theorem snd_faddr {s : TypeId} {x : Operand} {x' : Opd} {f : Nat} {fs : Array Field} {fd : Field} {sz : Nat} (ho : o.op = .fieldAddr s x f) (hu : P.underlying s = some (.struct fs)) (hf : fs[f]? = some fd) (hsz : szOf P fd.type = some sz) (hnz : sz ≠ 0)
    (hx : opdOf x = some x') (hF : ∀ f, F.fn f) (h : Real E A sl hp ρ imm a w) (hd : dstOk E o.dst)
    (hs : opSem P E.gl (ev E.gl sl) hp j (.faddr fd.offset x') K) : o.wpIn F n P a w (Post E A sl hp o.dst j K) Q := by
  have key : ∀ {blk off : Nat} {out : AV}, a.eval x = .pointer (some ⟨blk, off, none⟩) → RA w imm ρ out (.pointer (some ⟨blk, off + fd.offset, none⟩)) → okC A hp out → K (.c false [out]) [] → o.wpIn F n P a w (Post E A sl hp o.dst j K) Q := by
    intro blk off out he hr hok hk
    refine snd_pure (by simp [ho]) hF h hd ?_ (.mk1 hr) (okC1 hok) hk
    simp [execOp, ho, he, Instr.fieldAt, run_under P w hu, hf, Instr.sureAddr, fieldPlace, run_size P w hsz, hnz, addr_add]
  simp only [opSem] at hs
  split at hs
  · rename_i b off he
    obtain ⟨h1, h2⟩ := ev1 h hx he
    exact key (out := .ptr b (off + fd.offset)) h1 rfl (fun c hc => h2 c hc) hs
  · rename_i b m i off he
    obtain ⟨h1, h2⟩ := ev1 h hx he
    split at hs
    · rename_i k xs hb
      obtain ⟨hm, hk⟩ := hs
      obtain ⟨g1, g2, _⟩ := h.heap b _ hb
      have := h1.2 (by rw [hm, g1])
      exact key (out := .ept b m i (off + fd.offset)) this ⟨rfl, fun _ => by rw [Nat.add_assoc]⟩ (fun c hc => h2 c hc) hk
    · exact hs.elim
  · rename_i cs he
    obtain ⟨h1, _⟩ := ev1 h hx he
    have h1 : PR w imm (.ref cs) (a.eval x) := h1
    obtain ⟨blk, off, us, e, _⟩ := h1.ref_inv
    rw [e] at h1
    exact key e (.of_PR (h1.ref_drop _)) (.none_id rfl) hs
  · exact hs.elim

theorem run_part {t : TypeId} {ag : Bool} {sz off m : Nat} {us : List Value} (hag : agOf P t = some ag) (hsz : szOf P t = some sz) (hm : m = if ag then sz else 1) (hl : off + m ≤ us.length) :
    (part t us.toArray off).run P w = .ok (if ag then .agg ((us.drop off).take m).toArray else ((us.drop off).take m).headD (.tuple #[])) w := by
  simp only [part, Sem.run_bind, run_isAgg P w hag, Result.andThen_ok]
  cases ag
  · simp only [Bool.false_eq_true, if_false] at hm ⊢
    subst hm
    have : us.toArray[off]? = some us[off] := by simp [show off < us.length by omega]
    simp only [this, Sem.run_pure]
    rw [List.drop_eq_getElem_cons (by omega)]
    simp only [List.take_succ_cons, List.headD_cons, Bool.false_eq_true, if_false]
  · simp only [if_true] at hm ⊢
    subst hm
    simp [run_size P w hsz, List.extract_eq_take_drop]

theorem snd_fld {t : TypeId} {x : Operand} {x' : Opd} {f : Nat} {fs : Array Field} {fd : Field} {sz : Nat} {ag : Bool} (ho : o.op = .field t x f) (hu : P.underlying t = some (.struct fs)) (hf : fs[f]? = some fd) (hsz : szOf P fd.type = some sz) (hag : agOf P fd.type = some ag)
    (hx : opdOf x = some x') (hF : ∀ f, F.fn f) (h : Real E A sl hp ρ imm a w) (hd : dstOk E o.dst)
    (hs : opSem P E.gl (ev E.gl sl) hp j (.fld fd.offset (if ag then sz else 1) ag x') K) : o.wpIn F n P a w (Post E A sl hp o.dst j K) Q := by
  generalize hN : (if ag then sz else 1) = N at hs
  simp only [opSem] at hs
  split at hs
  · rename_i cs he
    obtain ⟨h1, h2⟩ := ev_RS h hx
    rw [he] at h1 h2
    obtain ⟨us, e, hr⟩ := RS.agg h1
    obtain ⟨hl, hk⟩ := hs
    have hlen := hr.length
    refine snd_pure (by simp [ho]) hF h hd ?_ (RS.of_cells ag (hr.sub fd.offset N) (fun e => by simp [e] at hN; simp; omega)) (fun c hc => h2 c (mem_sub hc)) hk
    simp [execOp, ho, e, Instr.field, run_under P w hu, hf, asAgg, run_part hag hsz hN.symm (by omega : fd.offset + N ≤ us.length)]
  · exact hs.elim

theorem snd_ixarr {t e : TypeId} {x i : Operand} {x' i' : Opd} {len k : Nat} (ho : o.op = .indexAddr t x i) (hu : P.underlying t = some (.array len e)) (hk : szOf P e = some k) (hx : opdOf x = some x') (hi : opdOf i = some i')
    (hF : ∀ f, F.fn f) (h : Real E A sl hp ρ imm a w) (hd : dstOk E o.dst)
    (hs : opSem P E.gl (ev E.gl sl) hp j (.ixarr len k x' i') K) : o.wpIn F n P a w (Post E A sl hp o.dst j K) Q := by
  have key : ∀ {blk off : Nat} {kk : IntKind} {m : Int} {out : AV}, a.eval x = .pointer (some ⟨blk, off, none⟩) → a.eval i = .int kk m → (0 ≤ m ∧ m < len) → RA w imm ρ out (.pointer (some ⟨blk, off + m.toNat * k, none⟩)) → okC A hp out → K (.c false [out]) [] → o.wpIn F n P a w (Post E A sl hp o.dst j K) Q := by
    intro blk off kk m out he hm hb hr hok hkk
    refine snd_pure (by simp [ho]) hF h hd ?_ (.mk1 hr) (okC1 hok) hkk
    simp [execOp, ho, he, hm, Instr.indexAt, asIntOf, run_under P w hu, Instr.sureAddr, run_size P w hk, hb, addr_add]
  simp only [opSem] at hs
  split at hs
  · rename_i b off kk m he he'
    obtain ⟨h1, h2⟩ := ev1 h hx he
    exact key (out := .ptr b (off + m.toNat * k)) h1 (evv1 h hi he') hs.1 rfl (fun c hc => h2 c hc) hs.2
  · rename_i cs kk m he he'
    obtain ⟨h1, _⟩ := ev1 h hx he
    have h1 : PR w imm (.ref cs) (a.eval x) := h1
    obtain ⟨blk, off, us, e, _⟩ := h1.ref_inv
    rw [e] at h1
    exact key e (evv1 h hi he') hs.1 (.of_PR (h1.ref_drop _)) (.none_id rfl) hs.2
  · exact hs.elim

/-- a list's slice -/
theorem PR.li_inv {w : World} {imm : Nat → Prop} {k : Nat} {xs : List (List AV)} {u : Value} (h : PR w imm (.li k xs) u) :
    (xs = [] ∧ u = .slice none 0 0) ∨ ∃ blk off cap, ∃ us : List Value, u = .slice (some ⟨blk, off, none⟩) xs.length cap ∧ xs.length ≤ cap ∧ (∀ x ∈ xs, x.length = k) ∧
      (∀ i, i < us.length → w.cell? ⟨blk, off + i, none⟩ = us[i]?) ∧ (xs ≠ [] → imm blk) ∧ F2 (PR w imm) xs.flatten us := by
  cases h with
  | linil => exact .inl ⟨rfl, rfl⟩
  | li us h1 h2 h3 h4 h5 h6 h7 => subst h1; exact .inr ⟨_, _, _, us, rfl, h2, h3, h5, h6, F2.of_get h4.symm h7⟩

theorem snd_ixsl {t e : TypeId} {x i : Operand} {x' i' : Opd} {k : Nat} (ho : o.op = .indexAddr t x i) (hu : P.underlying t = some (.slice e)) (hk : szOf P e = some k) (hx : opdOf x = some x') (hi : opdOf i = some i')
    (hF : ∀ f, F.fn f) (h : Real E A sl hp ρ imm a w) (hd : dstOk E o.dst)
    (hs : opSem P E.gl (ev E.gl sl) hp j (.ixsl k x' i') K) : o.wpIn F n P a w (Post E A sl hp o.dst j K) Q := by
  have key : ∀ {blk off len cap : Nat} {kk : IntKind} {m : Int} {out : AV}, a.eval x = .slice (some ⟨blk, off, none⟩) len cap → a.eval i = .int kk m → (0 ≤ m ∧ m < (len : Int)) → RA w imm ρ out (.pointer (some ⟨blk, off + m.toNat * k, none⟩)) → okC A hp out → K (.c false [out]) [] → o.wpIn F n P a w (Post E A sl hp o.dst j K) Q := by
    intro blk off len cap kk m out he hm hb hr hok hkk
    refine snd_pure (by simp [ho]) hF h hd ?_ (.mk1 hr) (okC1 hok) hkk
    simp [execOp, ho, he, hm, Instr.indexAt, asIntOf, run_under P w hu, run_size P w hk, hb, addr_add]
  simp only [opSem] at hs
  split at hs
  · rename_i b q kk m he he'
    obtain ⟨h1, h2⟩ := ev1 h hx he
    split at hs
    · rename_i k' xs hb
      obtain ⟨rfl, hq, hm, hkk⟩ := hs
      obtain ⟨g1, g2, g3, g4⟩ := h.heap b _ hb
      rcases g4 with ⟨g4, _⟩ | ⟨cap, us, rest, e, g5, g6, g7, g8, g9⟩
      · subst g4; simp at hm; omega
      · have hv := h1.2 (by rw [hq, g1])
        rw [g5] at hv
        refine key (out := .ept b xs.length m.toNat 0) hv (evv1 h hi he') hm ⟨rfl, fun _ => ?_⟩ (fun c hc => ?_) hkk
        · rw [g2]; simp
        · simp only [AV.id?, Option.some.injEq] at hc
          subst hc
          refine ⟨(h.wf.idh b _ hb).1, fun k2 xs2 hb2 => ?_⟩
          rw [hb] at hb2
          cases hb2
          exact Nat.le_refl _
    · exact hs.elim
  · rename_i k' xs kk m he he'
    obtain ⟨h1, _⟩ := ev1 h hx he
    obtain ⟨rfl, hm, hkk⟩ := hs
    have h1 : PR w imm (.li k' xs) (a.eval x) := h1
    rcases h1.li_inv with ⟨rfl, _⟩ | ⟨blk, off, cap, us, e, _, h3, h5, h6, h7⟩
    · simp at hm; omega
    · have hlt : m.toNat < xs.length := by omega
      have hul := h7.length
      rw [row_len h3] at hul
      have hmul := row_mul (k := k') hlt
      have hg := row_get h3 hlt
      refine key e (evv1 h hi he') hm (.of_PR ?_) (.none_id rfl) hkk
      refine .mkref (us := (us.drop (m.toNat * k')).take k') (fun l hl => ?_) (h6 (by rintro rfl; simp at hlt)) ?_
      · simp only [List.length_take, List.length_drop] at hl
        rw [getElem?_sub _ _ _ _ (by omega), ← h5 _ (by omega), Nat.add_assoc]
      · have := row_sub h3 hlt (off := 0) (n := k') (by omega)
        simp only [Nat.add_zero, List.drop_zero] at this
        have h8 : (xs.getD m.toNat []).take k' = xs.getD m.toNat [] := List.take_of_length_le (by omega)
        rw [h8] at this
        rw [← this]
        exact F2.take _ (F2.drop _ h7)
  · rename_i b q lo hi2 kk m he he'
    obtain ⟨h1, h2⟩ := ev1 h hx he
    split at hs
    · rename_i k' xs hb
      obtain ⟨⟨rfl, hq⟩, ⟨hm0, hm1, hm2⟩, hkk⟩ := hs
      obtain ⟨g1, g2, g3, g4⟩ := h.heap b _ hb
      rcases g4 with ⟨g4, _⟩ | ⟨cap, us, rest, e, g5, g6, g7, g8, g9⟩
      · subst g4; simp at hm2; omega
      · have hv := h1.2 (by rw [hq, g1])
        rw [g5, g2] at hv
        simp only [subV] at hv
        rw [if_neg (by omega)] at hv
        refine key (out := .ept b xs.length (lo + m.toNat) 0) hv (evv1 h hi he') ⟨hm0, by omega⟩ ⟨rfl, fun _ => ?_⟩ (fun c hc => ?_) hkk
        · rw [g2, Nat.add_mul]; simp
        · simp only [AV.id?, Option.some.injEq] at hc
          subst hc
          refine ⟨(h.wf.idh b _ hb).1, fun k2 xs2 hb2 => ?_⟩
          rw [hb] at hb2
          cases hb2
          exact Nat.le_refl _
    · exact hs.elim
  · exact hs.elim

theorem snd_ix {t e : TypeId} {x i : Operand} {x' i' : Opd} {len k : Nat} {ag : Bool} (ho : o.op = .index t x i) (hu : P.underlying t = some (.array len e)) (hk : szOf P e = some k) (hag : agOf P e = some ag) (hk1 : (ag || k == 1) = true) (hx : opdOf x = some x') (hi : opdOf i = some i')
    (hF : ∀ f, F.fn f) (h : Real E A sl hp ρ imm a w) (hd : dstOk E o.dst)
    (hs : opSem P E.gl (ev E.gl sl) hp j (.ix len k ag x' i') K) : o.wpIn F n P a w (Post E A sl hp o.dst j K) Q := by
  simp only [opSem] at hs
  split at hs
  · rename_i cs kk m he he'
    obtain ⟨h1, h2⟩ := ev_RS h hx
    rw [he] at h1 h2
    obtain ⟨us, e, hr⟩ := RS.agg h1
    obtain ⟨hm, hl, hkk⟩ := hs
    have hlen := hr.length
    have hmul := row_mul (k := k) (show m.toNat < len by omega)
    have hN : k = if ag then k else 1 := by cases ag <;> simp at hk1 ⊢; exact hk1
    refine snd_pure (by simp [ho]) hF h hd ?_ (RS.of_cells ag (hr.sub (m.toNat * k) k) (fun e => by simp [e] at hN; simp; omega)) (fun c hc => h2 c (mem_sub hc)) hkk
    simp [execOp, ho, e, evv1 h hi he', Instr.index, asIntOf, run_under P w hu, hm, run_size P w hk, run_part hag hk hN (by omega : m.toNat * k + k ≤ us.length)]
  · exact hs.elim

theorem snd_ixs {t : TypeId} {x i : Operand} {x' i' : Opd} (ho : o.op = .index t x i) (hu : P.underlying t = some .string) (hx : opdOf x = some x') (hi : opdOf i = some i')
    (hF : ∀ f, F.fn f) (h : Real E A sl hp ρ imm a w) (hd : dstOk E o.dst)
    (hs : opSem P E.gl (ev E.gl sl) hp j (.ixs x' i') K) : o.wpIn F n P a w (Post E A sl hp o.dst j K) Q := by
  simp only [opSem] at hs
  split at hs
  · rename_i s kk m he he'
    obtain ⟨hm, hkk⟩ := hs
    have hlt : m.toNat < s.size := by omega
    refine snd_pure (by simp [ho]) hF h hd (v := .int .u8 ((s.data.getD m.toNat 0).toNat : Nat)) ?_ (RS_mkv rfl) okC_v1 hkk
    have hsome : s[m.toNat]? = some (s.data.getD m.toNat 0) := by
      rw [getElem?_pos s m.toNat hlt]
      congr 1
      have hlt' : m.toNat < s.data.size := hlt
      show s.data[m.toNat] = _
      rw [Array.getD_eq_getD_getElem?, getElem?_pos s.data m.toNat hlt']
      rfl
    simp [execOp, ho, evv1 h hx he, evv1 h hi he', Instr.index, asIntOf, run_under P w hu, hm.1, hsome]
  · exact hs.elim
end Go.Proofs.YtlbafapmhjfobaaGreatDoor
