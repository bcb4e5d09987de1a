/-
  Contracts: what the functions of the package plane, cmp and slices compute, for arguments within the bounds that each contract names.
-/
import Derived.Test.YtlbafapmhjfobaaGreatDoorCode1
import Derived.IntWalk
set_option linter.unusedVariables false
set_option linter.unusedSimpArgs false
namespace Go.Proofs.YtlbafapmhjfobaaGreatDoor
set_option maxRecDepth 100000
attribute [local irreducible] LoopW RngW retPure retFresh retBox retTurn
variable {gl : Nat → Option (List AV)}
theorem fol : Tryz.prog.follows .mixedOrders = true := by kernel_rfl

structure V3 where
  x : Int
  y : Int
  z : Int
  deriving DecidableEq
structure Pl where
  n : V3
  b : Int
  deriving DecidableEq
def V3.cs (v : V3) : List AV := [.i v.x, .i v.y, .i v.z]
def Pl.cs (p : Pl) : List AV := [.i p.n.x, .i p.n.y, .i p.n.z, .i p.b]
def V3.bd (k : Int) (v : V3) : Prop := (-k ≤ v.x ∧ v.x ≤ k) ∧ (-k ≤ v.y ∧ v.y ≤ k) ∧ (-k ≤ v.z ∧ v.z ≤ k)
def V3.sub (a b : V3) : V3 := ⟨a.x - b.x, a.y - b.y, a.z - b.z⟩
def V3.add (a b : V3) : V3 := ⟨a.x + b.x, a.y + b.y, a.z + b.z⟩
def V3.dot (a b : V3) : Int := a.x * b.x + a.y * b.y + a.z * b.z
def V3.cross (a b : V3) : V3 := ⟨a.y * b.z - a.z * b.y, a.z * b.x - a.x * b.z, a.x * b.y - a.y * b.x⟩
theorem idf_v (v : V3) : idFree v.cs := by intro x hx; simp [V3.cs] at hx; rcases hx with rfl | rfl | rfl <;> rfl
theorem idf_p (p : Pl) : idFree p.cs := by intro x hx; simp [Pl.cs] at hx; rcases hx with rfl | rfl | rfl | rfl <;> rfl
theorem idf_c {cs : List AV} (h : idFreeB cs = true) : idFree cs := idFreeB_spec h
/-- the plain facts of a contract: nothing handed over, all arguments lead nowhere of ours -/
def argsB (l : List (Bool × List AV)) : Bool := l.all fun p => idFreeB p.2
theorem argsB_spec {l : List (Bool × List AV)} (h : argsB l = true) : ∀ p ∈ l, idFree p.2 := fun p hp => idFreeB_spec (List.all_eq_true.1 h p hp)
theorem wr {n : Int} (h : -9223372036854775808 ≤ n ∧ n ≤ 9223372036854775807) : IntKind.i64.wrap n = n := IntWalk.i64_in n h

theorem eq3 {x y z x' y' z' : Int} (h1 : x = x') (h2 : y = y') (h3 : z = z') : SV.c true [.i x, .i y, .i z] = .c true [.i x', .i y', .i z'] := by rw [h1, h2, h3]
theorem eq1 {x x' : Int} (h1 : x = x') : SV.c false [.i x] = .c false [.i x'] := by rw [h1]
theorem eqb {x x' : Bool} (h1 : x = x') : SV.c false [.b x] = .c false [.b x'] := by rw [h1]
theorem mul_bd {x y k l : Int} (hx : -k ≤ x ∧ x ≤ k) (hy : -l ≤ y ∧ y ≤ l) : -(k * l) ≤ x * y ∧ x * y ≤ k * l := by
  have hk : 0 ≤ k := by omega
  have hl : 0 ≤ l := by omega
  have h1 : (x * y).natAbs ≤ k.natAbs * l.natAbs := by
    rw [Int.natAbs_mul]
    exact Nat.mul_le_mul (by omega) (by omega)
  have h2 : (k.natAbs * l.natAbs : Nat) = (k * l).natAbs := (Int.natAbs_mul k l).symm
  have h3 : 0 ≤ k * l := Int.mul_nonneg hk hl
  omega

theorem sub_spec {a b : V3} (ha : a.bd 1099511627776) (hb : b.bd 1099511627776) : Spec Tryz.prog gl 9 none [(true, a.cs), (true, b.cs)] (.c true (a.sub b).cs) none := by
  refine spec_plain A9_comp Tryz.func9 Tryz.call9 fol Tryz.ntmps9 Tryz.results9 (argsB_spec rfl) (Nat.le_of_ble_eq_true rfl) (idf_c rfl) ?_
  unfold V3.bd at ha hb
  ((conv => whnf); (repeat (first | (refine ⟨rfl, ?_⟩; (conv => whnf)) | (refine ⟨Nat.le_of_ble_eq_true rfl, ?_⟩; (conv => whnf)))))
  refine retPure_ret rfl ?_
  exact eq3 (wr (by omega)) (wr (by omega)) (wr (by omega))
theorem add_spec {a b : V3} (ha : a.bd 1099511627776) (hb : b.bd 1099511627776) : Spec Tryz.prog gl 33 none [(true, a.cs), (true, b.cs)] (.c true (a.add b).cs) none := by
  refine spec_plain A33_comp Tryz.func33 Tryz.call33 fol Tryz.ntmps33 Tryz.results33 (argsB_spec rfl) (Nat.le_of_ble_eq_true rfl) (idf_c rfl) ?_
  unfold V3.bd at ha hb
  ((conv => whnf); (repeat (first | (refine ⟨rfl, ?_⟩; (conv => whnf)) | (refine ⟨Nat.le_of_ble_eq_true rfl, ?_⟩; (conv => whnf)))))
  refine retPure_ret rfl ?_
  exact eq3 (wr (by omega)) (wr (by omega)) (wr (by omega))
theorem dot_spec {a b : V3} (ha : a.bd 1073741824) (hb : b.bd 1073741824) : Spec Tryz.prog gl 10 none [(true, a.cs), (true, b.cs)] (.c false [.i (a.dot b)]) none := by
  refine spec_plain A10_comp Tryz.func10 Tryz.call10 fol Tryz.ntmps10 Tryz.results10 (argsB_spec rfl) (Nat.le_of_ble_eq_true rfl) (idf_c rfl) ?_
  have h1 := mul_bd ha.1 hb.1
  have h2 := mul_bd ha.2.1 hb.2.1
  have h3 := mul_bd ha.2.2 hb.2.2
  ((conv => whnf); (repeat (first | (refine ⟨rfl, ?_⟩; (conv => whnf)) | (refine ⟨Nat.le_of_ble_eq_true rfl, ?_⟩; (conv => whnf)))))
  refine retPure_ret rfl ?_
  refine eq1 ?_
  rw [wr (n := a.x * b.x) (by omega), wr (n := a.y * b.y) (by omega), wr (n := a.z * b.z) (by omega), wr (n := a.x * b.x + a.y * b.y) (by omega)]
  exact wr (by omega)
theorem cross_spec {a b : V3} (ha : a.bd 1073741824) (hb : b.bd 1073741824) : Spec Tryz.prog gl 53 none [(true, a.cs), (true, b.cs)] (.c true (a.cross b).cs) none := by
  refine spec_plain A53_comp Tryz.func53 Tryz.call53 fol Tryz.ntmps53 Tryz.results53 (argsB_spec rfl) (Nat.le_of_ble_eq_true rfl) (idf_c rfl) ?_
  have h1 := mul_bd ha.2.1 hb.2.2
  have h2 := mul_bd ha.2.2 hb.2.1
  have h3 := mul_bd ha.2.2 hb.1
  have h4 := mul_bd ha.1 hb.2.2
  have h5 := mul_bd ha.1 hb.2.1
  have h6 := mul_bd ha.2.1 hb.1
  ((conv => whnf); (repeat (first | (refine ⟨rfl, ?_⟩; (conv => whnf)) | (refine ⟨Nat.le_of_ble_eq_true rfl, ?_⟩; (conv => whnf)))))
  refine retPure_ret rfl ?_
  refine eq3 ?_ ?_ ?_
  · rw [wr (n := a.y * b.z) (by omega), wr (n := a.z * b.y) (by omega)]; exact wr (by omega)
  · rw [wr (n := a.z * b.x) (by omega), wr (n := a.x * b.z) (by omega)]; exact wr (by omega)
  · rw [wr (n := a.x * b.y) (by omega), wr (n := a.y * b.x) (by omega)]; exact wr (by omega)
theorem bd0 {k : Int} (h : 0 ≤ k) : V3.bd k ⟨0, 0, 0⟩ := by refine ⟨⟨?_, ?_⟩, ⟨?_, ?_⟩, ⟨?_, ?_⟩⟩ <;> simp <;> omega
def Pl.flip (p : Pl) : Pl := ⟨V3.sub ⟨0, 0, 0⟩ p.n, 0 - p.b⟩
theorem eq4 {x y z b x' y' z' b' : Int} (h1 : x = x') (h2 : y = y') (h3 : z = z') (h4 : b = b') : SV.c true [.i x, .i y, .i z, .i b] = .c true [.i x', .i y', .i z', .i b'] := by rw [h1, h2, h3, h4]
theorem flip_spec {p : Pl} (hn : p.n.bd 1099511627776) (hb : -1099511627776 ≤ p.b ∧ p.b ≤ 1099511627776) : Spec Tryz.prog gl 79 none [(true, p.cs)] (.c true p.flip.cs) none := by
  refine spec_plain A79_comp Tryz.func79 Tryz.call79 fol Tryz.ntmps79 Tryz.results79 (argsB_spec rfl) (Nat.le_of_ble_eq_true rfl) (idf_c rfl) ?_
  ((conv => whnf); (repeat (refine ⟨Nat.le_of_ble_eq_true rfl, ?_⟩; (conv => whnf))))
  refine call_pure (sub_spec (a := ⟨0, 0, 0⟩) (b := p.n) ?_ hn) rfl rfl rfl ?_
  · exact bd0 (by omega)
  ((conv => whnf); (repeat (first | (refine ⟨(by kernel_rfl : chk _ _ = true), ?_⟩; (conv => whnf)) | (refine ⟨rfl, ?_⟩; (conv => whnf)) | (refine ⟨Nat.le_of_ble_eq_true rfl, ?_⟩; (conv => whnf)))))
  refine retPure_ret rfl ?_
  exact eq4 rfl rfl rfl (wr (by omega))
end Go.Proofs.YtlbafapmhjfobaaGreatDoor
namespace Go.Proofs.YtlbafapmhjfobaaGreatDoor
set_option maxRecDepth 100000
attribute [local irreducible] LoopW RngW retPure retFresh retBox retTurn
variable {gl : Nat → Option (List AV)}

def ordI (a b : Int) : Int := if a < b then -1 else if b < a then 1 else 0
theorem order_spec (a b : Int) : Spec Tryz.prog gl 83 none [(false, [.i a]), (false, [.i b])] (.c false [.i (ordI a b)]) none := by
  refine spec_plain A83_comp Tryz.func83 Tryz.call83 fol Tryz.ntmps83 Tryz.results83 (argsB_spec rfl) (Nat.le_of_ble_eq_true rfl) (idf_c rfl) ?_
  ((conv => whnf); (repeat (refine ⟨rfl, ?_⟩; (conv => whnf))))
  refine ⟨fun h1 => ?_, fun h1 => ?_⟩
  · (conv => whnf)
    refine retPure_ret rfl ?_
    exact eq1 (by simp at h1; simp [ordI, h1])
  · ((conv => whnf); (repeat (refine ⟨rfl, ?_⟩; (conv => whnf))))
    refine ⟨fun h2 => ?_, fun h2 => ?_⟩
    · (conv => whnf)
      refine retPure_ret rfl ?_
      exact eq1 (by simp at h1 h2; simp [ordI, h2]; omega)
    · (conv => whnf)
      refine retPure_ret rfl ?_
      exact eq1 (by simp at h1 h2; simp [ordI]; omega)

theorem absolute_spec {n : Int} (h : -9223372036854775807 ≤ n ∧ n ≤ 9223372036854775807) : Spec Tryz.prog gl 111 none [(false, [.i n])] (.c false [.i n.natAbs]) none := by
  refine spec_plain A111_comp Tryz.func111 Tryz.call111 fol Tryz.ntmps111 Tryz.results111 (argsB_spec rfl) (Nat.le_of_ble_eq_true rfl) (idf_c rfl) ?_
  (conv => whnf)
  refine retPure_ret rfl ?_
  refine eq1 ?_
  rw [wr (by omega)]
  rw [if_pos rfl]
  split <;> omega

def withinI (m : Int) (xs : List Int) : Bool := xs.all fun x => decide (-m ≤ x) && decide (x ≤ m)
abbrev ics (xs : List Int) : List (List AV) := xs.map fun x => [.i x]
theorem within_spec {m : Int} (hm : 0 ≤ m ∧ m ≤ 4611686018427387904) {xs : List Int} (hx : xs.length ≤ 1000000) : Spec Tryz.prog gl 69 none [(false, [.i m]), (false, [.li 1 (ics xs)])] (.c false [.b (withinI m xs)]) none := by
  refine spec_plain A69_comp Tryz.func69 Tryz.call69 fol Tryz.ntmps69 Tryz.results69 (argsB_spec rfl) (Nat.le_of_ble_eq_true rfl) (idf_c rfl) ?_
  (conv => whnf)
  refine W_loop (fun i : Nat => i ≤ xs.length ∧ withinI m (xs.take i) = true)
    (fun i => mk [(0, .c false [.i m]), (1, .c false [.li 1 (ics xs)]), (7, .c false [.li 1 (ics xs)]), (8, .c false [.i (ics xs).length]), (9, .c false [.i i])] [] 100)
    (fun i => xs.length - i) 0 ⟨by simp, by simp [withinI]⟩ (.to ⟨rfl, rfl, rfl, rfl, rfl, trivial⟩ trivial rfl rfl) ?_
  rintro i ⟨hi, hall⟩
  ((conv => whnf); (repeat (refine ⟨rfl, ?_⟩; (conv => whnf))))
  refine ⟨?_, ?_⟩
  · intro hlt
    have hlt' : i < xs.length := by simpa using hlt
    ((conv => whnf); (repeat (refine ⟨rfl, ?_⟩; (conv => whnf))))
    refine ⟨⟨by omega, by simpa using hlt'⟩, ?_⟩
    have e : (ics xs).getD (i : Int).toNat [] = [.i xs[i]] := by simp [hlt']
    rw [e]; ((conv => whnf); (repeat (first | (refine ⟨rfl, ?_⟩; (conv => whnf)) | (refine ⟨Nat.le_of_ble_eq_true rfl, ?_⟩; (conv => whnf)))))
    have bad : ∀ (h : ¬ (-m ≤ xs[i] ∧ xs[i] ≤ m)), withinI m xs = false := by
      intro h
      rw [withinI, List.all_eq_false]
      exact ⟨xs[i], by simp, by simpa using h⟩
    rw [wr (n := 0 - m) (by omega)]
    cases h1 : decide (xs[i] < 0 - m)
    · ((conv => whnf); (repeat (first | (refine ⟨rfl, ?_⟩; (conv => whnf)) | (refine ⟨fun _ => ?_, fun h => Bool.noConfusion h⟩; (conv => whnf)) | (refine ⟨fun h => Bool.noConfusion h, fun _ => ?_⟩; (conv => whnf)))))
      cases h2 : decide (m < xs[i])
      · ((conv => whnf); (repeat (first | (refine ⟨rfl, ?_⟩; (conv => whnf)) | (refine ⟨fun h => Bool.noConfusion h, fun _ => ?_⟩; (conv => whnf)))))
        refine ⟨i + 1, ⟨hlt', ?_⟩, by omega, .to ⟨rfl, rfl, rfl, rfl, eq1 (by rw [wr (by omega)]; omega), trivial⟩ trivial rfl rfl⟩
        · rw [List.take_add_one, List.getElem?_eq_getElem hlt']
          simp only [withinI] at hall
          simp only [withinI, List.all_append, hall, Bool.true_and]
          simp at h1 h2 ⊢
          omega
      · ((conv => whnf); (repeat (refine ⟨fun _ => ?_, fun h => Bool.noConfusion h⟩; (conv => whnf))))
        refine retPure_ret rfl ?_
        exact eqb (bad (by simp at h2; omega)).symm
    · ((conv => whnf); (repeat (first | (refine ⟨fun _ => ?_, fun h => Bool.noConfusion h⟩; (conv => whnf)) | (refine ⟨fun h => Bool.noConfusion h, fun _ => ?_⟩; (conv => whnf)))))
      refine retPure_ret rfl ?_
      exact eqb (bad (by simp at h1; omega)).symm
  · intro hge
    have hi' : i = xs.length := by have : ¬ i < xs.length := by simpa using hge
                                   omega
    (conv => whnf)
    refine retPure_ret rfl ?_
    subst hi'
    rw [List.take_length] at hall
    exact eqb hall.symm

def gcdL (xs : List Int) : Nat := xs.foldl (fun g x => Nat.gcd g x.natAbs) 0
theorem gcdL_snoc (xs : List Int) (x : Int) : gcdL (xs ++ [x]) = Nat.gcd (gcdL xs) x.natAbs := by simp [gcdL]
theorem divisor_spec {xs : List Int} (hx : xs.length ≤ 1000000) (hb : ∀ x ∈ xs, -9223372036854775807 ≤ x ∧ x ≤ 9223372036854775807) : Spec Tryz.prog gl 84 none [(false, [.li 1 (ics xs)])] (.c false [.i (gcdL xs)]) none := by
  refine spec_plain A84_comp Tryz.func84 Tryz.call84 fol Tryz.ntmps84 Tryz.results84 (argsB_spec rfl) (Nat.le_of_ble_eq_true rfl) (idf_c rfl) ?_
  (conv => whnf)
  refine W_loop (fun i : Nat => i ≤ xs.length)
    (fun i => mk [(6, .c false [.li 1 (ics xs)]), (7, .c false [.i (ics xs).length]), (8, .c false [.i i]), (3, .c false [.i (gcdL (xs.take i))])] [] 100)
    (fun i => xs.length - i) 0 (by simp) (.to ⟨rfl, rfl, rfl, rfl, trivial⟩ trivial rfl rfl) ?_
  intro i hi
  ((conv => whnf); (repeat (refine ⟨rfl, ?_⟩; (conv => whnf))))
  refine ⟨?_, ?_⟩
  · intro hlt
    have hlt' : i < xs.length := by simpa using hlt
    ((conv => whnf); (repeat (refine ⟨rfl, ?_⟩; (conv => whnf))))
    refine ⟨⟨by omega, by simpa using hlt'⟩, ?_⟩
    have e : (ics xs).getD (i : Int).toNat [] = [.i xs[i]] := by simp [hlt']
    have hbi := hb xs[i] (by simp)
    rw [e]; ((conv => whnf); (repeat (first | (refine ⟨rfl, ?_⟩; (conv => whnf)) | (refine ⟨Nat.le_of_ble_eq_true rfl, ?_⟩; (conv => whnf)))))
    have hmin : (xs[i] == -9223372036854775808) = false := by simp; omega
    rw [hmin]; ((conv => whnf); (repeat (refine ⟨fun h => Bool.noConfusion h, fun _ => ?_⟩; (conv => whnf))))
    refine call_pure (absolute_spec hbi) rfl rfl rfl ?_
    (conv => whnf)
    refine W_loop (fun q : Nat × Nat => Nat.gcd q.1 q.2 = gcdL (xs.take (i + 1)))
      (fun q => mk [(6, .c false [.li 1 (ics xs)]), (7, .c false [.i (ics xs).length]), (8, .c false [.i i]), (3, .c false [.i q.1]), (5, .c false [.i q.2])] [] 100)
      (fun q => q.2) (gcdL (xs.take i), xs[i].natAbs) ?_ (.to ⟨rfl, rfl, rfl, rfl, rfl, trivial⟩ trivial rfl rfl) ?_
    · rw [List.take_add_one, List.getElem?_eq_getElem hlt']
      exact (gcdL_snoc _ _).symm
    rintro ⟨g, n⟩ hg
    ((conv => whnf); (repeat (refine ⟨rfl, ?_⟩; (conv => whnf))))
    refine ⟨fun hn => ?_, fun hn => ?_⟩
    · have hn' : 0 < n := by simpa using hn
      ((conv => whnf); (repeat (refine ⟨rfl, ?_⟩; (conv => whnf))))
      refine ⟨by omega, ?_⟩
      ((conv => whnf); (repeat (refine ⟨(by kernel_rfl : chk _ _ = true), ?_⟩; (conv => whnf))))
      refine ⟨(n, g % n), ?_, Nat.mod_lt _ hn', .to ⟨rfl, rfl, rfl, rfl, eq1 ?_, trivial⟩ trivial rfl rfl⟩
      · rw [← hg, Nat.gcd_comm g n, Nat.gcd_rec n g, Nat.gcd_comm]
      · rfl
    · have hn' : n = 0 := by simpa using hn
      subst hn'
      ((conv => whnf); (repeat (refine ⟨rfl, ?_⟩; (conv => whnf))))
      refine ⟨i + 1, hlt', by omega, .to ⟨rfl, rfl, eq1 (by rw [wr (by omega)]; omega), eq1 ?_, trivial⟩ trivial rfl rfl⟩
      rw [← hg, Nat.gcd_zero_right]
  · intro hge
    have hi' : i = xs.length := by have : ¬ i < xs.length := by simpa using hge
                                   omega
    (conv => whnf)
    refine retPure_ret rfl ?_
    subst hi'
    rw [List.take_length]
    rfl

def V3.inB (v : V3) : Bool := withinI 24 [v.x, v.y, v.z]
theorem lend1 {hv : Nat → Option HE} {m : AV} {b n k : Nat} {xs : List (List AV)} (hm : m.pers = true) (hb : hv b = some (.row k xs)) (hn : n = xs.length) : F2 (coeV hv) [SV.c false [m], SV.c false [.own b n]] [(false, [m]), (false, [.li k xs])] :=
  ⟨.one (.self hm), .one (.own hb hn), trivial⟩
theorem lend0 {hv : Nat → Option HE} {b n k : Nat} {xs : List (List AV)} (hb : hv b = some (.row k xs)) (hn : n = xs.length) : F2 (coeV hv) [SV.c false [.own b n]] [(false, [.li k xs])] := ⟨.one (.own hb hn), trivial⟩
theorem v1 {x : Value} : ∀ y ∈ (SV.c false [.v x]).cells, ∃ u, y = AV.v u := by intro y hy; simp [SV.cells] at hy; exact ⟨x, hy⟩
theorem in_spec (v : V3) : Spec Tryz.prog gl 30 none [(true, v.cs)] (.c false [.b v.inB]) none := by
  refine spec_plain A30_comp Tryz.func30 Tryz.call30 fol Tryz.ntmps30 Tryz.results30 (argsB_spec rfl) (Nat.le_of_ble_eq_true rfl) (idf_c rfl) ?_
  ((conv => whnf); (repeat (refine ⟨Nat.le_of_ble_eq_true rfl, ?_⟩; (conv => whnf))))
  refine call_lend (within_spec (m := 24) (by omega) (xs := [v.x, v.y, v.z]) (Nat.le_of_ble_eq_true rfl)) (lend1 rfl rfl rfl) v1 ?_
  (conv => whnf)
  exact retPure_ret rfl rfl
end Go.Proofs.YtlbafapmhjfobaaGreatDoor
namespace Go.Proofs.YtlbafapmhjfobaaGreatDoor
set_option maxRecDepth 100000
attribute [local irreducible] LoopW RngW retPure retFresh retBox retTurn
variable {gl : Nat → Option (List AV)}

theorem eqt2 {xs ys : List AV} {a b : Bool} {us vs : List AV} (h1 : xs = ys) (h2 : us = vs) : SV.tup [(a, xs), (b, us)] = .tup [(a, ys), (b, vs)] := by rw [h1, h2]
theorem c3 {x y z x' y' z' : Int} (h1 : x = x') (h2 : y = y') (h3 : z = z') : [AV.i x, AV.i y, AV.i z] = [.i x', .i y', .i z'] := by rw [h1, h2, h3]
theorem c1 {x x' : Int} (h1 : x = x') : [AV.i x] = [AV.i x'] := by rw [h1]
theorem tdiv_bd {a b k : Int} (h : -k ≤ a ∧ a ≤ k) : -k ≤ a.tdiv b ∧ a.tdiv b ≤ k := by
  have h1 : (a.tdiv b).natAbs ≤ a.natAbs := by rw [Int.natAbs_tdiv]; exact Nat.div_le_self _ _
  omega

def V3.gcd (v : V3) : Nat := gcdL [v.x, v.y, v.z]
def V3.div (v : V3) (g : Int) : V3 := ⟨v.x.tdiv g, v.y.tdiv g, v.z.tdiv g⟩
def V3.prim (v : V3) : V3 × Int := if v.gcd = 0 then (⟨0, 0, 0⟩, 0) else (v.div v.gcd, v.gcd)
theorem prim_spec {v : V3} (h : v.bd 4611686018427387904) : Spec Tryz.prog gl 41 none [(true, v.cs)] (.tup [(true, v.prim.1.cs), (false, [.i v.prim.2])]) none := by
  refine spec_plain A41_comp Tryz.func41 Tryz.call41 fol Tryz.ntmps41 Tryz.results41 (argsB_spec rfl) (Nat.le_of_ble_eq_true rfl) (idf_c rfl) ?_
  have hb : ∀ x ∈ [v.x, v.y, v.z], -9223372036854775807 ≤ x ∧ x ≤ 9223372036854775807 := by
    unfold V3.bd at h
    simp only [List.mem_cons, List.not_mem_nil, or_false, forall_eq_or_imp, forall_eq]
    omega
  ((conv => whnf); (repeat (refine ⟨Nat.le_of_ble_eq_true rfl, ?_⟩; (conv => whnf))))
  refine call_lend (divisor_spec (xs := [v.x, v.y, v.z]) (Nat.le_of_ble_eq_true rfl) hb) (lend0 rfl rfl) v1 ?_
  ((conv => whnf); (repeat (refine ⟨rfl, ?_⟩; (conv => whnf))))
  refine ⟨fun h0 => ?_, fun h0 => ?_⟩
  · have h0' : v.gcd = 0 := by simpa [V3.gcd] using h0
    ((conv => whnf); (repeat (first | (refine ⟨rfl, ?_⟩; (conv => whnf)) | (refine ⟨Nat.le_of_ble_eq_true rfl, ?_⟩; (conv => whnf)))))
    refine retPure_ret rfl ?_
    rw [V3.prim, if_pos h0']; rfl
  · have h0' : v.gcd ≠ 0 := by simpa [V3.gcd] using h0
    have hne : ((gcdL [v.x, v.y, v.z] : Nat) : Int) ≠ 0 := by simpa [V3.gcd] using h0'
    ((conv => whnf); (repeat (first | (refine ⟨rfl, ?_⟩; (conv => whnf)) | (refine ⟨Nat.le_of_ble_eq_true rfl, ?_⟩; (conv => whnf)))))
    refine ⟨hne, ?_⟩; ((conv => whnf); (repeat (first | (refine ⟨rfl, ?_⟩; (conv => whnf)) | (refine ⟨Nat.le_of_ble_eq_true rfl, ?_⟩; (conv => whnf)))))
    refine ⟨hne, ?_⟩; ((conv => whnf); (repeat (first | (refine ⟨rfl, ?_⟩; (conv => whnf)) | (refine ⟨Nat.le_of_ble_eq_true rfl, ?_⟩; (conv => whnf)))))
    refine ⟨hne, ?_⟩; ((conv => whnf); (repeat (first | (refine ⟨(by kernel_rfl : chk _ _ = true), ?_⟩; (conv => whnf)) | (refine ⟨rfl, ?_⟩; (conv => whnf)) | (refine ⟨Nat.le_of_ble_eq_true rfl, ?_⟩; (conv => whnf)))))
    refine retPure_ret rfl ?_
    rw [V3.prim, if_neg h0']
    refine eqt2 (c3 (wr ?_) (wr ?_) (wr ?_)) rfl
    · have := tdiv_bd (b := ((gcdL [v.x, v.y, v.z] : Nat) : Int)) h.1; omega
    · have := tdiv_bd (b := ((gcdL [v.x, v.y, v.z] : Nat) : Int)) h.2.1; omega
    · have := tdiv_bd (b := ((gcdL [v.x, v.y, v.z] : Nat) : Int)) h.2.2; omega

def Pl.okB (p : Pl) : Bool := withinI 4608 [p.n.x, p.n.y, p.n.z] && (p.n.gcd == 1 && withinI 2097152 [p.b])
theorem withinI_bd {m : Int} {xs : List Int} (h : withinI m xs = true) : ∀ x ∈ xs, -m ≤ x ∧ x ≤ m := by
  intro x hx
  have := List.all_eq_true.1 h x hx
  simpa using this
theorem valid_spec (p : Pl) : Spec Tryz.prog gl 40 none [(true, p.cs)] (.c false [.b p.okB]) none := by
  refine spec_plain A40_comp Tryz.func40 Tryz.call40 fol Tryz.ntmps40 Tryz.results40 (argsB_spec rfl) (Nat.le_of_ble_eq_true rfl) (idf_c rfl) ?_
  ((conv => whnf); (repeat (refine ⟨Nat.le_of_ble_eq_true rfl, ?_⟩; (conv => whnf))))
  refine call_lend (within_spec (m := 4608) (by omega) (xs := [p.n.x, p.n.y, p.n.z]) (Nat.le_of_ble_eq_true rfl)) (lend1 rfl rfl rfl) v1 ?_
  (conv => whnf)
  cases hw : withinI 4608 [p.n.x, p.n.y, p.n.z]
  · ((conv => whnf); (repeat (refine ⟨fun h => Bool.noConfusion h, fun _ => ?_⟩; (conv => whnf))))
    refine retPure_ret rfl ?_
    exact eqb (by simp [Pl.okB, hw])
  · ((conv => whnf); (repeat (first | (refine ⟨Nat.le_of_ble_eq_true rfl, ?_⟩; (conv => whnf)) | (refine ⟨fun _ => ?_, fun h => Bool.noConfusion h⟩; (conv => whnf)))))
    refine call_lend (divisor_spec (xs := [p.n.x, p.n.y, p.n.z]) (Nat.le_of_ble_eq_true rfl) (fun x hx => by have := withinI_bd hw x hx; omega)) (lend0 rfl rfl) v1 ?_
    ((conv => whnf); (repeat (first | (refine ⟨rfl, ?_⟩; (conv => whnf)) | (refine ⟨fun _ => ?_, fun h => Bool.noConfusion h⟩; (conv => whnf)))))
    have hg : (((gcdL [p.n.x, p.n.y, p.n.z] : Nat) : Int) == 1) = (p.n.gcd == 1) := by
      simp only [V3.gcd]
      rw [Bool.eq_iff_iff]
      simp only [beq_iff_eq]
      omega
    rw [hg]
    cases hg1 : (p.n.gcd == 1)
    · ((conv => whnf); (repeat (refine ⟨fun h => Bool.noConfusion h, fun _ => ?_⟩; (conv => whnf))))
      refine retPure_ret rfl ?_
      exact eqb (by simp [Pl.okB, hg1])
    · ((conv => whnf); (repeat (first | (refine ⟨Nat.le_of_ble_eq_true rfl, ?_⟩; (conv => whnf)) | (refine ⟨fun _ => ?_, fun h => Bool.noConfusion h⟩; (conv => whnf)))))
      refine call_lend (within_spec (m := 2097152) (by omega) (xs := [p.b]) (Nat.le_of_ble_eq_true rfl)) (lend1 rfl rfl rfl) v1 ?_
      ((conv => whnf); (repeat (refine ⟨fun _ => ?_, fun h => Bool.noConfusion h⟩; (conv => whnf))))
      refine retPure_ret rfl ?_
      exact eqb (by simp [Pl.okB, hg1, hw])
end Go.Proofs.YtlbafapmhjfobaaGreatDoor
namespace Go.Proofs.YtlbafapmhjfobaaGreatDoor
set_option maxRecDepth 100000
attribute [local irreducible] LoopW RngW retPure retFresh retBox retTurn
variable {gl : Nat → Option (List AV)}

def V3.zero : V3 := ⟨0, 0, 0⟩
theorem inB_bd {v : V3} (h : v.inB = true) : v.bd 24 := by
  have h1 := withinI_bd h
  exact ⟨h1 v.x (by simp), h1 v.y (by simp), h1 v.z (by simp)⟩
theorem V3.bd.mono {k l : Int} {v : V3} (h : v.bd k) (hk : k ≤ l) : v.bd l := by unfold V3.bd at *; omega
theorem sub_bd {a b : V3} {k l : Int} (ha : a.bd k) (hb : b.bd l) : (a.sub b).bd (k + l) := by unfold V3.bd V3.sub at *; simp only; omega
theorem cross_bd {a b : V3} {k l : Int} (ha : a.bd k) (hb : b.bd l) : (a.cross b).bd (2 * (k * l)) := by
  have h1 := mul_bd ha.2.1 hb.2.2
  have h2 := mul_bd ha.2.2 hb.2.1
  have h3 := mul_bd ha.2.2 hb.1
  have h4 := mul_bd ha.1 hb.2.2
  have h5 := mul_bd ha.1 hb.2.1
  have h6 := mul_bd ha.2.1 hb.1
  unfold V3.bd V3.cross
  simp only
  omega
theorem div_bd {a : V3} {g k : Int} (ha : a.bd k) : (a.div g).bd k := ⟨tdiv_bd ha.1, tdiv_bd ha.2.1, tdiv_bd ha.2.2⟩
theorem prim_bd {a : V3} {k : Int} (ha : a.bd k) : a.prim.1.bd k := by
  unfold V3.prim
  split
  · exact bd0 (by have := ha.1; omega)
  · exact div_bd ha

def through (a b c : V3) : Pl × Bool :=
  if a.inB && b.inB && c.inB then (⟨((b.sub a).cross (c.sub a)).prim.1, ((b.sub a).cross (c.sub a)).prim.1.dot a⟩, decide (0 < ((b.sub a).cross (c.sub a)).prim.2)) else (⟨.zero, 0⟩, false)
theorem through_spec (a b c : V3) : Spec Tryz.prog gl 78 none [(true, a.cs), (true, b.cs), (true, c.cs)] (.tup [(true, (through a b c).1.cs), (false, [.b (through a b c).2])]) none := by
  refine spec_plain A78_comp Tryz.func78 Tryz.call78 fol Tryz.ntmps78 Tryz.results78 (argsB_spec rfl) (Nat.le_of_ble_eq_true rfl) (idf_c rfl) ?_
  ((conv => whnf); (repeat (refine ⟨Nat.le_of_ble_eq_true rfl, ?_⟩; (conv => whnf))))
  refine call_pure (in_spec a) rfl rfl rfl ?_
  (conv => whnf)
  cases ha : a.inB
  · ((conv => whnf); (repeat (first | (refine ⟨rfl, ?_⟩; (conv => whnf)) | (refine ⟨Nat.le_of_ble_eq_true rfl, ?_⟩; (conv => whnf)) | (refine ⟨fun _ => ?_, fun h => Bool.noConfusion h⟩; (conv => whnf)) | (refine ⟨fun h => Bool.noConfusion h, fun _ => ?_⟩; (conv => whnf)))))
    refine retPure_ret rfl ?_
    rw [through, ha]; rfl
  · ((conv => whnf); (repeat (first | (refine ⟨Nat.le_of_ble_eq_true rfl, ?_⟩; (conv => whnf)) | (refine ⟨fun _ => ?_, fun h => Bool.noConfusion h⟩; (conv => whnf)))))
    refine call_pure (in_spec b) rfl rfl rfl ?_
    ((conv => whnf); (repeat (first | (refine ⟨fun _ => ?_, fun h => Bool.noConfusion h⟩; (conv => whnf)) | (refine ⟨fun h => Bool.noConfusion h, fun _ => ?_⟩; (conv => whnf)))))
    cases hb : b.inB
    · ((conv => whnf); (repeat (first | (refine ⟨rfl, ?_⟩; (conv => whnf)) | (refine ⟨Nat.le_of_ble_eq_true rfl, ?_⟩; (conv => whnf)) | (refine ⟨fun _ => ?_, fun h => Bool.noConfusion h⟩; (conv => whnf)) | (refine ⟨fun h => Bool.noConfusion h, fun _ => ?_⟩; (conv => whnf)))))
      refine retPure_ret rfl ?_
      rw [through, ha, hb]; rfl
    · ((conv => whnf); (repeat (first | (refine ⟨Nat.le_of_ble_eq_true rfl, ?_⟩; (conv => whnf)) | (refine ⟨fun _ => ?_, fun h => Bool.noConfusion h⟩; (conv => whnf)))))
      refine call_pure (in_spec c) rfl rfl rfl ?_
      ((conv => whnf); (repeat (first | (refine ⟨fun _ => ?_, fun h => Bool.noConfusion h⟩; (conv => whnf)) | (refine ⟨fun h => Bool.noConfusion h, fun _ => ?_⟩; (conv => whnf)))))
      cases hc : c.inB
      · ((conv => whnf); (repeat (first | (refine ⟨rfl, ?_⟩; (conv => whnf)) | (refine ⟨Nat.le_of_ble_eq_true rfl, ?_⟩; (conv => whnf)) | (refine ⟨fun _ => ?_, fun h => Bool.noConfusion h⟩; (conv => whnf)))))
        refine retPure_ret rfl ?_
        rw [through, ha, hb, hc]; rfl
      · ((conv => whnf); (repeat (first | (refine ⟨Nat.le_of_ble_eq_true rfl, ?_⟩; (conv => whnf)) | (refine ⟨fun h => Bool.noConfusion h, fun _ => ?_⟩; (conv => whnf)))))
        have ba := inB_bd ha
        have bb := inB_bd hb
        have bc := inB_bd hc
        have b1 := sub_bd bb ba
        have b2 := sub_bd bc ba
        have b3 := cross_bd b1 b2
        have b4 := prim_bd b3
        refine call_pure (sub_spec (bb.mono (by omega)) (ba.mono (by omega))) rfl rfl rfl ?_
        ((conv => whnf); (repeat (refine ⟨Nat.le_of_ble_eq_true rfl, ?_⟩; (conv => whnf))))
        refine call_pure (sub_spec (bc.mono (by omega)) (ba.mono (by omega))) rfl rfl rfl ?_
        (conv => whnf)
        refine call_pure (cross_spec (b1.mono (by omega)) (b2.mono (by omega))) rfl rfl rfl ?_
        (conv => whnf)
        refine call_pure (prim_spec (b3.mono (by omega))) rfl rfl rfl ?_
        ((conv => whnf); (repeat (first | (refine ⟨(by kernel_rfl : chk _ _ = true), ?_⟩; (conv => whnf)) | (refine ⟨rfl, ?_⟩; (conv => whnf)) | (refine ⟨Nat.le_of_ble_eq_true rfl, ?_⟩; (conv => whnf)))))
        refine call_pure (dot_spec (b4.mono (by omega)) (ba.mono (by omega))) rfl rfl rfl ?_
        ((conv => whnf); (repeat (first | (refine ⟨(by kernel_rfl : chk _ _ = true), ?_⟩; (conv => whnf)) | (refine ⟨rfl, ?_⟩; (conv => whnf)) | (refine ⟨Nat.le_of_ble_eq_true rfl, ?_⟩; (conv => whnf)))))
        refine retPure_ret rfl ?_
        rw [through, ha, hb, hc]; rfl

def side (p : Pl) (v : V3) : Int := if p.okB && v.inB then ordI (p.n.dot v) p.b else 0
theorem okB_bd {p : Pl} (h : p.okB = true) : p.n.bd 4608 ∧ p.n.gcd = 1 ∧ -2097152 ≤ p.b ∧ p.b ≤ 2097152 := by
  simp only [Pl.okB, Bool.and_eq_true, beq_iff_eq] at h
  have h1 := withinI_bd h.1
  have h2 := withinI_bd h.2.2
  exact ⟨⟨h1 p.n.x (by simp), h1 p.n.y (by simp), h1 p.n.z (by simp)⟩, h.2.1, h2 p.b (by simp)⟩
theorem side_spec (p : Pl) (v : V3) : Spec Tryz.prog gl 43 none [(true, p.cs), (true, v.cs)] (.c false [.i (side p v)]) none := by
  refine spec_plain A43_comp Tryz.func43 Tryz.call43 fol Tryz.ntmps43 Tryz.results43 (argsB_spec rfl) (Nat.le_of_ble_eq_true rfl) (idf_c rfl) ?_
  ((conv => whnf); (repeat (refine ⟨Nat.le_of_ble_eq_true rfl, ?_⟩; (conv => whnf))))
  refine call_pure (valid_spec p) rfl rfl rfl ?_
  (conv => whnf)
  cases hp : p.okB
  · ((conv => whnf); (repeat (first | (refine ⟨fun _ => ?_, fun h => Bool.noConfusion h⟩; (conv => whnf)) | (refine ⟨fun h => Bool.noConfusion h, fun _ => ?_⟩; (conv => whnf)))))
    refine retPure_ret rfl ?_
    rw [side, hp]; rfl
  · ((conv => whnf); (repeat (first | (refine ⟨Nat.le_of_ble_eq_true rfl, ?_⟩; (conv => whnf)) | (refine ⟨fun _ => ?_, fun h => Bool.noConfusion h⟩; (conv => whnf)))))
    refine call_pure (in_spec v) rfl rfl rfl ?_
    ((conv => whnf); (repeat (first | (refine ⟨fun _ => ?_, fun h => Bool.noConfusion h⟩; (conv => whnf)) | (refine ⟨fun h => Bool.noConfusion h, fun _ => ?_⟩; (conv => whnf)))))
    cases hv : v.inB
    · ((conv => whnf); (repeat (refine ⟨fun _ => ?_, fun h => Bool.noConfusion h⟩; (conv => whnf))))
      refine retPure_ret rfl ?_
      rw [side, hp, hv]; rfl
    · ((conv => whnf); (repeat (first | (refine ⟨Nat.le_of_ble_eq_true rfl, ?_⟩; (conv => whnf)) | (refine ⟨fun h => Bool.noConfusion h, fun _ => ?_⟩; (conv => whnf)))))
      refine call_pure (dot_spec (a := p.n) ((okB_bd hp).1.mono (by omega)) ((inB_bd hv).mono (by omega))) rfl rfl rfl ?_
      ((conv => whnf); (repeat (refine ⟨Nat.le_of_ble_eq_true rfl, ?_⟩; (conv => whnf))))
      refine call_pure (order_spec _ _) rfl rfl rfl ?_
      ((conv => whnf); (repeat (refine ⟨(by kernel_rfl : chk _ _ = true), ?_⟩; (conv => whnf))))
      refine retPure_ret rfl ?_
      rw [side, hp, hv]; rfl

def cmpP (p q : Pl) : Int :=
  if ordI p.n.x q.n.x ≠ 0 then ordI p.n.x q.n.x else if ordI p.n.y q.n.y ≠ 0 then ordI p.n.y q.n.y else if ordI p.n.z q.n.z ≠ 0 then ordI p.n.z q.n.z else ordI p.b q.b
theorem compare_spec (p q : Pl) : Spec Tryz.prog gl 39 none [(true, p.cs), (true, q.cs)] (.c false [.i (cmpP p q)]) none := by
  refine spec_plain A39_comp Tryz.func39 Tryz.call39 fol Tryz.ntmps39 Tryz.results39 (argsB_spec rfl) (Nat.le_of_ble_eq_true rfl) (idf_c rfl) ?_
  ((conv => whnf); (repeat (first | (refine ⟨rfl, ?_⟩; (conv => whnf)) | (refine ⟨Nat.le_of_ble_eq_true rfl, ?_⟩; (conv => whnf)))))
  refine W_loop (fun i : Nat => i ≤ 4 ∧ (1 ≤ i → ordI p.n.x q.n.x = 0) ∧ (2 ≤ i → ordI p.n.y q.n.y = 0) ∧ (3 ≤ i → ordI p.n.z q.n.z = 0) ∧ (4 ≤ i → ordI p.b q.b = 0))
    (fun i => mk [(34, .c false [.own 31 4]), (35, .c false [.i 4]), (36, .c false [.i i]), (5, .c false [.i 0])] [(31, .row 2 [[.i p.n.x, .i q.n.x], [.i p.n.y, .i q.n.y], [.i p.n.z, .i q.n.z], [.i p.b, .i q.b]])] 100)
    (fun i => 4 - i) 0 ⟨by omega, by omega, by omega, by omega, by omega⟩ (.to ⟨rfl, rfl, rfl, rfl, trivial⟩ ⟨rfl, trivial⟩ rfl rfl) ?_
  rintro i ⟨hi, h1, h2, h3, h4⟩
  have hcase : i = 0 ∨ i = 1 ∨ i = 2 ∨ i = 3 ∨ i = 4 := by omega
  rcases hcase with rfl | rfl | rfl | rfl | rfl
  · ((conv => whnf); (repeat (first | (refine ⟨rfl, ?_⟩; (conv => whnf)) | (refine ⟨Nat.le_of_ble_eq_true rfl, ?_⟩; (conv => whnf)) | (refine ⟨⟨of_decide_eq_true rfl, of_decide_eq_true rfl⟩, ?_⟩; (conv => whnf)) | (refine ⟨fun _ => ?_, fun h => Bool.noConfusion h⟩; (conv => whnf)))))
    refine call_pure (order_spec _ _) rfl rfl rfl ?_
    ((conv => whnf); (repeat (refine ⟨rfl, ?_⟩; (conv => whnf))))
    cases hz : (ordI p.n.x q.n.x == 0)
    · have hz' : ordI p.n.x q.n.x ≠ 0 := by simpa using hz
      ((conv => whnf); (repeat (refine ⟨fun h => Bool.noConfusion h, fun _ => ?_⟩; (conv => whnf))))
      refine retPure_ret rfl ?_
      exact eq1 (by simp [cmpP, hz'])
    · have hz' : ordI p.n.x q.n.x = 0 := by simpa using hz
      ((conv => whnf); (repeat (first | (refine ⟨rfl, ?_⟩; (conv => whnf)) | (refine ⟨fun _ => ?_, fun h => Bool.noConfusion h⟩; (conv => whnf)))))
      refine ⟨1, ⟨by omega, fun _ => hz', fun h => absurd h (by omega), fun h => absurd h (by omega), fun h => absurd h (by omega)⟩, by omega, .to ⟨rfl, rfl, rfl, eq1 ?_, trivial⟩ ⟨rfl, trivial⟩ rfl rfl⟩
      simpa using hz'
  · ((conv => whnf); (repeat (first | (refine ⟨rfl, ?_⟩; (conv => whnf)) | (refine ⟨Nat.le_of_ble_eq_true rfl, ?_⟩; (conv => whnf)) | (refine ⟨⟨of_decide_eq_true rfl, of_decide_eq_true rfl⟩, ?_⟩; (conv => whnf)) | (refine ⟨fun _ => ?_, fun h => Bool.noConfusion h⟩; (conv => whnf)))))
    refine call_pure (order_spec _ _) rfl rfl rfl ?_
    ((conv => whnf); (repeat (refine ⟨rfl, ?_⟩; (conv => whnf))))
    cases hz : (ordI p.n.y q.n.y == 0)
    · have hz' : ordI p.n.y q.n.y ≠ 0 := by simpa using hz
      ((conv => whnf); (repeat (refine ⟨fun h => Bool.noConfusion h, fun _ => ?_⟩; (conv => whnf))))
      refine retPure_ret rfl ?_
      exact eq1 (by simp [cmpP, h1 (by omega), hz'])
    · have hz' : ordI p.n.y q.n.y = 0 := by simpa using hz
      ((conv => whnf); (repeat (first | (refine ⟨rfl, ?_⟩; (conv => whnf)) | (refine ⟨fun _ => ?_, fun h => Bool.noConfusion h⟩; (conv => whnf)))))
      refine ⟨2, ⟨by omega, fun _ => h1 (by omega), fun _ => hz', fun h => absurd h (by omega), fun h => absurd h (by omega)⟩, by omega, .to ⟨rfl, rfl, rfl, eq1 ?_, trivial⟩ ⟨rfl, trivial⟩ rfl rfl⟩
      simpa using hz'
  · ((conv => whnf); (repeat (first | (refine ⟨rfl, ?_⟩; (conv => whnf)) | (refine ⟨Nat.le_of_ble_eq_true rfl, ?_⟩; (conv => whnf)) | (refine ⟨⟨of_decide_eq_true rfl, of_decide_eq_true rfl⟩, ?_⟩; (conv => whnf)) | (refine ⟨fun _ => ?_, fun h => Bool.noConfusion h⟩; (conv => whnf)))))
    refine call_pure (order_spec _ _) rfl rfl rfl ?_
    ((conv => whnf); (repeat (refine ⟨rfl, ?_⟩; (conv => whnf))))
    cases hz : (ordI p.n.z q.n.z == 0)
    · have hz' : ordI p.n.z q.n.z ≠ 0 := by simpa using hz
      ((conv => whnf); (repeat (refine ⟨fun h => Bool.noConfusion h, fun _ => ?_⟩; (conv => whnf))))
      refine retPure_ret rfl ?_
      exact eq1 (by simp [cmpP, h1 (by omega), h2 (by omega), hz'])
    · have hz' : ordI p.n.z q.n.z = 0 := by simpa using hz
      ((conv => whnf); (repeat (first | (refine ⟨rfl, ?_⟩; (conv => whnf)) | (refine ⟨fun _ => ?_, fun h => Bool.noConfusion h⟩; (conv => whnf)))))
      refine ⟨3, ⟨by omega, fun _ => h1 (by omega), fun _ => h2 (by omega), fun _ => hz', fun h => absurd h (by omega)⟩, by omega, .to ⟨rfl, rfl, rfl, eq1 ?_, trivial⟩ ⟨rfl, trivial⟩ rfl rfl⟩
      simpa using hz'
  · ((conv => whnf); (repeat (first | (refine ⟨rfl, ?_⟩; (conv => whnf)) | (refine ⟨Nat.le_of_ble_eq_true rfl, ?_⟩; (conv => whnf)) | (refine ⟨⟨of_decide_eq_true rfl, of_decide_eq_true rfl⟩, ?_⟩; (conv => whnf)) | (refine ⟨fun _ => ?_, fun h => Bool.noConfusion h⟩; (conv => whnf)))))
    refine call_pure (order_spec _ _) rfl rfl rfl ?_
    ((conv => whnf); (repeat (refine ⟨rfl, ?_⟩; (conv => whnf))))
    cases hz : (ordI p.b q.b == 0)
    · have hz' : ordI p.b q.b ≠ 0 := by simpa using hz
      ((conv => whnf); (repeat (refine ⟨fun h => Bool.noConfusion h, fun _ => ?_⟩; (conv => whnf))))
      refine retPure_ret rfl ?_
      exact eq1 (by simp [cmpP, h1 (by omega), h2 (by omega), h3 (by omega), hz'])
    · have hz' : ordI p.b q.b = 0 := by simpa using hz
      ((conv => whnf); (repeat (first | (refine ⟨rfl, ?_⟩; (conv => whnf)) | (refine ⟨fun _ => ?_, fun h => Bool.noConfusion h⟩; (conv => whnf)))))
      refine ⟨4, ⟨by omega, fun _ => h1 (by omega), fun _ => h2 (by omega), fun _ => h3 (by omega), fun _ => hz'⟩, by omega, .to ⟨rfl, rfl, rfl, eq1 ?_, trivial⟩ ⟨rfl, trivial⟩ rfl rfl⟩
      simpa using hz'
  · ((conv => whnf); (repeat (first | (refine ⟨rfl, ?_⟩; (conv => whnf)) | (refine ⟨fun h => Bool.noConfusion h, fun _ => ?_⟩; (conv => whnf)))))
    refine retPure_ret rfl ?_
    exact eq1 (by simp [cmpP, h1, h2, h3, h4])
end Go.Proofs.YtlbafapmhjfobaaGreatDoor
namespace Go.Proofs.YtlbafapmhjfobaaGreatDoor
set_option maxRecDepth 100000
attribute [local irreducible] LoopW RngW retPure retFresh retBox retTurn
variable {gl : Nat → Option (List AV)}

abbrev vcs (xs : List V3) : List (List AV) := xs.map V3.cs
abbrev pcs (xs : List Pl) : List (List AV) := xs.map Pl.cs
def idxI {α : Type} (p : α → Bool) (xs : List α) : Int := match xs.findIdx? p with | some i => i | none => -1
/-- a function value that is a test -/
def Test {α : Type} (gl : Nat → Option (List AV)) (enc : α → List AV) (p : α → Bool) (f : Nat) (caps : List AV) (xs : List α) : Prop :=
  caps.all AV.pers = true ∧ ∀ x ∈ xs, Spec Tryz.prog gl f none ([(true, enc x)] ++ caps.map fun c => (false, [c])) (.c false [.b (p x)]) none

theorem persB_caps {caps : List AV} (h : caps.all AV.pers = true) : persB (caps.map fun c => (false, [c])) = true := by
  simp only [persB, List.all_map]
  simpa [Function.comp_def] using h
theorem svs_caps (caps : List AV) : svs (caps.map fun c => (false, [c])) = caps.map fun c => SV.c false [c] := by simp [svs, Function.comp_def]
/-- the call of a test -/
theorem call_test {hv : Nat → Option HE} {j f : Nat} {vs : List SV} {K : SV → List (Nat × Option HE) → Prop} {α : Type} {enc : α → List AV} {p : α → Bool} {caps : List AV} {xs : List α} {x : α} (h : Test gl enc p f caps xs) (hx : x ∈ xs)
    (hp : (enc x).all AV.pers = true) (hvs : vs = [.c true (enc x)] ++ caps.map fun c => SV.c false [c]) (hk : K (.c false [.b (p x)]) []) : CallS Tryz.prog gl hv j f vs K := by
  refine call_pure (h.2 x hx) ?_ ?_ rfl hk
  · rw [hvs]; simp [svs, Function.comp_def]
  · simp only [persB, List.all_append, Bool.and_eq_true]
    exact ⟨by simpa using hp, persB_caps h.1⟩

theorem take_find {α : Type} {p : α → Bool} {xs : List α} {i : Nat} (hi : i < xs.length) (h : (xs.take i).any p = false) (hp : p xs[i] = true) : xs.findIdx? p = some i := by
  rw [List.findIdx?_eq_some_iff_getElem]
  refine ⟨hi, hp, fun j hj => ?_⟩
  have := List.any_eq_false.1 h xs[j] (by rw [List.mem_take_iff_getElem]; exact ⟨j, by omega, rfl⟩)
  simpa using this
theorem all_find {α : Type} {p : α → Bool} {xs : List α} (h : xs.any p = false) : xs.findIdx? p = none := by
  rw [List.findIdx?_eq_none_iff]
  intro x hx
  have := List.any_eq_false.1 h x hx
  simpa using this
theorem any_snoc {α : Type} {p : α → Bool} {xs : List α} {i : Nat} (hi : i < xs.length) (h : (xs.take i).any p = false) (hp : p xs[i] = false) : (xs.take (i + 1)).any p = false := by
  rw [List.take_add_one, List.getElem?_eq_getElem hi]
  rw [List.any_append, h]
  simpa using hp
theorem idx_nonneg {α : Type} (p : α → Bool) (xs : List α) : decide (0 ≤ idxI p xs) = xs.any p := by
  unfold idxI
  cases h : xs.findIdx? p with
  | none =>
    have : xs.any p = false := by
      rw [List.any_eq_false]
      intro x hx
      simpa using List.findIdx?_eq_none_iff.1 h x hx
    rw [this]; rfl
  | some i =>
    obtain ⟨hi, hp, _⟩ := List.findIdx?_eq_some_iff_getElem.1 h
    have : xs.any p = true := List.any_eq_true.2 ⟨xs[i], by simp, hp⟩
    rw [this]
    simp

theorem indexV_spec {f : Nat} {caps : List AV} {p : V3 → Bool} {xs : List V3} (hx : xs.length ≤ 1000000) (ht : Test gl V3.cs p f caps xs) :
    Spec Tryz.prog gl 87 none [(false, [.li 3 (vcs xs)]), (false, [.fn f [] caps])] (.c false [.i (idxI p xs)]) none := by
  refine spec_plain A87_comp Tryz.func87 Tryz.call87 fol Tryz.ntmps87 Tryz.results87 (argsB_spec rfl) (Nat.le_of_ble_eq_true rfl) (idf_c rfl) ?_
  (conv => whnf)
  refine W_loop (fun i : Nat => i ≤ xs.length ∧ (xs.take i).any p = false)
    (fun i => mk [(0, .c false [.li 3 (vcs xs)]), (1, .c false [.fn f [] caps]), (7, .c false [.i (vcs xs).length]), (8, .c false [.i i])] [] 100)
    (fun i => xs.length - i) 0 ⟨by simp, by simp⟩ (.to ⟨rfl, rfl, rfl, rfl, trivial⟩ trivial rfl rfl) ?_
  rintro i ⟨hi, hall⟩
  ((conv => whnf); (repeat (refine ⟨rfl, ?_⟩; (conv => whnf))))
  refine ⟨fun hlt => ?_, fun hge => ?_⟩
  · have hlt' : i < xs.length := by simpa using hlt
    ((conv => whnf); (repeat (refine ⟨rfl, ?_⟩; (conv => whnf))))
    refine ⟨⟨by omega, by simpa using hlt'⟩, ?_⟩
    have e : (vcs xs).getD (i : Int).toNat [] = (xs[i]).cs := by simp [hlt']
    rw [e]; ((conv => whnf); (repeat (refine ⟨Nat.le_of_ble_eq_true rfl, ?_⟩; (conv => whnf))))
    refine call_test ht (x := xs[i]) (by simp) rfl rfl ?_
    (conv => whnf)
    cases hp : p xs[i]
    · ((conv => whnf); (repeat (first | (refine ⟨rfl, ?_⟩; (conv => whnf)) | (refine ⟨fun h => Bool.noConfusion h, fun _ => ?_⟩; (conv => whnf)))))
      refine ⟨i + 1, ⟨hlt', any_snoc hlt' hall hp⟩, by omega, .to ⟨rfl, rfl, rfl, eq1 (by rw [wr (by omega)]; omega), trivial⟩ trivial rfl rfl⟩
    · ((conv => whnf); (repeat (refine ⟨fun _ => ?_, fun h => Bool.noConfusion h⟩; (conv => whnf))))
      refine retPure_ret rfl ?_
      exact eq1 (by rw [idxI, take_find hlt' hall hp])
  · have hi' : i = xs.length := by have : ¬ i < xs.length := by simpa using hge
                                   omega
    (conv => whnf)
    refine retPure_ret rfl ?_
    subst hi'
    rw [List.take_length] at hall
    exact eq1 (by rw [idxI, all_find hall])
theorem indexP_spec {f : Nat} {caps : List AV} {p : Pl → Bool} {xs : List Pl} (hx : xs.length ≤ 1000000) (ht : Test gl Pl.cs p f caps xs) :
    Spec Tryz.prog gl 112 none [(false, [.li 4 (pcs xs)]), (false, [.fn f [] caps])] (.c false [.i (idxI p xs)]) none := by
  refine spec_plain A112_comp Tryz.func112 Tryz.call112 fol Tryz.ntmps112 Tryz.results112 (argsB_spec rfl) (Nat.le_of_ble_eq_true rfl) (idf_c rfl) ?_
  (conv => whnf)
  refine W_loop (fun i : Nat => i ≤ xs.length ∧ (xs.take i).any p = false)
    (fun i => mk [(0, .c false [.li 4 (pcs xs)]), (1, .c false [.fn f [] caps]), (7, .c false [.i (pcs xs).length]), (8, .c false [.i i])] [] 100)
    (fun i => xs.length - i) 0 ⟨by simp, by simp⟩ (.to ⟨rfl, rfl, rfl, rfl, trivial⟩ trivial rfl rfl) ?_
  rintro i ⟨hi, hall⟩
  ((conv => whnf); (repeat (refine ⟨rfl, ?_⟩; (conv => whnf))))
  refine ⟨fun hlt => ?_, fun hge => ?_⟩
  · have hlt' : i < xs.length := by simpa using hlt
    ((conv => whnf); (repeat (refine ⟨rfl, ?_⟩; (conv => whnf))))
    refine ⟨⟨by omega, by simpa using hlt'⟩, ?_⟩
    have e : (pcs xs).getD (i : Int).toNat [] = (xs[i]).cs := by simp [hlt']
    rw [e]; ((conv => whnf); (repeat (refine ⟨Nat.le_of_ble_eq_true rfl, ?_⟩; (conv => whnf))))
    refine call_test ht (x := xs[i]) (by simp) rfl rfl ?_
    (conv => whnf)
    cases hp : p xs[i]
    · ((conv => whnf); (repeat (first | (refine ⟨rfl, ?_⟩; (conv => whnf)) | (refine ⟨fun h => Bool.noConfusion h, fun _ => ?_⟩; (conv => whnf)))))
      refine ⟨i + 1, ⟨hlt', any_snoc hlt' hall hp⟩, by omega, .to ⟨rfl, rfl, rfl, eq1 (by rw [wr (by omega)]; omega), trivial⟩ trivial rfl rfl⟩
    · ((conv => whnf); (repeat (refine ⟨fun _ => ?_, fun h => Bool.noConfusion h⟩; (conv => whnf))))
      refine retPure_ret rfl ?_
      exact eq1 (by rw [idxI, take_find hlt' hall hp])
  · have hi' : i = xs.length := by have : ¬ i < xs.length := by simpa using hge
                                   omega
    (conv => whnf)
    refine retPure_ret rfl ?_
    subst hi'
    rw [List.take_length] at hall
    exact eq1 (by rw [idxI, all_find hall])

theorem containsV_spec {f : Nat} {caps : List AV} {p : V3 → Bool} {xs : List V3} (hx : xs.length ≤ 1000000) (ht : Test gl V3.cs p f caps xs) :
    Spec Tryz.prog gl 71 none [(false, [.li 3 (vcs xs)]), (false, [.fn f [] caps])] (.c false [.b (xs.any p)]) none := by
  refine spec_plain A71_comp Tryz.func71 Tryz.call71 fol Tryz.ntmps71 Tryz.results71 (argsB_spec rfl) (Nat.le_of_ble_eq_true rfl) (idf_c rfl) ?_
  (conv => whnf)
  refine call_pure (indexV_spec hx ht) rfl rfl rfl ?_
  ((conv => whnf); (repeat (refine ⟨rfl, ?_⟩; (conv => whnf))))
  refine retPure_ret rfl ?_
  exact eqb (idx_nonneg p xs)
theorem containsP_spec {f : Nat} {caps : List AV} {p : Pl → Bool} {xs : List Pl} (hx : xs.length ≤ 1000000) (ht : Test gl Pl.cs p f caps xs) :
    Spec Tryz.prog gl 85 none [(false, [.li 4 (pcs xs)]), (false, [.fn f [] caps])] (.c false [.b (xs.any p)]) none := by
  refine spec_plain A85_comp Tryz.func85 Tryz.call85 fol Tryz.ntmps85 Tryz.results85 (argsB_spec rfl) (Nat.le_of_ble_eq_true rfl) (idf_c rfl) ?_
  (conv => whnf)
  refine call_pure (indexP_spec hx ht) rfl rfl rfl ?_
  ((conv => whnf); (repeat (refine ⟨rfl, ?_⟩; (conv => whnf))))
  refine retPure_ret rfl ?_
  exact eqb (idx_nonneg p xs)
end Go.Proofs.YtlbafapmhjfobaaGreatDoor
namespace Go.Proofs.YtlbafapmhjfobaaGreatDoor
set_option maxRecDepth 100000
attribute [local irreducible] LoopW RngW retPure retFresh retBox retTurn
variable {gl : Nat → Option (List AV)}

theorem isNaN_spec (a : Int) : Spec Tryz.prog gl 123 none [(false, [.i a])] (.c false [.b false]) none := by
  refine spec_plain A123_comp Tryz.func123 Tryz.call123 fol Tryz.ntmps123 Tryz.results123 (argsB_spec rfl) (Nat.le_of_ble_eq_true rfl) (idf_c rfl) ?_
  ((conv => whnf); (repeat (refine ⟨rfl, ?_⟩; (conv => whnf))))
  refine retPure_ret rfl ?_
  exact eqb (by simp)
theorem cmpI_spec (a b : Int) : Spec Tryz.prog gl 100 none [(false, [.i a]), (false, [.i b])] (.c false [.i (ordI a b)]) none := by
  refine spec_plain A100_comp Tryz.func100 Tryz.call100 fol Tryz.ntmps100 Tryz.results100 (argsB_spec rfl) (Nat.le_of_ble_eq_true rfl) (idf_c rfl) ?_
  (conv => whnf)
  refine call_pure (isNaN_spec a) rfl rfl rfl ?_
  (conv => whnf)
  refine call_pure (isNaN_spec b) rfl rfl rfl ?_
  ((conv => whnf); (repeat (first | (refine ⟨rfl, ?_⟩; (conv => whnf)) | (refine ⟨fun h => Bool.noConfusion h, fun _ => ?_⟩; (conv => whnf)))))
  refine ⟨fun h1 => ?_, fun h1 => ?_⟩
  · (conv => whnf)
    refine retPure_ret rfl ?_
    exact eq1 (by simp at h1; simp [ordI, h1])
  · ((conv => whnf); (repeat (refine ⟨rfl, ?_⟩; (conv => whnf))))
    refine ⟨fun h2 => ?_, fun h2 => ?_⟩
    · (conv => whnf)
      refine retPure_ret rfl ?_
      exact eq1 (by simp at h1 h2; simp [ordI, h2]; omega)
    · (conv => whnf)
      refine retPure_ret rfl ?_
      exact eq1 (by simp at h1 h2; simp [ordI]; omega)

def orL : List Int → Int
  | [] => 0
  | x :: r => if x = 0 then orL r else x
theorem orL_at : ∀ (xs : List Int) (i : Nat) (hi : i < xs.length), (∀ x ∈ xs.take i, x = 0) → xs[i] ≠ 0 → orL xs = xs[i]
  | x :: r, 0, _, _, h => by simp only [List.getElem_cons_zero] at h ⊢; simp [orL, h]
  | x :: r, i + 1, hi, h0, h => by
    simp only [List.length_cons] at hi
    simp only [List.getElem_cons_succ] at h ⊢
    have hx : x = 0 := h0 x (by simp)
    simp only [orL, hx, if_true]
    exact orL_at r i (by omega) (fun y hy => h0 y (by simp [hy])) h
theorem orL_all : ∀ (xs : List Int), (∀ x ∈ xs, x = 0) → orL xs = 0
  | [], _ => rfl
  | x :: r, h => by
    have hx : x = 0 := h x (by simp)
    simp only [orL, hx, if_true]
    exact orL_all r fun y hy => h y (by simp [hy])
theorem or_spec {xs : List Int} (hx : xs.length ≤ 1000000) : Spec Tryz.prog gl 99 none [(false, [.li 1 (ics xs)])] (.c false [.i (orL xs)]) none := by
  refine spec_plain A99_comp Tryz.func99 Tryz.call99 fol Tryz.ntmps99 Tryz.results99 (argsB_spec rfl) (Nat.le_of_ble_eq_true rfl) (idf_c rfl) ?_
  (conv => whnf)
  refine W_loop (fun i : Nat => i ≤ xs.length ∧ ∀ x ∈ xs.take i, x = 0)
    (fun i => mk [(3, .c false [.i 0]), (6, .c false [.li 1 (ics xs)]), (7, .c false [.i (ics xs).length]), (8, .c false [.i i])] [] 100)
    (fun i => xs.length - i) 0 ⟨by simp, by simp⟩ (.to ⟨rfl, rfl, rfl, rfl, trivial⟩ trivial rfl rfl) ?_
  rintro i ⟨hi, hall⟩
  ((conv => whnf); (repeat (refine ⟨rfl, ?_⟩; (conv => whnf))))
  refine ⟨fun hlt => ?_, fun hge => ?_⟩
  · have hlt' : i < xs.length := by simpa using hlt
    ((conv => whnf); (repeat (refine ⟨rfl, ?_⟩; (conv => whnf))))
    refine ⟨⟨by omega, by simpa using hlt'⟩, ?_⟩
    have e : (ics xs).getD (i : Int).toNat [] = [.i xs[i]] := by simp [hlt']
    rw [e]; ((conv => whnf); (repeat (first | (refine ⟨rfl, ?_⟩; (conv => whnf)) | (refine ⟨Nat.le_of_ble_eq_true rfl, ?_⟩; (conv => whnf)))))
    refine ⟨fun h0 => ?_, fun h0 => ?_⟩
    · have h0' : xs[i] ≠ 0 := by simpa using h0
      (conv => whnf)
      refine retPure_ret rfl ?_
      exact eq1 (orL_at xs i hlt' hall h0').symm
    · have h0' : xs[i] = 0 := by simpa using h0
      ((conv => whnf); (repeat (refine ⟨rfl, ?_⟩; (conv => whnf))))
      refine ⟨i + 1, ⟨hlt', ?_⟩, by omega, .to ⟨rfl, rfl, rfl, eq1 (by rw [wr (by omega)]; omega), trivial⟩ trivial rfl rfl⟩
      rw [List.take_add_one, List.getElem?_eq_getElem hlt']
      intro x hx
      rcases List.mem_append.1 hx with hx | hx
      · exact hall x hx
      · simp at hx; rw [hx]; exact h0'
  · have hi' : i = xs.length := by have : ¬ i < xs.length := by simpa using hge
                                   omega
    (conv => whnf)
    refine retPure_ret rfl ?_
    subst hi'
    rw [List.take_length] at hall
    exact eq1 (orL_all xs hall).symm

def cmpV (a b : V3) : Int := orL [ordI a.x b.x, ordI a.y b.y, ordI a.z b.z]
theorem cmpV_spec (a b : V3) : Spec Tryz.prog gl 75 none [(true, a.cs), (true, b.cs)] (.c false [.i (cmpV a b)]) none := by
  refine spec_plain A75_comp Tryz.func75 Tryz.call75 fol Tryz.ntmps75 Tryz.results75 (argsB_spec rfl) (Nat.le_of_ble_eq_true rfl) (idf_c rfl) ?_
  ((conv => whnf); (repeat (refine ⟨Nat.le_of_ble_eq_true rfl, ?_⟩; (conv => whnf))))
  refine call_pure (cmpI_spec _ _) rfl rfl rfl ?_
  ((conv => whnf); (repeat (refine ⟨Nat.le_of_ble_eq_true rfl, ?_⟩; (conv => whnf))))
  refine call_pure (cmpI_spec _ _) rfl rfl rfl ?_
  ((conv => whnf); (repeat (refine ⟨Nat.le_of_ble_eq_true rfl, ?_⟩; (conv => whnf))))
  refine call_pure (cmpI_spec _ _) rfl rfl rfl ?_
  (conv => whnf)
  refine call_lend (or_spec (xs := [ordI a.x b.x, ordI a.y b.y, ordI a.z b.z]) (Nat.le_of_ble_eq_true rfl)) (lend0 rfl rfl) v1 ?_
  ((conv => whnf); (repeat (refine ⟨(by kernel_rfl : chk _ _ = true), ?_⟩; (conv => whnf))))
  exact retPure_ret rfl rfl

/-- a point lies beyond a plane -/
theorem beyond1_spec (p : Pl) (v : V3) : Spec Tryz.prog gl 80 none [(true, v.cs), (false, [.ref p.cs])] (.c false [.b (decide (0 < side p v))]) none := by
  refine spec_plain A80_comp Tryz.func80 Tryz.call80 fol Tryz.ntmps80 Tryz.results80 (argsB_spec rfl) (Nat.le_of_ble_eq_true rfl) (idf_c rfl) ?_
  ((conv => whnf); (repeat (refine ⟨Nat.le_of_ble_eq_true rfl, ?_⟩; (conv => whnf))))
  refine call_pure (side_spec p v) rfl rfl rfl ?_
  ((conv => whnf); (repeat (refine ⟨rfl, ?_⟩; (conv => whnf))))
  exact retPure_ret rfl rfl
theorem flat1_spec (p : Pl) (v : V3) : Spec Tryz.prog gl 97 none [(true, v.cs), (false, [.ref p.cs])] (.c false [.b (side p v != 0)]) none := by
  refine spec_plain A97_comp Tryz.func97 Tryz.call97 fol Tryz.ntmps97 Tryz.results97 (argsB_spec rfl) (Nat.le_of_ble_eq_true rfl) (idf_c rfl) ?_
  ((conv => whnf); (repeat (refine ⟨Nat.le_of_ble_eq_true rfl, ?_⟩; (conv => whnf))))
  refine call_pure (side_spec p v) rfl rfl rfl ?_
  ((conv => whnf); (repeat (refine ⟨rfl, ?_⟩; (conv => whnf))))
  exact retPure_ret rfl rfl
theorem check1_spec (v : V3) : Spec Tryz.prog gl 70 none [(true, v.cs)] (.c false [.b (!v.inB)]) none := by
  refine spec_plain A70_comp Tryz.func70 Tryz.call70 fol Tryz.ntmps70 Tryz.results70 (argsB_spec rfl) (Nat.le_of_ble_eq_true rfl) (idf_c rfl) ?_
  ((conv => whnf); (repeat (refine ⟨Nat.le_of_ble_eq_true rfl, ?_⟩; (conv => whnf))))
  refine call_pure (in_spec v) rfl rfl rfl ?_
  (conv => whnf)
  exact retPure_ret rfl rfl
theorem vertex1_spec {n : V3} {p : Pl} (hn : n.bd 1073741824) (hp : p.n.bd 1073741824) : Spec Tryz.prog gl 86 none [(true, p.cs), (false, [.ref n.cs])] (.c false [.b (n.dot p.n != 0)]) none := by
  refine spec_plain A86_comp Tryz.func86 Tryz.call86 fol Tryz.ntmps86 Tryz.results86 (argsB_spec rfl) (Nat.le_of_ble_eq_true rfl) (idf_c rfl) ?_
  ((conv => whnf); (repeat (refine ⟨Nat.le_of_ble_eq_true rfl, ?_⟩; (conv => whnf))))
  refine call_pure (dot_spec hn hp) rfl rfl rfl ?_
  ((conv => whnf); (repeat (refine ⟨rfl, ?_⟩; (conv => whnf))))
  exact retPure_ret rfl rfl

/-- a box of ours is looked at as frozen -/
theorem coeF.ref0 {hp : Nat → Option HE} {D : Nat → Prop} {b : Nat} {cs : List AV} (hD : D b) (hb : hp b = some (.box cs)) (h : cs.all AV.pers = true) : coeFS hp D (.c false [.ptr b 0]) (.c false [.ref cs]) :=
  ⟨rfl, .inr (.inr (.inr (.inr (.inl ⟨b, 0, cs, rfl, rfl, hD, hb, fun c hc => List.all_eq_true.1 h c hc⟩)))), trivial⟩
def beyond (xs : List V3) (p : Pl) : Bool := xs.any fun v => decide (0 < side p v)
theorem beyond_spec {xs : List V3} (hx : xs.length ≤ 1000000) (p : Pl) : Spec Tryz.prog gl 37 none [(false, [.li 3 (vcs xs)]), (true, p.cs)] (.c false [.b (beyond xs p)]) none := by
  refine spec_plain A37_comp Tryz.func37 Tryz.call37 fol Tryz.ntmps37 Tryz.results37 (argsB_spec rfl) (Nat.le_of_ble_eq_true rfl) (idf_c rfl) ?_
  (conv => whnf)
  refine ⟨mk [(0, .c false [.li 3 (vcs xs)]), (3, .c false [.ref p.cs])] [] 100, .toF (fun b => b = 1) ⟨coeFS.refl _, coeF.ref0 rfl rfl rfl, trivial⟩ trivial rfl rfl, ?_⟩
  (conv => whnf)
  refine call_pure (containsV_spec (p := fun v => decide (0 < side p v)) hx ⟨rfl, fun v _ => beyond1_spec p v⟩) rfl rfl rfl ?_
  (conv => whnf)
  exact retPure_ret rfl rfl
end Go.Proofs.YtlbafapmhjfobaaGreatDoor
namespace Go.Proofs.YtlbafapmhjfobaaGreatDoor
set_option maxRecDepth 100000
attribute [local irreducible] LoopW RngW retPure retFresh retBox retTurn
variable {gl : Nat → Option (List AV)}

def vx (own : List Pl) (p q : Pl) : Bool := (p.n.cross q.n != ⟨0, 0, 0⟩) && own.any fun r => (p.n.cross q.n).dot r.n != 0
def vertexB (own : List Pl) : Bool := (List.range own.length).any fun i => match own[i]? with | some p => (own.take i).any (vx own p) | none => false
theorem eqv3 (n : V3) : (!eqVs [.int .i64 n.x, .int .i64 n.y, .int .i64 n.z] [.int .i64 0, .int .i64 0, .int .i64 0]) = (n != ⟨0, 0, 0⟩) := by
  rw [Bool.eq_iff_iff]
  cases n
  simp [eqVs, bne_iff_ne]
  omega
theorem vertex_spec {own : List Pl} (hl : own.length ≤ 1000000) (hb : ∀ p ∈ own, p.n.bd 4608) : Spec Tryz.prog gl 44 none [(false, [.li 4 (pcs own)])] (.c false [.b (vertexB own)]) none := by
  refine spec_plain A44_comp Tryz.func44 Tryz.call44 fol Tryz.ntmps44 Tryz.results44 (argsB_spec rfl) (Nat.le_of_ble_eq_true rfl) (idf_c rfl) ?_
  (conv => whnf)
  refine W_loop (fun i : Nat => i ≤ own.length ∧ ∀ m, m < i → ∀ p, own[m]? = some p → (own.take m).any (vx own p) = false)
    (fun i => mk [(0, .c false [.li 4 (pcs own)]), (8, .c false [.li 4 (pcs own)]), (9, .c false [.i (pcs own).length]), (10, .c false [.i i])] [] 100)
    (fun i => own.length - i) 0 ⟨by simp, by simp⟩ (.to ⟨rfl, rfl, rfl, rfl, trivial⟩ trivial rfl rfl) ?_
  rintro i ⟨hi, hall⟩
  ((conv => whnf); (repeat (refine ⟨rfl, ?_⟩; (conv => whnf))))
  refine ⟨fun hlt => ?_, fun hge => ?_⟩
  · have hlt' : i < own.length := by simpa using hlt
    ((conv => whnf); (repeat (refine ⟨rfl, ?_⟩; (conv => whnf))))
    refine ⟨⟨by omega, by simpa using hlt'⟩, ?_⟩
    have e : (pcs own).getD (i : Int).toNat [] = (own[i]).cs := by simp [hlt']
    obtain ⟨p, hp⟩ : ∃ p, p = own[i] := ⟨_, rfl⟩
    have hpb := hb own[i] (by simp)
    rw [e, ← hp]
    rw [← hp] at hpb
    ((conv => whnf); (repeat (first | (refine ⟨rfl, ?_⟩; (conv => whnf)) | (refine ⟨Nat.le_of_ble_eq_true rfl, ?_⟩; (conv => whnf)))))
    refine ⟨⟨Int.le_refl _, by omega, by simpa using hi⟩, ?_⟩
    have e2 : ((pcs own).take (i : Int).toNat).drop (0 : Int).toNat = pcs (own.take i) := by simp [List.map_take]
    rw [e2]
    (conv => whnf)
    refine W_loop (fun j : Nat => j ≤ (own.take i).length ∧ ((own.take i).take j).any (vx own p) = false)
      (fun j => mk [(0, .c false [.li 4 (pcs own)]), (8, .c false [.li 4 (pcs own)]), (9, .c false [.i (pcs own).length]), (10, .c false [.i i]), (4, .c false [.ptr 104 0]), (17, .c false [.li 4 (pcs (own.take i))]), (18, .c false [.i (pcs (own.take i)).length]), (19, .c false [.i j])] [(104, .box p.cs)] 200)
      (fun j => (own.take i).length - j) 0 ⟨by simp, by simp⟩ (.to ⟨rfl, rfl, rfl, rfl, rfl, rfl, rfl, rfl, trivial⟩ ⟨rfl, trivial⟩ rfl rfl) ?_
    rintro j ⟨hj, hall2⟩
    ((conv => whnf); (repeat (refine ⟨rfl, ?_⟩; (conv => whnf))))
    refine ⟨fun hjt => ?_, fun hje => ?_⟩
    · have hjt' : j < (own.take i).length := by simpa using hjt
      ((conv => whnf); (repeat (refine ⟨rfl, ?_⟩; (conv => whnf))))
      refine ⟨⟨by omega, by simpa using hjt'⟩, ?_⟩
      have e3 : (pcs (own.take i)).getD (j : Int).toNat [] = ((own.take i)[j]).cs := by rw [Int.toNat_natCast, List.getD_eq_getElem?_getD, List.getElem?_map, List.getElem?_eq_getElem hjt']; rfl
      obtain ⟨q, hq⟩ : ∃ q, q = (own.take i)[j] := ⟨_, rfl⟩
      have hqm : q ∈ own := by rw [hq]; exact List.mem_of_mem_take (List.getElem_mem _)
      have hqb := hb q hqm
      rw [e3, ← hq]
      ((conv => whnf); (repeat (first | (refine ⟨rfl, ?_⟩; (conv => whnf)) | (refine ⟨Nat.le_of_ble_eq_true rfl, ?_⟩; (conv => whnf)))))
      refine call_pure (cross_spec (a := p.n) (b := q.n) (hpb.mono (by omega)) (hqb.mono (by omega))) rfl rfl rfl ?_
      ((conv => whnf); (repeat (first | (refine ⟨rfl, ?_⟩; (conv => whnf)) | (refine ⟨Nat.le_of_ble_eq_true rfl, ?_⟩; (conv => whnf)))))
      have hcb := cross_bd hpb hqb
      refine ⟨mk [(0, .c false [.li 4 (pcs own)]), (8, .c false [.li 4 (pcs own)]), (9, .c false [.i (pcs own).length]), (10, .c false [.i i]), (4, .c false [.ptr 104 0]), (17, .c false [.li 4 (pcs (own.take i))]), (18, .c false [.i (pcs (own.take i)).length]), (19, .c false [.i j]), (7, .c false [.ref (p.n.cross q.n).cs])] [(104, .box p.cs)] 300,
        .toF (fun b => b = 210) ⟨coeFS.refl _, coeFS.refl _, coeFS.refl _, coeFS.refl _, coeFS.refl _, coeFS.refl _, coeFS.refl _, coeFS.refl _, coeF.ref0 rfl rfl rfl, trivial⟩ ⟨⟨by omega, _, rfl, coeF.refl _⟩, trivial⟩ rfl rfl, ?_⟩
      ((conv => whnf); (repeat (first | (refine ⟨rfl, ?_⟩; (conv => whnf)) | (refine ⟨Nat.le_of_ble_eq_true rfl, ?_⟩; (conv => whnf)))))
      refine ⟨fun hB => ?_, fun hB => ?_⟩
      · have hB2 : (p.n.cross q.n != ⟨0, 0, 0⟩) = true := (eqv3 _).symm.trans hB
        rw [hB]; ((conv => whnf); (repeat (refine ⟨fun _ => ?_, fun h => Bool.noConfusion h⟩; (conv => whnf))))
        refine call_pure (containsP_spec (p := fun r => (p.n.cross q.n).dot r.n != 0) hl ⟨rfl, fun r hr => vertex1_spec (hcb.mono (by omega)) ((hb r hr).mono (by omega))⟩) rfl rfl rfl ?_
        ((conv => whnf); (repeat (refine ⟨fun _ => ?_, fun h => Bool.noConfusion h⟩; (conv => whnf))))
        cases hany : own.any fun r => (p.n.cross q.n).dot r.n != 0
        · ((conv => whnf); (repeat (first | (refine ⟨rfl, ?_⟩; (conv => whnf)) | (refine ⟨fun h => Bool.noConfusion h, fun _ => ?_⟩; (conv => whnf)))))
          refine ⟨j + 1, ⟨hjt', any_snoc hjt' hall2 (by rw [← hq]; simp only [vx, hany, Bool.and_false])⟩, by omega, .to ⟨rfl, rfl, rfl, rfl, rfl, rfl, rfl, eq1 (by rw [wr (by simp at hjt'; omega)]; omega), trivial⟩ ⟨rfl, trivial⟩ rfl rfl⟩
        · ((conv => whnf); (repeat (refine ⟨fun _ => ?_, fun h => Bool.noConfusion h⟩; (conv => whnf))))
          refine retPure_ret rfl ?_
          refine eqb (Eq.symm ?_)
          refine List.any_eq_true.2 ⟨i, List.mem_range.2 hlt', ?_⟩
          rw [List.getElem?_eq_getElem hlt', ← hp]
          exact List.any_eq_true.2 ⟨q, by rw [hq]; exact List.getElem_mem _, by simp only [vx, hB2, hany, Bool.and_self]⟩
      · have hB2 : (p.n.cross q.n != ⟨0, 0, 0⟩) = false := (eqv3 _).symm.trans hB
        rw [hB]; ((conv => whnf); (repeat (first | (refine ⟨rfl, ?_⟩; (conv => whnf)) | (refine ⟨fun h => Bool.noConfusion h, fun _ => ?_⟩; (conv => whnf)))))
        refine ⟨j + 1, ⟨hjt', any_snoc hjt' hall2 (by rw [← hq]; simp only [vx, hB2, Bool.false_and])⟩, by omega, .to ⟨rfl, rfl, rfl, rfl, rfl, rfl, rfl, eq1 (by rw [wr (by simp at hjt'; omega)]; omega), trivial⟩ ⟨rfl, trivial⟩ rfl rfl⟩
    · have hje' : j = (own.take i).length := by have : ¬ j < (own.take i).length := by simpa using hje
                                                omega
      ((conv => whnf); (repeat (refine ⟨rfl, ?_⟩; (conv => whnf))))
      subst hje'
      rw [List.take_length] at hall2
      refine ⟨i + 1, ⟨hlt', ?_⟩, by omega, .to ⟨rfl, rfl, rfl, eq1 (by rw [wr (by omega)]; omega), trivial⟩ trivial rfl rfl⟩
      intro m hm r hr
      by_cases hmi : m = i
      · subst hmi
        rw [List.getElem?_eq_getElem hlt', ← hp] at hr
        cases hr
        exact hall2
      · exact hall m (by omega) r hr
  · have hi' : i = own.length := by have : ¬ i < own.length := by simpa using hge
                                    omega
    (conv => whnf)
    refine retPure_ret rfl ?_
    refine eqb (Eq.symm ?_)
    rw [vertexB, List.any_eq_false]
    intro m hm
    have hm := List.mem_range.1 hm
    rw [List.getElem?_eq_getElem hm]
    have := hall m (by omega) own[m] (List.getElem?_eq_getElem hm)
    simp only [this]
    simp
end Go.Proofs.YtlbafapmhjfobaaGreatDoor
namespace Go.Proofs.YtlbafapmhjfobaaGreatDoor
set_option maxRecDepth 100000
attribute [local irreducible] LoopW RngW retPure retFresh retBox retTurn
variable {gl : Nat → Option (List AV)}

theorem coeNS.refl {j : Nat} (s : SV) : coeNS j s s := by
  cases s with
  | top => trivial
  | c ag cs => exact ⟨rfl, F2.of_get rfl fun j x u h1 h2 => .inl (by rw [h1] at h2; cases h2; rfl)⟩
  | tup xs => rfl
theorem coeNH.refl {j : Nat} (h : Option HE) : coeNH j h h := by
  cases h with
  | none => rfl
  | some h => cases h with
    | box cs => exact F2.of_get rfl fun j x u h1 h2 => .inl (by rw [h1] at h2; cases h2; rfl)
    | _ => rfl
/-- a slot that holds nil holds a row of ours without elements -/
theorem Weak.nilslot (i k : Nat) {st : St} (h : st.sl i = .c false [.nil]) : Weak gl st ⟨upd st.sl i (.c false [.own st.nx 0]), upd st.hp st.nx (some (.row k [])), st.nx + 1⟩ := by
  refine .nilrow k (Nat.le_refl _) (fun m => ?_) (upd_same _ _ _) (fun b hb => by simp only [upd_ne _ _ hb]; exact coeNH.refl _)
  simp only [upd_apply]
  split
  · rename_i e; subst e; rw [h]; exact ⟨rfl, .inr ⟨rfl, rfl⟩, trivial⟩
  · exact coeNS.refl _
theorem own_inj {a b n m : Nat} (h : SV.c false [.own a n] = .c false [.own b m]) : a = b := by cases h; rfl

theorem okB_n {faces : List Pl} (h : ∀ p ∈ faces, p.okB = true) : ∀ p ∈ faces, p.n.bd 4608 := fun p hp => (okB_bd (h p hp)).1
theorem filter_snoc {α : Type} {t : α → Bool} {xs : List α} {i : Nat} (hi : i < xs.length) : (xs.take (i + 1)).filter t = (xs.take i).filter t ++ if t xs[i] then [xs[i]] else [] := by
  rw [List.take_add_one, List.getElem?_eq_getElem hi, List.filter_append]
  simp only [Option.toList]
  by_cases h : t xs[i] = true
  · simp [h]
  · simp [h]
def inner (faces : List Pl) (v : V3) : Bool := !vertexB (faces.filter fun p => side p v == 0)
theorem inner_spec {faces : List Pl} (hl : faces.length ≤ 1000000) (hb : ∀ p ∈ faces, p.n.bd 4608) (v : V3) : Spec Tryz.prog gl 42 none [(true, v.cs), (false, [.ref [.li 4 (pcs faces)]])] (.c false [.b (inner faces v)]) none := by
  refine spec_plain A42_comp Tryz.func42 Tryz.call42 fol Tryz.ntmps42 Tryz.results42 (argsB_spec rfl) (Nat.le_of_ble_eq_true rfl) (idf_c rfl) ?_
  ((conv => whnf); (repeat (refine ⟨Nat.le_of_ble_eq_true rfl, ?_⟩; (conv => whnf))))
  refine W_loop (fun i : Nat => i ≤ faces.length)
    (fun i => mk [(1, .c false [.ref [.li 4 (pcs faces)]]), (2, .c false [.ptr 1 0]), (4, .c false [.own 7 (pcs ((faces.take i).filter fun p => side p v == 0)).length]), (7, .c false [.li 4 (pcs faces)]), (8, .c false [.i (pcs faces).length]), (9, .c false [.i i])]
      [(1, .box v.cs), (7, .row 4 (pcs ((faces.take i).filter fun p => side p v == 0)))] 100)
    (fun i => faces.length - i) 0 (by simp) ((Weak.nilslot 4 4 rfl).trans (.to ⟨rfl, rfl, rfl, rfl, rfl, rfl, trivial⟩ ⟨rfl, rfl, trivial⟩ rfl rfl)) ?_
  intro i hi
  ((conv => whnf); (repeat (refine ⟨rfl, ?_⟩; (conv => whnf))))
  refine ⟨fun hlt => ?_, fun hge => ?_⟩
  · have hlt' : i < faces.length := by simpa using hlt
    ((conv => whnf); (repeat (refine ⟨rfl, ?_⟩; (conv => whnf))))
    refine ⟨⟨by omega, by simpa using hlt'⟩, ?_⟩
    have e : (pcs faces).getD (i : Int).toNat [] = (faces[i]).cs := by simp [hlt']
    have hsn := filter_snoc (t := fun p => side p v == 0) hlt'
    obtain ⟨p, hp⟩ : ∃ p, p = faces[i] := ⟨_, rfl⟩
    rw [e, ← hp]
    rw [← hp] at hsn
    ((conv => whnf); (repeat (first | (refine ⟨rfl, ?_⟩; (conv => whnf)) | (refine ⟨Nat.le_of_ble_eq_true rfl, ?_⟩; (conv => whnf)))))
    refine call_pure (side_spec p v) rfl rfl rfl ?_
    ((conv => whnf); (repeat (refine ⟨rfl, ?_⟩; (conv => whnf))))
    have hfl : ((faces.take i).filter fun p => side p v == 0).length ≤ 1000000 := by
      have := List.length_filter_le (fun p => side p v == 0) (faces.take i)
      have h2 : (faces.take i).length ≤ faces.length := by simp; omega
      omega
    cases hs : side p v == 0
    · rw [hs] at hsn
      simp only [Bool.false_eq_true, if_false, List.append_nil] at hsn
      ((conv => whnf); (repeat (first | (refine ⟨rfl, ?_⟩; (conv => whnf)) | (refine ⟨fun h => Bool.noConfusion h, fun _ => ?_⟩; (conv => whnf)))))
      refine ⟨i + 1, hlt', by omega, .to ⟨rfl, rfl, by rw [hsn]; rfl, rfl, rfl, eq1 (by rw [wr (by omega)]; omega), trivial⟩ ⟨rfl, by rw [hsn]; rfl, trivial⟩ rfl rfl⟩
    · rw [hs] at hsn
      simp only [if_true] at hsn
      have hsn2 : pcs ((faces.take (i + 1)).filter fun p => side p v == 0) = pcs ((faces.take i).filter fun p => side p v == 0) ++ [p.cs] := by rw [hsn]; simp
      ((conv => whnf); (repeat (first | (refine ⟨rfl, ?_⟩; (conv => whnf)) | (refine ⟨Nat.le_of_ble_eq_true rfl, ?_⟩; (conv => whnf)) | (refine ⟨⟨of_decide_eq_true rfl, of_decide_eq_true rfl⟩, ?_⟩; (conv => whnf)) | (refine ⟨fun _ => ?_, fun h => Bool.noConfusion h⟩; (conv => whnf)))))
      refine ⟨by simp [big]; omega, fun m h => absurd (own_inj h) (Nat.ne_of_beq_eq_false rfl), ?_⟩
      ((conv => whnf); (repeat (refine ⟨rfl, ?_⟩; (conv => whnf))))
      refine ⟨i + 1, hlt', by omega, .to ⟨rfl, rfl, by rw [hsn2]; rfl, rfl, rfl, eq1 (by rw [wr (by omega)]; omega), trivial⟩ ⟨rfl, by rw [hsn2]; rfl, trivial⟩ rfl rfl⟩
  · have hi' : i = faces.length := by have : ¬ i < faces.length := by simpa using hge
                                      omega
    (conv => whnf)
    subst hi'
    have hfl := List.length_filter_le (fun p => side p v == 0) faces
    refine call_lend (vertex_spec (own := (faces.take faces.length).filter fun p => side p v == 0) (by rw [List.take_length]; omega) (fun p hp => hb p (List.mem_of_mem_take (List.mem_filter.1 hp).1))) (lend0 rfl rfl) v1 ?_
    (conv => whnf)
    refine retPure_ret rfl ?_
    refine eqb ?_
    rw [List.take_length]; rfl
end Go.Proofs.YtlbafapmhjfobaaGreatDoor
