/-
  Contracts: the iterator over the planes of all triples; flatness; Check; DeleteFunc and Compact of the package slices.
-/
import Derived.Test.YtlbafapmhjfobaaGreatDoorPlane
import Derived.Test.YtlbafapmhjfobaaGreatDoorAbs4
import Derived.Test.YtlbafapmhjfobaaGreatDoorProg
set_option linter.unusedVariables false
set_option linter.unusedSimpArgs false
namespace Go.Proofs.YtlbafapmhjfobaaGreatDoor
set_option maxRecDepth 100000
attribute [local irreducible] LoopW LoopY RngW retPure retFresh retBox retTurn
variable {gl : Nat → Option (List AV)}

/-- the planes through three points -/
def tri (xs : List V3) (i j k : Nat) : List Pl :=
  match xs[k]?, xs[j]?, xs[i]? with
  | some a, some b, some c => if (through a b c).2 then [(through a b c).1, (through a b c).1.flip] else []
  | _, _, _ => []
def trip3 (xs : List V3) (i j n : Nat) : List Pl := (List.range n).flatMap fun k => tri xs i j k
def trip2 (xs : List V3) (i n : Nat) : List Pl := (List.range n).flatMap fun j => trip3 xs i j j
def trip1 (xs : List V3) (n : Nat) : List Pl := (List.range n).flatMap fun i => trip2 xs i i
def trip (xs : List V3) : List Pl := trip1 xs xs.length
theorem trip3_succ (xs : List V3) (i j n : Nat) : trip3 xs i j (n + 1) = trip3 xs i j n ++ tri xs i j n := by simp [trip3, List.range_succ]
theorem trip2_succ (xs : List V3) (i n : Nat) : trip2 xs i (n + 1) = trip2 xs i n ++ trip3 xs i n n := by simp [trip2, List.range_succ]
theorem trip1_succ (xs : List V3) (n : Nat) : trip1 xs (n + 1) = trip1 xs n ++ trip2 xs n n := by simp [trip1, List.range_succ]
theorem pre_le {α : Type} (f : Nat → List α) : ∀ {m n : Nat}, m ≤ n → (List.range m).flatMap f <+: (List.range n).flatMap f := by
  intro m n h
  induction n with
  | zero => have : m = 0 := by omega
            subst this; exact List.prefix_refl _
  | succ n ih =>
    by_cases hm : m = n + 1
    · subst hm; exact List.prefix_refl _
    · rw [List.range_succ, List.flatMap_append]
      exact (ih (by omega)).trans (List.prefix_append _ _)
theorem trip_pre {xs : List V3} {i j k : Nat} (hi : i < xs.length) (hj : j < i) (hk : k < j) : trip1 xs i ++ (trip2 xs i j ++ (trip3 xs i j k ++ tri xs i j k)) <+: trip xs := by
  have h1 : trip1 xs (i + 1) <+: trip xs := pre_le _ (by omega)
  have h2 : trip2 xs i (j + 1) <+: trip2 xs i i := pre_le _ (by omega)
  have h3 : trip3 xs i j (k + 1) <+: trip3 xs i j j := pre_le _ (by omega)
  refine List.IsPrefix.trans ?_ h1
  rw [trip1_succ]
  refine (List.prefix_append_right_inj _).2 (List.IsPrefix.trans ?_ h2)
  rw [trip2_succ]
  refine (List.prefix_append_right_inj _).2 ?_
  rw [← trip3_succ]
  exact h3
abbrev pits (l : List Pl) : List (Bool × List AV) := l.map fun p => (true, p.cs)
theorem pit_at {l pre : List Pl} {p : Pl} (h : pre ++ [p] <+: l) : (pits l)[pre.length]? = some (true, p.cs) := by
  obtain ⟨r, rfl⟩ := h
  simp
theorem through_bd (a b c : V3) : (through a b c).1.n.bd 4608 ∧ -331776 ≤ (through a b c).1.b ∧ (through a b c).1.b ≤ 331776 := by
  unfold through
  split
  · rename_i h
    simp only [Bool.and_eq_true] at h
    have ba := inB_bd h.1.1
    have b1 := sub_bd (inB_bd h.1.2) ba
    have b2 := sub_bd (inB_bd h.2) ba
    have b4 := prim_bd (cross_bd b1 b2)
    have h1 := mul_bd b4.1 ba.1
    have h2 := mul_bd b4.2.1 ba.2.1
    have h3 := mul_bd b4.2.2 ba.2.2
    refine ⟨b4.mono (by omega), ?_⟩
    simp only [V3.dot]
    omega
  · exact ⟨bd0 (by omega), by simp, by simp⟩
theorem triples_iter {xs : List V3} (hx : xs.length ≤ 1000000) : IterSpec Tryz.prog gl 77 [.ref [.li 3 (vcs xs)]] (pits (trip xs)) := by
  refine spec_iter A77_comp Tryz.func77 Tryz.call77 fol Tryz.ntmps77 Tryz.results77 (Nat.le_of_ble_eq_true rfl) rfl (fun it hit => by obtain ⟨p, _, rfl⟩ := List.mem_map.1 hit; rfl) fun l => ?_
  ((conv => whnf); (repeat (refine ⟨Nat.le_of_ble_eq_true rfl, ?_⟩; (conv => whnf))))
  refine LoopY_of (fun i : Nat => i ≤ xs.length) (fun i => mk [(0, .c false [.v (.func (.yield l) #[] #[])]), (1, .c false [.ref [.li 3 (vcs xs)]]), (9, .c false [.i (vcs xs).length]), (10, .c false [.i i])] [] 100)
    (fun i => some (trip1 xs i).length) (fun i => xs.length - i) 0 (by simp) rfl (.to ⟨rfl, rfl, rfl, rfl, trivial⟩ trivial rfl rfl) ?_
  rintro i hi
  ((conv => whnf); (repeat (refine ⟨rfl, ?_⟩; (conv => whnf))))
  refine ⟨fun hlt => ?_, fun hge => ?_⟩
  · have hlt' : i < xs.length := by simpa using hlt
    ((conv => whnf); (repeat (first | (refine ⟨rfl, ?_⟩; (conv => whnf)) | (refine ⟨Nat.le_of_ble_eq_true rfl, ?_⟩; (conv => whnf)))))
    refine ⟨⟨Int.le_refl _, by omega, by simpa using hi⟩, ?_⟩
    have e2 : ((vcs xs).take (i : Int).toNat).drop (0 : Int).toNat = vcs (xs.take i) := by simp [List.map_take]
    rw [e2]
    (conv => whnf)
    refine LoopY_of (fun j : Nat => j ≤ i) (fun j => mk [(0, .c false [.v (.func (.yield l) #[] #[])]), (1, .c false [.ref [.li 3 (vcs xs)]]), (9, .c false [.i (vcs xs).length]), (10, .c false [.i i]), (3, .c false [.i i]), (16, .c false [.i (vcs (xs.take i)).length]), (17, .c false [.i j])] [] 100)
      (fun j => some (trip1 xs i ++ trip2 xs i j).length) (fun j => i - j) 0 (by simp) (by simp [trip2]) (.to ⟨rfl, rfl, rfl, rfl, rfl, rfl, rfl, trivial⟩ trivial rfl rfl) ?_
    rintro j hj
    ((conv => whnf); (repeat (refine ⟨rfl, ?_⟩; (conv => whnf))))
    refine ⟨fun hlt2 => ?_, fun hge2 => ?_⟩
    · have hlt2' : j < i := by simp at hlt2; omega
      ((conv => whnf); (repeat (first | (refine ⟨rfl, ?_⟩; (conv => whnf)) | (refine ⟨Nat.le_of_ble_eq_true rfl, ?_⟩; (conv => whnf)))))
      refine ⟨⟨Int.le_refl _, by omega, by simp; omega⟩, ?_⟩
      have e2 : ((vcs xs).take (j : Int).toNat).drop (0 : Int).toNat = vcs (xs.take j) := by simp [List.map_take]
      rw [e2]
      (conv => whnf)
      refine LoopY_of (fun k : Nat => k ≤ j) (fun k => mk [(0, .c false [.v (.func (.yield l) #[] #[])]), (1, .c false [.ref [.li 3 (vcs xs)]]), (9, .c false [.i (vcs xs).length]), (10, .c false [.i i]), (3, .c false [.i i]), (16, .c false [.i (vcs (xs.take i)).length]), (17, .c false [.i j]), (4, .c false [.i j]), (23, .c false [.i (vcs (xs.take j)).length]), (24, .c false [.i k])] [] 100)
        (fun k => some (trip1 xs i ++ (trip2 xs i j ++ trip3 xs i j k)).length) (fun k => j - k) 0 (by simp) (by simp [trip3]) (.to ⟨rfl, rfl, rfl, rfl, rfl, rfl, rfl, rfl, rfl, rfl, trivial⟩ trivial rfl rfl) ?_
      rintro k hk
      ((conv => whnf); (repeat (refine ⟨rfl, ?_⟩; (conv => whnf))))
      refine ⟨fun hlt3 => ?_, fun hge3 => ?_⟩
      · have hlt3' : k < j := by simp at hlt3; omega
        have hkx : k < xs.length := by omega
        have hjx : j < xs.length := by omega
        ((conv => whnf); (repeat (first | (refine ⟨rfl, ?_⟩; (conv => whnf)) | (refine ⟨Nat.le_of_ble_eq_true rfl, ?_⟩; (conv => whnf)))))
        refine ⟨⟨by omega, by simp; omega⟩, ?_⟩
        have e3 : (vcs xs).getD (k : Int).toNat [] = (xs[k]).cs := by simp [hkx]
        rw [e3]
        ((conv => whnf); (repeat (first | (refine ⟨rfl, ?_⟩; (conv => whnf)) | (refine ⟨Nat.le_of_ble_eq_true rfl, ?_⟩; (conv => whnf)))))
        refine ⟨⟨by omega, by simp; omega⟩, ?_⟩
        have e4 : (vcs xs).getD (j : Int).toNat [] = (xs[j]).cs := by simp [hjx]
        rw [e4]
        ((conv => whnf); (repeat (first | (refine ⟨rfl, ?_⟩; (conv => whnf)) | (refine ⟨Nat.le_of_ble_eq_true rfl, ?_⟩; (conv => whnf)))))
        refine ⟨⟨by omega, by simp; omega⟩, ?_⟩
        have e5 : (vcs xs).getD (i : Int).toNat [] = (xs[i]).cs := by simp [hlt']
        rw [e5]
        ((conv => whnf); (repeat (refine ⟨Nat.le_of_ble_eq_true rfl, ?_⟩; (conv => whnf))))
        refine call_pure (through_spec _ _ _) rfl rfl rfl ?_
        ((conv => whnf); (repeat (first | (refine ⟨(by kernel_rfl : chk _ _ = true), ?_⟩; (conv => whnf)) | (refine ⟨rfl, ?_⟩; (conv => whnf)) | (refine ⟨Nat.le_of_ble_eq_true rfl, ?_⟩; (conv => whnf)))))
        have hp1 : xs[k]? = some xs[k] := by simp [hkx]
        have hp2 : xs[j]? = some xs[j] := by simp [hjx]
        have hp3 : xs[i]? = some xs[i] := by simp [hlt']
        have hpre := trip_pre (xs := xs) (i := i) (j := j) (k := k) hlt' hlt2' hlt3'
        have htri : tri xs i j k = if (through xs[k] xs[j] xs[i]).2 then [(through xs[k] xs[j] xs[i]).1, (through xs[k] xs[j] xs[i]).1.flip] else [] := by simp only [tri, hp1, hp2, hp3]
        have hgo : ∀ st' : St, Weak gl st' (mk [(0, .c false [.v (.func (.yield l) #[] #[])]), (1, .c false [.ref [.li 3 (vcs xs)]]), (9, .c false [.i (vcs xs).length]), (10, .c false [.i i]), (3, .c false [.i i]), (16, .c false [.i (vcs (xs.take i)).length]), (17, .c false [.i j]), (4, .c false [.i j]), (23, .c false [.i (vcs (xs.take j)).length]), (24, .c false [.i (k + 1 : Nat)])] [] 100) → 
          ∀ g, g = some ((trip1 xs i ++ (trip2 xs i j ++ trip3 xs i j k)).length + (tri xs i j k).length) → ∃ y : Nat, y ≤ j ∧ g = some (trip1 xs i ++ (trip2 xs i j ++ trip3 xs i j y)).length ∧ j - y < j - k ∧ Weak gl st' (mk [(0, .c false [.v (.func (.yield l) #[] #[])]), (1, .c false [.ref [.li 3 (vcs xs)]]), (9, .c false [.i (vcs xs).length]), (10, .c false [.i i]), (3, .c false [.i i]), (16, .c false [.i (vcs (xs.take i)).length]), (17, .c false [.i j]), (4, .c false [.i j]), (23, .c false [.i (vcs (xs.take j)).length]), (24, .c false [.i y])] [] 100) := by
          intro st' hw g hg
          refine ⟨k + 1, by omega, ?_, by omega, hw⟩
          rw [hg, trip3_succ]; simp; omega
        have hw1 : (IntKind.i64.wrap ((k : Int) + 1)) = ((k + 1 : Nat) : Int) := by rw [wr (by omega)]; omega
        cases ho : (through xs[k] xs[j] xs[i]).2
        · rw [htri, ho] at hpre
          ((conv => whnf); (repeat (first | (refine ⟨rfl, ?_⟩; (conv => whnf)) | (refine ⟨fun h => Bool.noConfusion h, fun _ => ?_⟩; (conv => whnf)))))
          refine hgo _ (.to ⟨rfl, rfl, rfl, rfl, rfl, rfl, rfl, rfl, rfl, eq1 hw1, trivial⟩ trivial rfl rfl) _ (by rw [htri, ho]; simp)
        · rw [htri, ho] at hpre
          simp only [if_true] at hpre
          have hpre1 : (trip1 xs i ++ (trip2 xs i j ++ trip3 xs i j k)) ++ [(through xs[k] xs[j] xs[i]).1] <+: trip xs := by
            refine List.IsPrefix.trans ⟨[(through xs[k] xs[j] xs[i]).1.flip], ?_⟩ hpre
            simp
          have hpre2 : ((trip1 xs i ++ (trip2 xs i j ++ trip3 xs i j k)) ++ [(through xs[k] xs[j] xs[i]).1]) ++ [(through xs[k] xs[j] xs[i]).1.flip] <+: trip xs := by
            simpa using hpre
          ((conv => whnf); (repeat (first | (refine ⟨rfl, ?_⟩; (conv => whnf)) | (refine ⟨Nat.le_of_ble_eq_true rfl, ?_⟩; (conv => whnf)) | (refine ⟨fun _ => ?_, fun h => Bool.noConfusion h⟩; (conv => whnf)))))
          refine ⟨⟨_, pit_at hpre1, rfl⟩, ?_, ?_⟩
          · ((conv => whnf); (repeat (first | (refine ⟨Nat.le_of_ble_eq_true rfl, ?_⟩; (conv => whnf)) | (refine ⟨fun _ => ?_, fun h => Bool.noConfusion h⟩; (conv => whnf)))))
            have hb := through_bd xs[k] xs[j] xs[i]
            refine call_pure (flip_spec (hb.1.mono (by omega)) ⟨by omega, by omega⟩) rfl rfl rfl ?_
            ((conv => whnf); (repeat (first | (refine ⟨rfl, ?_⟩; (conv => whnf)) | (refine ⟨fun _ => ?_, fun h => Bool.noConfusion h⟩; (conv => whnf)))))
            refine ⟨⟨_, by have := pit_at hpre2; rw [List.length_append] at this; exact this, rfl⟩, ?_, ?_⟩
            · ((conv => whnf); (repeat (first | (refine ⟨rfl, ?_⟩; (conv => whnf)) | (refine ⟨fun _ => ?_, fun h => Bool.noConfusion h⟩; (conv => whnf)) | (refine ⟨fun h => Bool.noConfusion h, fun _ => ?_⟩; (conv => whnf)))))
              refine hgo _ (.to ⟨rfl, rfl, rfl, rfl, rfl, rfl, rfl, rfl, rfl, eq1 hw1, trivial⟩ trivial rfl rfl) _ (by rw [htri, ho]; simp)
            · ((conv => whnf); (repeat (first | (refine ⟨fun _ => ?_, fun h => Bool.noConfusion h⟩; (conv => whnf)) | (refine ⟨fun h => Bool.noConfusion h, fun _ => ?_⟩; (conv => whnf)))))
              exact .inr rfl
          · ((conv => whnf); (repeat (first | (refine ⟨fun _ => ?_, fun h => Bool.noConfusion h⟩; (conv => whnf)) | (refine ⟨fun h => Bool.noConfusion h, fun _ => ?_⟩; (conv => whnf)))))
            exact .inr rfl
      · ((conv => whnf); (repeat (refine ⟨rfl, ?_⟩; (conv => whnf))))
        have : k = j := by simp at hge3; omega
        subst this
        refine ⟨k + 1, by omega, ?_, by omega, .to ⟨rfl, rfl, rfl, rfl, rfl, rfl, eq1 (by rw [wr (by omega)]; omega), trivial⟩ trivial rfl rfl⟩
        rw [trip2_succ]
    · ((conv => whnf); (repeat (refine ⟨rfl, ?_⟩; (conv => whnf))))
      have : j = i := by simp at hge2; omega
      subst this
      refine ⟨j + 1, by omega, ?_, by omega, .to ⟨rfl, rfl, rfl, eq1 (by rw [wr (by omega)]; omega), trivial⟩ trivial rfl rfl⟩
      rw [trip1_succ]
  · (conv => whnf)
    have : i = xs.length := by simp at hge; omega
    subst this
    exact .inl (by simp [trip])
end Go.Proofs.YtlbafapmhjfobaaGreatDoor
namespace Go.Proofs.YtlbafapmhjfobaaGreatDoor
set_option maxRecDepth 100000
/- collet/hull.flat -/
def A72 : ACode :=
 .seq
 (.reg false [⟨(some 1), .box (.t 0), [], none⟩,
 ⟨(some 2), .alloc [.v (.bool false)], [], none⟩])
 (.seq
 (.seq
 (.reg false [⟨(some 4), .load false 1 (.t 1), [], none⟩,
 ⟨(some 5), .call 36 [(.t 4)], [0], none⟩])
 (.block 0 (.rng (.t 5) [6]
 (.reg false [⟨(some 3), .alloc [.v (.int .i64 0), .v (.int .i64 0), .v (.int .i64 0), .v (.int .i64 0)], [], none⟩,
 ⟨none, .store 4 (.t 3) (.t 6), [0, 0], none⟩])
 (.block 1 (.seq
 (.frz [] (.reg false [⟨(some 7), .load false 1 (.t 1), [], none⟩,
 ⟨(some 8), .mkfn 97 [] [(.t 3)], [], none⟩,
 ⟨(some 9), .call 71 [(.t 7), (.t 8)], [0, 1], none⟩,
 ⟨(some 10), .un .not (.t 9), [2], none⟩,
 ⟨none, .store 1 (.t 2) (.t 10), [3, 2, 0, 1, 2, 3], none⟩]))
 (.ret))))))
 (.seq
 (.reg false [⟨none, .store 1 (.t 2) (.k false [.v (.bool true)]), [], none⟩])
 (.ret)))
theorem A72_comp : Tryz.f72.body.bind (comp Tryz.prog Tryz.f72.ntmps [3]) = some A72 := by kernel_rfl
/- collet/hull.Faces -/
def A11 : ACode :=
 .seq
 (.reg false [⟨(some 1), .box (.t 0), [], none⟩,
 ⟨(some 2), .mv (.k false [.v (.slice none 0 0)]), [], none⟩,
 ⟨(some 3), .mv (.k false [.v (.int .i64 0)]), [1], none⟩])
 (.seq
 (.seq
 (.reg false [⟨(some 8), .load false 1 (.t 1), [], none⟩,
 ⟨(some 9), .call 34 [(.t 8)], [0], none⟩,
 ⟨(some 4), .mv (.t 9), [1, 1, 0, 1], none⟩])
 (.seq
 (.reg false [⟨(some 10), .mv (.t 4), [], none⟩,
 ⟨(some 11), .bin .neq (.t 10) (.k false [.v (.int .i64 0)]), [0], none⟩])
 (.cond (.t 11)
 (.seq
 (.reg false [⟨(some 12), .mv (.t 4), [], none⟩,
 ⟨(some 2), .mv (.k false [.v (.slice none 0 0)]), [], none⟩,
 ⟨(some 3), .mv (.t 12), [0, 1, 0, 1], none⟩])
 (.ret))
 (.skip))))
 (.seq
 (.reg false [⟨(some 13), .load false 1 (.t 1), [], none⟩,
 ⟨(some 14), .call 35 [(.t 13)], [0], none⟩,
 ⟨none, .store 1 (.t 1) (.t 14), [1, 1, 0, 1], none⟩])
 (.seq
 (.reg false [⟨(some 15), .mkmap [some .i64, some .i64, some .i64, some .i64], [], none⟩,
 ⟨(some 5), .alloc [.v (.map none)], [], none⟩,
 ⟨none, .store 1 (.t 5) (.t 15), [1, 0, 0, 1], none⟩])
 (.seq
 (.reg false [⟨(some 6), .alloc [.v (.slice none 0 0)], [], none⟩])
 (.seq
 (.seq
 (.reg false [⟨(some 16), .load false 1 (.t 1), [], none⟩,
 ⟨(some 17), .call 36 [(.t 16)], [0], none⟩])
 (.block 0 (.rng (.t 17) [18]
 (.reg false [⟨(some 7), .alloc [.v (.int .i64 0), .v (.int .i64 0), .v (.int .i64 0), .v (.int .i64 0)], [], none⟩,
 ⟨none, .store 4 (.t 7) (.t 18), [0, 0], none⟩])
 (.block 1 (.seq
 (.seq
 (.reg false [⟨(some 19), .load false 1 (.t 5), [], none⟩,
 ⟨(some 20), .load true 4 (.t 7), [], none⟩,
 ⟨(some 21), .lkmap [some .i64, some .i64, some .i64, some .i64] (.t 19) (.t 20), [0, 1], none⟩])
 (.cond (.t 21)
 (.exit 1)
 (.skip)))
 (.seq
 (.reg false [⟨(some 22), .load false 1 (.t 5), [], none⟩,
 ⟨(some 23), .load true 4 (.t 7), [], none⟩,
 ⟨none, .upmap [some .i64, some .i64, some .i64, some .i64] (.t 22) (.t 23) (.k false [.v (.bool true)]), [0, 1, 0, 1], none⟩])
 (.seq
 (.reg false [⟨(some 24), .load false 1 (.t 1), [], none⟩,
 ⟨(some 25), .load true 4 (.t 7), [], none⟩,
 ⟨(some 26), .call 37 [(.t 24), (.t 25)], [0, 1], none⟩,
 ⟨(some 27), .un .not (.t 26), [2], none⟩])
 (.cond (.t 27)
 (.reg false [⟨(some 28), .load false 1 (.t 6), [], none⟩,
 ⟨(some 29), .load true 4 (.t 7), [], none⟩,
 ⟨(some 30), .bslice 4 [(.t 29)], [1], none⟩,
 ⟨(some 31), .app 4 32 (.t 28) (.t 30), [0, 2], none⟩,
 ⟨none, .store 1 (.t 6) (.t 31), [3, 3, 0, 1, 2, 3], none⟩])
 (.skip)))))))))
 (.seq
 (.reg false [⟨(some 32), .load false 1 (.t 6), [], none⟩,
 ⟨(some 33), .call 38 [(.t 32), (.f 39)], [0], none⟩])
 (.seq
 (.reg false [⟨(some 34), .load false 1 (.t 6), [], none⟩,
 ⟨(some 2), .mv (.t 34), [0, 0], none⟩,
 ⟨(some 3), .mv (.k false [.v (.int .i64 0)]), [1, 0, 1], none⟩])
 (.ret))))))))
theorem A11_comp : Tryz.f11.body.bind (comp Tryz.prog Tryz.f11.ntmps []) = some A11 := by kernel_rfl
/- slices.DeleteFunc[[]collet/api.Vec,collet/api.Vec] -/
def A45 : ACode :=
 .seq
 (.reg false [⟨(some 4), .mv (.k false [.v (.slice none 0 0)]), [], none⟩])
 (.seq
 (.reg false [⟨(some 8), .mv (.t 0), [], none⟩,
 ⟨(some 9), .mv (.t 1), [], none⟩,
 ⟨(some 10), .call 87 [(.t 8), (.t 9)], [0, 1], none⟩,
 ⟨(some 5), .mv (.t 10), [2, 2, 0, 1, 2], none⟩])
 (.seq
 (.seq
 (.reg false [⟨(some 11), .mv (.t 5), [], none⟩,
 ⟨(some 12), .bin .eql (.t 11) (.k false [.v (.int .i64 (-1))]), [0], none⟩])
 (.cond (.t 12)
 (.seq
 (.reg false [⟨(some 13), .mv (.t 0), [], none⟩,
 ⟨(some 4), .mv (.t 13), [0, 0], none⟩])
 (.ret))
 (.skip)))
 (.seq
 (.seq
 (.reg false [⟨(some 14), .mv (.t 5), [], none⟩,
 ⟨(some 15), .bin .add (.t 14) (.k false [.v (.int .i64 1)]), [0], none⟩,
 ⟨(some 6), .mv (.t 15), [1, 0, 1], none⟩])
 (.block 0 (.loop (.seq
 (.seq
 (.reg false [⟨(some 16), .mv (.t 6), [], none⟩,
 ⟨(some 17), .mv (.t 0), [], none⟩,
 ⟨(some 18), .len (.t 17), [1], none⟩,
 ⟨(some 19), .bin .lss (.t 16) (.t 18), [0, 2], none⟩])
 (.cond (.t 19)
 (.skip)
 (.exit 0)))
 (.seq
 (.block 1 (.seq
 (.reg false [⟨(some 22), .mv (.t 0), [], none⟩,
 ⟨(some 23), .mv (.t 6), [], none⟩,
 ⟨(some 24), .ixsl 3 (.t 22) (.t 23), [0, 1], none⟩,
 ⟨(some 25), .load true 3 (.t 24), [2], none⟩,
 ⟨(some 7), .alloc [.v (.int .i64 0), .v (.int .i64 0), .v (.int .i64 0)], [], none⟩,
 ⟨none, .store 3 (.t 7) (.t 25), [4, 3, 0, 1, 2, 3, 4], none⟩])
 (.seq
 (.reg false [⟨(some 26), .mv (.t 1), [], none⟩,
 ⟨(some 27), .load true 3 (.t 7), [], none⟩,
 ⟨(some 28), .dyn (.t 26) [(.t 27)], [0, 1], none⟩,
 ⟨(some 29), .un .not (.t 28), [2], none⟩])
 (.cond (.t 29)
 (.seq
 (.reg false [⟨(some 30), .mv (.t 0), [], none⟩,
 ⟨(some 31), .mv (.t 5), [], none⟩,
 ⟨(some 32), .load true 3 (.t 7), [], none⟩,
 ⟨(some 33), .ixsl 3 (.t 30) (.t 31), [0, 1, 0, 1, 2], none⟩,
 ⟨none, .store 3 (.t 33) (.t 32), [3, 2, 0, 1, 2], none⟩])
 (.reg false [⟨(some 34), .mv (.t 5), [], none⟩,
 ⟨(some 35), .bin .add (.t 34) (.k false [.v (.int .i64 1)]), [0], none⟩,
 ⟨(some 5), .mv (.t 35), [1, 0, 1], none⟩]))
 (.skip)))))
 (.reg false [⟨(some 20), .mv (.t 6), [], none⟩,
 ⟨(some 21), .bin .add (.t 20) (.k false [.v (.int .i64 1)]), [0], none⟩,
 ⟨(some 6), .mv (.t 21), [1, 0, 1], none⟩]))))))
 (.seq
 (.reg false [⟨(some 36), .mv (.t 0), [], none⟩,
 ⟨(some 37), .mv (.t 5), [], none⟩,
 ⟨(some 38), .slice 3 (.t 36) (some (.t 37)) none, [0, 1], none⟩,
 ⟨none, .clr 3 [.v (.int .i64 0), .v (.int .i64 0), .v (.int .i64 0)] (.t 38), [2], none⟩])
 (.seq
 (.reg false [⟨(some 39), .mv (.t 0), [], none⟩,
 ⟨(some 40), .mv (.t 5), [], none⟩,
 ⟨(some 41), .slice 3 (.t 39) none (some (.t 40)), [0, 1], none⟩,
 ⟨(some 4), .mv (.t 41), [2, 0, 1, 2], none⟩])
 (.ret))))))
theorem A45_comp : Tryz.f45.body.bind (comp Tryz.prog Tryz.f45.ntmps []) = some A45 := by kernel_rfl
/- slices.Compact[[]collet/api.Vec,collet/api.Vec] -/
def A76 : ACode :=
 .seq
 (.reg false [⟨(some 2), .mv (.k false [.v (.slice none 0 0)]), [], none⟩])
 (.seq
 (.seq
 (.reg false [⟨(some 6), .mv (.t 0), [], none⟩,
 ⟨(some 7), .len (.t 6), [0], none⟩,
 ⟨(some 8), .bin .lss (.t 7) (.k false [.v (.int .i64 2)]), [1], none⟩])
 (.cond (.t 8)
 (.seq
 (.reg false [⟨(some 9), .mv (.t 0), [], none⟩,
 ⟨(some 2), .mv (.t 9), [0, 0], none⟩])
 (.ret))
 (.skip)))
 (.seq
 (.seq
 (.reg false [⟨(some 3), .mv (.k false [.v (.int .i64 1)]), [], none⟩])
 (.block 0 (.loop (.seq
 (.seq
 (.reg false [⟨(some 10), .mv (.t 3), [], none⟩,
 ⟨(some 11), .mv (.t 0), [], none⟩,
 ⟨(some 12), .len (.t 11), [1], none⟩,
 ⟨(some 13), .bin .lss (.t 10) (.t 12), [0, 2], none⟩])
 (.cond (.t 13)
 (.skip)
 (.exit 0)))
 (.seq
 (.block 1 (.seq
 (.reg true [⟨(some 16), .mv (.t 0), [], none⟩,
 ⟨(some 17), .mv (.t 3), [], none⟩,
 ⟨(some 18), .ixsl 3 (.t 16) (.t 17), [0, 1], none⟩,
 ⟨(some 19), .load true 3 (.t 18), [2], none⟩,
 ⟨(some 20), .mv (.t 0), [], none⟩,
 ⟨(some 21), .mv (.t 3), [], none⟩,
 ⟨(some 22), .bin .sub (.t 21) (.k false [.v (.int .i64 1)]), [5], none⟩,
 ⟨(some 23), .ixsl 3 (.t 20) (.t 22), [4, 6], none⟩,
 ⟨(some 24), .load true 3 (.t 23), [7], none⟩,
 ⟨(some 25), .eqa false [some .i64, some .i64, some .i64] (.t 19) (.t 24), [3, 8], none⟩])
 (.cond (.t 25)
 (.seq
 (.reg false [⟨(some 26), .mv (.t 0), [], none⟩,
 ⟨(some 27), .mv (.t 3), [], none⟩,
 ⟨(some 28), .slice 3 (.t 26) (some (.t 27)) none, [0, 1], none⟩,
 ⟨(some 4), .mv (.t 28), [2, 0, 1, 2], none⟩])
 (.seq
 (.seq
 (.reg false [⟨(some 5), .mv (.k false [.v (.int .i64 1)]), [], none⟩])
 (.block 2 (.loop (.seq
 (.seq
 (.reg false [⟨(some 29), .mv (.t 5), [], none⟩,
 ⟨(some 30), .mv (.t 4), [], none⟩,
 ⟨(some 31), .len (.t 30), [1], none⟩,
 ⟨(some 32), .bin .lss (.t 29) (.t 31), [0, 2], none⟩])
 (.cond (.t 32)
 (.skip)
 (.exit 2)))
 (.seq
 (.block 3 (.seq
 (.reg true [⟨(some 35), .mv (.t 4), [], none⟩,
 ⟨(some 36), .mv (.t 5), [], none⟩,
 ⟨(some 37), .ixsl 3 (.t 35) (.t 36), [0, 1], none⟩,
 ⟨(some 38), .load true 3 (.t 37), [2], none⟩,
 ⟨(some 39), .mv (.t 4), [], none⟩,
 ⟨(some 40), .mv (.t 5), [], none⟩,
 ⟨(some 41), .bin .sub (.t 40) (.k false [.v (.int .i64 1)]), [5], none⟩,
 ⟨(some 42), .ixsl 3 (.t 39) (.t 41), [4, 6], none⟩,
 ⟨(some 43), .load true 3 (.t 42), [7], none⟩,
 ⟨(some 44), .eqa true [some .i64, some .i64, some .i64] (.t 38) (.t 43), [3, 8], none⟩])
 (.cond (.t 44)
 (.seq
 (.reg false [⟨(some 45), .mv (.t 0), [], none⟩,
 ⟨(some 46), .mv (.t 3), [], none⟩,
 ⟨(some 47), .mv (.t 4), [], none⟩,
 ⟨(some 48), .mv (.t 5), [], none⟩,
 ⟨(some 49), .ixsl 3 (.t 47) (.t 48), [2, 3], none⟩,
 ⟨(some 50), .load true 3 (.t 49), [4], none⟩,
 ⟨(some 51), .ixsl 3 (.t 45) (.t 46), [0, 1, 0, 1, 2, 3, 4, 5], none⟩,
 ⟨none, .store 3 (.t 51) (.t 50), [6, 5, 0, 1, 2, 3, 4, 5], none⟩])
 (.reg false [⟨(some 52), .mv (.t 3), [], none⟩,
 ⟨(some 53), .bin .add (.t 52) (.k false [.v (.int .i64 1)]), [0], none⟩,
 ⟨(some 3), .mv (.t 53), [1, 0, 1], none⟩]))
 (.skip))))
 (.reg false [⟨(some 33), .mv (.t 5), [], none⟩,
 ⟨(some 34), .bin .add (.t 33) (.k false [.v (.int .i64 1)]), [0], none⟩,
 ⟨(some 5), .mv (.t 34), [1, 0, 1], none⟩]))))))
 (.seq
 (.reg false [⟨(some 54), .mv (.t 0), [], none⟩,
 ⟨(some 55), .mv (.t 3), [], none⟩,
 ⟨(some 56), .slice 3 (.t 54) (some (.t 55)) none, [0, 1], none⟩,
 ⟨none, .clr 3 [.v (.int .i64 0), .v (.int .i64 0), .v (.int .i64 0)] (.t 56), [2], none⟩])
 (.seq
 (.reg false [⟨(some 57), .mv (.t 0), [], none⟩,
 ⟨(some 58), .mv (.t 3), [], none⟩,
 ⟨(some 59), .slice 3 (.t 57) none (some (.t 58)), [0, 1], none⟩,
 ⟨(some 2), .mv (.t 59), [2, 0, 1, 2], none⟩])
 (.ret)))))
 (.skip))))
 (.reg false [⟨(some 14), .mv (.t 3), [], none⟩,
 ⟨(some 15), .bin .add (.t 14) (.k false [.v (.int .i64 1)]), [0], none⟩,
 ⟨(some 3), .mv (.t 15), [1, 0, 1], none⟩]))))))
 (.seq
 (.reg false [⟨(some 60), .mv (.t 0), [], none⟩,
 ⟨(some 2), .mv (.t 60), [0, 0], none⟩])
 (.ret))))
theorem A76_comp : Tryz.f76.body.bind (comp Tryz.prog Tryz.f76.ntmps []) = some A76 := by kernel_rfl
end Go.Proofs.YtlbafapmhjfobaaGreatDoor
namespace Go.Proofs.YtlbafapmhjfobaaGreatDoor
set_option maxRecDepth 100000
attribute [local irreducible] LoopW LoopY RngW retPure retFresh retBox retTurn
variable {gl : Nat → Option (List AV)}

theorem triples_spec {xs : List V3} : Spec Tryz.prog gl 36 none [(false, [.li 3 (vcs xs)])] (.c false [.fn 77 [] [.ref [.li 3 (vcs xs)]]]) none := by
  refine spec_plain A36_comp Tryz.func36 Tryz.call36 fol Tryz.ntmps36 Tryz.results36 (argsB_spec rfl) (Nat.le_of_ble_eq_true rfl) (idf_c rfl) ?_
  (conv => whnf)
  refine ⟨mk [(1, .c false [.ref [.li 3 (vcs xs)]])] [] 100, .toF (fun b => b = 1) ⟨coeF.ref0 rfl rfl rfl, trivial⟩ trivial rfl rfl, ?_⟩
  (conv => whnf)
  exact retPure_ret rfl rfl

def flatB (xs : List V3) : Bool := match trip xs with | [] => true | p :: _ => !(xs.any fun v => side p v != 0)
theorem flat_spec {xs : List V3} (hx : xs.length ≤ 1000000) : Spec Tryz.prog gl 72 none [(false, [.li 3 (vcs xs)])] (.c false [.b (flatB xs)]) none := by
  refine spec_plain A72_comp Tryz.func72 Tryz.call72 fol Tryz.ntmps72 Tryz.results72 (argsB_spec rfl) (Nat.le_of_ble_eq_true rfl) (idf_c rfl) ?_
  ((conv => whnf); (repeat (refine ⟨Nat.le_of_ble_eq_true rfl, ?_⟩; (conv => whnf))))
  refine call_pure triples_spec rfl rfl rfl ?_
  (conv => whnf)
  refine rng_rule 77 [.ref [.li 3 (vcs xs)]] (pits (trip xs)) (fun k => k = 0) (fun _ => mk [(1, .c false [.ptr 1 0]), (2, .c false [.ptr 2 0]), (5, .c false [.fn 77 [] [.ref [.li 3 (vcs xs)]]])] [(1, .box [.li 3 (vcs xs)]), (2, .box [.b false])] 100)
    (triples_iter hx) rfl rfl rfl (.to ⟨rfl, rfl, rfl, trivial⟩ ⟨rfl, rfl, trivial⟩ rfl rfl) ?_ ?_
  · rintro k it hk rfl
    obtain ⟨p, hp, rfl⟩ : ∃ p, (trip xs)[0]? = some p ∧ (true, p.cs) = it := by simpa using hk
    ((conv => whnf); (repeat (first | (refine ⟨rfl, ?_⟩; (conv => whnf)) | (refine ⟨Nat.le_of_ble_eq_true rfl, ?_⟩; (conv => whnf)))))
    refine ⟨mk [(1, .c false [.ptr 1 0]), (2, .c false [.ptr 2 0]), (3, .c false [.ref p.cs])] [(1, .box [.li 3 (vcs xs)]), (2, .box [.b false])] 200, .toF (fun b => b = 100) ⟨coeFS.refl _, coeFS.refl _, coeF.ref0 rfl rfl rfl, trivial⟩
      ⟨⟨fun h => absurd h (by omega), _, rfl, coeF.refl _⟩, ⟨fun h => absurd h (by omega), _, rfl, coeF.refl _⟩, trivial⟩ rfl rfl, ?_⟩
    ((conv => whnf); (repeat (refine ⟨Nat.le_of_ble_eq_true rfl, ?_⟩; (conv => whnf))))
    refine call_pure (containsV_spec (p := fun v => side p v != 0) hx ⟨rfl, fun v _ => flat1_spec p v⟩) rfl rfl rfl ?_
    ((conv => whnf); (repeat (first | (refine ⟨rfl, ?_⟩; (conv => whnf)) | (refine ⟨Nat.le_of_ble_eq_true rfl, ?_⟩; (conv => whnf)))))
    refine retPure_ret rfl ?_
    have : flatB xs = !(xs.any fun v => side p v != 0) := by
      unfold flatB
      cases ht : trip xs with
      | nil => rw [ht] at hp; cases hp
      | cons q r => rw [ht] at hp; simp at hp; subst hp; rfl
    rw [this]; rfl
  · intro hn
    ((conv => whnf); (repeat (first | (refine ⟨rfl, ?_⟩; (conv => whnf)) | (refine ⟨Nat.le_of_ble_eq_true rfl, ?_⟩; (conv => whnf)))))
    refine retPure_ret rfl ?_
    have : trip xs = [] := by simpa using hn
    unfold flatB
    rw [this]; rfl

/-- the error of a list of points -/
def chkV (xs : List V3) : Int := if 48 < xs.length then 2 else if xs.any (fun v => !v.inB) then 3 else if flatB xs then 11 else 0
theorem check_spec {xs : List V3} (hx : xs.length ≤ 1000000) : Spec Tryz.prog gl 34 none [(false, [.li 3 (vcs xs)])] (.c false [.i (chkV xs)]) none := by
  refine spec_plain A34_comp Tryz.func34 Tryz.call34 fol Tryz.ntmps34 Tryz.results34 (argsB_spec rfl) (Nat.le_of_ble_eq_true rfl) (idf_c rfl) ?_
  ((conv => whnf); (repeat (refine ⟨rfl, ?_⟩; (conv => whnf))))
  refine ⟨fun h1 => ?_, fun h1 => ?_⟩
  · have h1' : 48 < xs.length := by have h2 := of_decide_eq_true h1; simp at h2; omega
    (conv => whnf)
    refine retPure_ret rfl ?_
    exact eq1 (by rw [chkV, if_pos h1'])
  · have h1' : ¬ 48 < xs.length := by have h2 := of_decide_eq_false h1; simp at h2; omega
    (conv => whnf)
    refine call_pure (containsV_spec (p := fun v => !v.inB) hx ⟨rfl, fun v _ => check1_spec v⟩) rfl rfl rfl ?_
    (conv => whnf)
    cases h2 : xs.any (fun v => !v.inB)
    · ((conv => whnf); (repeat (refine ⟨fun h => Bool.noConfusion h, fun _ => ?_⟩; (conv => whnf))))
      refine call_pure (flat_spec hx) rfl rfl rfl ?_
      (conv => whnf)
      cases h3 : flatB xs
      · ((conv => whnf); (repeat (refine ⟨fun h => Bool.noConfusion h, fun _ => ?_⟩; (conv => whnf))))
        refine retPure_ret rfl ?_
        exact eq1 (by rw [chkV, if_neg h1', h2, h3]; rfl)
      · ((conv => whnf); (repeat (refine ⟨fun _ => ?_, fun h => Bool.noConfusion h⟩; (conv => whnf))))
        refine retPure_ret rfl ?_
        exact eq1 (by rw [chkV, if_neg h1', h2, h3]; rfl)
    · ((conv => whnf); (repeat (refine ⟨fun _ => ?_, fun h => Bool.noConfusion h⟩; (conv => whnf))))
      refine retPure_ret rfl ?_
      exact eq1 (by rw [chkV, if_neg h1', h2]; rfl)
end Go.Proofs.YtlbafapmhjfobaaGreatDoor
namespace Go.Proofs.YtlbafapmhjfobaaGreatDoor
set_option maxRecDepth 100000
attribute [local irreducible] LoopW LoopY RngW retPure retFresh retBox retTurn
variable {gl : Nat → Option (List AV)}

theorem vcs_set {xs : List V3} {i : Nat} {v : V3} (hi : i < xs.length) : (vcs xs).set i (putAt ((vcs xs).getD i []) 0 v.cs) = vcs (xs.set i v) := by
  have : (vcs xs).getD i [] = (xs[i]).cs := by simp [hi]
  rw [this]
  simp [putAt, List.map_set, V3.cs]
def kept (p : V3 → Bool) (xs : List V3) (j : Nat) : List V3 := (xs.take j).filter fun v => !p v
theorem deleteV_spec {f : Nat} {caps : List AV} {p : V3 → Bool} {xs : List V3} (hx : xs.length ≤ 1000000) (ht : Test gl V3.cs p f caps xs) :
    Spec Tryz.prog gl 45 (some (.row 3 (vcs xs))) [(false, [.own 0 xs.length]), (false, [.fn f [] caps])] (.c false [.own 0 (vcs (xs.filter fun v => !p v)).length]) (some (.row 3 (vcs (xs.filter fun v => !p v)))) := by
  refine spec_turn' A45_comp Tryz.func45 Tryz.call45 fol Tryz.ntmps45 Tryz.results45 ?_ (Nat.le_of_ble_eq_true rfl) rfl ?_
  · intro q hq x hx
    simp only [List.mem_cons, List.not_mem_nil, or_false] at hq
    rcases hq with rfl | rfl
    · simp only [List.mem_singleton] at hx
      subst hx
      intro b hb
      simp only [AV.id?, Option.some.injEq] at hb
      subst hb
      refine ⟨Nat.zero_lt_one, fun k ys hk => ?_⟩
      cases hk
      simp
    · simp only [List.mem_singleton] at hx
      subst hx
      exact .none_id rfl
  · (conv => whnf)
    refine call_lend (indexV_spec hx ht) ⟨coeV.one (coeA.own (k := 3) (xs := vcs xs) rfl (by simp)), coeV.one (coeA.self rfl), trivial⟩ (by intro y hy; simp [SV.cells] at hy; exact ⟨_, hy⟩) ?_
    ((conv => whnf); (repeat (refine ⟨rfl, ?_⟩; (conv => whnf))))
    cases hf : xs.findIdx? p with
    | none =>
      have hi : idxI p xs = -1 := by simp [idxI, hf]
      rw [hi]
      ((conv => whnf); (repeat (refine ⟨fun _ => ?_, fun h => Bool.noConfusion h⟩; (conv => whnf))))
      have hfil : xs.filter (fun v => !p v) = xs := by
        rw [List.filter_eq_self]
        intro v hv
        have := List.findIdx?_eq_none_iff.1 hf v hv
        simp [this]
      rw [hfil]
      exact retTurn_own (ys := vcs xs) (by simp; rfl) rfl rfl rfl
    | some i0 =>
      obtain ⟨hi0, hp0, hbefore⟩ := List.findIdx?_eq_some_iff_getElem.1 hf
      have hi : idxI p xs = i0 := by simp [idxI, hf]
      rw [hi]
      have hne : ((i0 : Int) == -1) = false := beq_eq_false_iff_ne.2 (by omega)
      ((conv => whnf); (repeat (first | (refine ⟨rfl, ?_⟩; (conv => whnf)) | (refine ⟨fun h => Bool.noConfusion h, fun _ => ?_⟩; (conv => whnf)))))
      rw [hne]
      (conv => whnf)
      have hk0 : kept p xs (i0 + 1) = xs.take i0 := by
        unfold kept
        rw [List.take_add_one, List.getElem?_eq_getElem hi0, List.filter_append]
        have h1 : (xs.take i0).filter (fun v => !p v) = xs.take i0 := by
          rw [List.filter_eq_self]
          intro v hv
          obtain ⟨m, hm, rfl⟩ := List.mem_take_iff_getElem.1 hv
          have := hbefore m (by omega)
          simpa using this
        rw [h1]
        simp [hp0]
      refine W_loop (fun x : Nat × List V3 => i0 < x.1 ∧ x.1 ≤ xs.length ∧ x.2.length = xs.length ∧ x.2.take (kept p xs x.1).length = kept p xs x.1 ∧ x.2.drop x.1 = xs.drop x.1 ∧ (kept p xs x.1).length < x.1)
        (fun | (j, r) => mk [(0, .c false [.own 0 xs.length]), (1, .c false [.fn f [] caps]), (5, .c false [.i (kept p xs j).length]), (6, .c false [.i j])] [(0, .row 3 (vcs r))] 100)
        (fun x => xs.length - x.1) (i0 + 1, xs) ⟨by simp, by simp; omega, rfl, by rw [hk0]; simp, rfl, by simp only; rw [hk0]; simp; omega⟩ (.to ⟨rfl, rfl, eq1 (by rw [hk0]; simp; omega), eq1 (by rw [wr (by omega)]; simp), trivial⟩ ⟨rfl, trivial⟩ rfl rfl) ?_
      rintro ⟨j, r⟩ ⟨hj0, hj, hl, htk, hdr, hkl⟩
      simp only at hj0 hj hl htk hdr hkl
      (conv => whnf)
      refine ⟨by simp [hl], ?_⟩
      ((conv => whnf); (repeat (refine ⟨rfl, ?_⟩; (conv => whnf))))
      refine ⟨fun hlt => ?_, fun hge => ?_⟩
      · have hlt' : j < xs.length := by have := of_decide_eq_true hlt; omega
        have hrj : r[j]'(by omega) = xs[j] := by
          have h1 : (r.drop j)[0]? = (xs.drop j)[0]? := by rw [hdr]
          simp [hlt', show j < r.length by omega] at h1
          exact h1
        have hjr : j < (vcs r).length := by simp; omega
        ((conv => whnf); (repeat (refine ⟨rfl, ?_⟩; (conv => whnf))))
        refine ⟨by simp [hl], ⟨by simp, by simp; omega⟩, ?_⟩
        ((conv => whnf); (repeat (refine ⟨rfl, ?_⟩; (conv => whnf))))
        refine ⟨by simp; omega, Nat.le_refl _, ?_⟩
        have e : ((vcs r).getD (j : Int).toNat []) = (xs[j]).cs := by
          have : j < r.length := by omega
          simp [this, hrj]
        rw [e]
        ((conv => whnf); (repeat (first | (refine ⟨rfl, ?_⟩; (conv => whnf)) | (refine ⟨Nat.le_of_ble_eq_true rfl, ?_⟩; (conv => whnf)))))
        refine call_test ht (x := xs[j]) (by simp) rfl rfl ?_
        (conv => whnf)
        cases hp : p xs[j]
        · have hks : kept p xs (j + 1) = kept p xs j ++ [xs[j]] := by
            unfold kept
            rw [List.take_add_one, List.getElem?_eq_getElem hlt', List.filter_append]
            simp [hp]
          ((conv => whnf); (repeat (first | (refine ⟨rfl, ?_⟩; (conv => whnf)) | (refine ⟨Nat.le_of_ble_eq_true rfl, ?_⟩; (conv => whnf)) | (refine ⟨fun _ => ?_, fun h => Bool.noConfusion h⟩; (conv => whnf)))))
          refine ⟨by simp [hl], ⟨by omega, by simp; omega⟩, ?_⟩
          ((conv => whnf); (repeat (refine ⟨rfl, ?_⟩; (conv => whnf))))
          refine ⟨by simp; omega, rfl, Nat.le_refl _, rfl, ?_⟩
          ((conv => whnf); (repeat (refine ⟨rfl, ?_⟩; (conv => whnf))))
          have hset := vcs_set (xs := r) (i := ((kept p xs j).length : Int).toNat) (v := xs[j]) (by simp; omega)
          refine ⟨(j + 1, r.set (kept p xs j).length xs[j]), ⟨by simp only; omega, by simp only; omega, by simp [hl], ?_, ?_, by simp only; rw [hks]; simp; omega⟩, by simp only; omega, .to ⟨rfl, rfl, eq1 ?_, eq1 (by rw [wr (by omega)]; simp), trivial⟩ ⟨?_, trivial⟩ rfl rfl⟩
          · simp only
            rw [hks]
            have : (kept p xs j ++ [xs[j]]).length = (kept p xs j).length + 1 := by simp
            rw [this, List.take_add_one, List.take_set_of_le (Nat.le_refl _), htk]
            simp [show (kept p xs j).length < r.length by omega]
          · simp only
            rw [List.drop_set_of_lt (by omega)]
            have : (r.drop j).drop 1 = (xs.drop j).drop 1 := by rw [hdr]
            simpa [List.drop_drop] using this
          · rw [hks, wr (by omega)]; simp
          · refine congrArg some (congrArg (HE.row 3) ?_)
            refine Eq.trans hset ?_
            simp
        · have hks : kept p xs (j + 1) = kept p xs j := by
            unfold kept
            rw [List.take_add_one, List.getElem?_eq_getElem hlt', List.filter_append]
            simp [hp]
          ((conv => whnf); (repeat (first | (refine ⟨rfl, ?_⟩; (conv => whnf)) | (refine ⟨fun h => Bool.noConfusion h, fun _ => ?_⟩; (conv => whnf)))))
          refine ⟨(j + 1, r), ⟨by simp only; omega, by simp only; omega, hl, ?_, ?_, by simp only; rw [hks]; omega⟩, by simp only; omega, .to ⟨rfl, rfl, eq1 (by rw [hks]), eq1 (by rw [wr (by omega)]; simp), trivial⟩ ⟨rfl, trivial⟩ rfl rfl⟩
          · simp only
            rw [hks]; exact htk
          · simp only
            have : (r.drop j).drop 1 = (xs.drop j).drop 1 := by rw [hdr]
            simpa [List.drop_drop] using this
      · have hjn : j = xs.length := by have := of_decide_eq_false hge; omega
        subst hjn
        (conv => whnf)
        refine ⟨⟨rfl, by simp [hl]⟩, ⟨by simp, by simp; omega, Int.le_refl _⟩, ?_⟩
        (conv => whnf)
        refine ⟨⟨rfl, by simp [hl]⟩, ⟨by simp; omega, by simp⟩, ?_⟩
        (conv => whnf)
        have hlen2 : ((vcs r).take (((kept p xs xs.length).length : Int)).toNat ++ (List.replicate ((((vcs r).length : Int)).toNat - (((kept p xs xs.length).length : Int)).toNat) [AV.v (Value.int IntKind.i64 0), AV.v (Value.int IntKind.i64 0), AV.v (Value.int IntKind.i64 0)] ++ (vcs r).drop (((vcs r).length : Int)).toNat)).length = xs.length := by
          simp; omega
        refine ⟨⟨rfl, hlen2.symm⟩, ⟨Int.le_refl _, by simp, by rw [hlen2]; omega⟩, ?_⟩
        (conv => whnf)
        refine retTurn_part (kept p xs xs.length).length (by simp; rfl) rfl (by simpa using hlen2) (by simp; omega) ?_
        have e1 : ((kept p xs xs.length).length : Int).toNat = (kept p xs xs.length).length := by simp
        rw [e1, List.take_append_of_le_length (by simp; omega)]
        have e2 : xs.filter (fun v => !p v) = kept p xs xs.length := by simp [kept]
        rw [e2]
        conv => lhs; rw [← htk]
        simp [List.map_take, List.take_take]
end Go.Proofs.YtlbafapmhjfobaaGreatDoor
namespace Go.Proofs.YtlbafapmhjfobaaGreatDoor
set_option maxRecDepth 100000
attribute [local irreducible] LoopW LoopY RngW retPure retFresh retBox retTurn
variable {gl : Nat → Option (List AV)}

/-- of the first j elements: each that is not the one before it -/
def cpV (xs : List V3) : Nat → List V3
  | 0 => []
  | j + 1 => match xs[j]? with
    | none => cpV xs j
    | some v => if j ≠ 0 ∧ xs[j - 1]? = some v then cpV xs j else cpV xs j ++ [v]
theorem cpV_same {xs : List V3} {j : Nat} (hj : j < xs.length) (h0 : j ≠ 0) (h : xs[j] = xs[j - 1]) : cpV xs (j + 1) = cpV xs j := by
  have h1 : xs[j]? = some xs[j] := by simp [hj]
  have h2 : xs[j - 1]? = some xs[j - 1] := by simp [show j - 1 < xs.length by omega]
  simp only [cpV, h1, h2, h]
  simp [h0]
theorem cpV_new {xs : List V3} {j : Nat} (hj : j < xs.length) (h : j = 0 ∨ xs[j] ≠ xs[j - 1]) : cpV xs (j + 1) = cpV xs j ++ [xs[j]] := by
  have h1 : xs[j]? = some xs[j] := by simp [hj]
  have h2 : xs[j - 1]? = some xs[j - 1] := by simp [show j - 1 < xs.length by omega]
  simp only [cpV, h1, h2]
  rw [if_neg]
  rintro ⟨h3, h4⟩
  rcases h with h | h
  · exact h3 h
  · exact h (Option.some.inj h4).symm
theorem cpV_len (xs : List V3) : ∀ j, (cpV xs j).length ≤ j
  | 0 => by simp [cpV]
  | j + 1 => by
    have := cpV_len xs j
    simp only [cpV]
    split
    · omega
    · split <;> simp <;> omega
theorem eqVV (a b : V3) : eqVs [.int .i64 a.x, .int .i64 a.y, .int .i64 a.z] [.int .i64 b.x, .int .i64 b.y, .int .i64 b.z] = decide (a = b) := by
  rw [Bool.eq_iff_iff]
  cases a; cases b
  simp [eqVs]
theorem vcs_at {xs : List V3} {i : Int} {j : Nat} (hj : i.toNat = j) (h : j < xs.length) : (vcs xs).getD i.toNat [] = (xs[j]).cs := by
  subst hj; simp [h]
theorem compactV_spec {xs : List V3} (hx : xs.length ≤ 1000000) :
    Spec Tryz.prog gl 76 (some (.row 3 (vcs xs))) [(false, [.own 0 xs.length])] (.c false [.own 0 (vcs (cpV xs xs.length)).length]) (some (.row 3 (vcs (cpV xs xs.length)))) := by
  refine spec_turn' A76_comp Tryz.func76 Tryz.call76 fol Tryz.ntmps76 Tryz.results76 ?_ (Nat.le_of_ble_eq_true rfl) rfl ?_
  · intro q hq x hx
    simp only [List.mem_cons, List.not_mem_nil, or_false] at hq
    subst hq
    simp only [List.mem_singleton] at hx
    subst hx
    intro b hb
    simp only [AV.id?, Option.some.injEq] at hb
    subst hb
    refine ⟨Nat.zero_lt_one, fun k ys hk => ?_⟩
    cases hk
    simp
  (conv => whnf)
  refine ⟨by simp, ?_⟩
  ((conv => whnf); (repeat (refine ⟨rfl, ?_⟩; (conv => whnf))))
  refine ⟨fun h2 => ?_, fun h2 => ?_⟩
  · have h2' := of_decide_eq_true h2
    (conv => whnf)
    have : cpV xs xs.length = xs := by
      match xs, h2' with
      | [], _ => rfl
      | [a], _ => rfl
      | a :: b :: r, h => simp at h; omega
    rw [this]
    exact retTurn_own (ys := vcs xs) (by simp; rfl) rfl rfl rfl
  · have h2' := of_decide_eq_false h2
    (conv => whnf)
    refine W_loop (fun k : Nat => 1 ≤ k ∧ k ≤ xs.length ∧ cpV xs k = xs.take k)
      (fun k => mk [(0, .c false [.own 0 xs.length]), (3, .c false [.i k])] [(0, .row 3 (vcs xs))] 100) (fun k => xs.length - k) 1 ⟨by omega, by omega, ?_⟩ (.to ⟨rfl, rfl, trivial⟩ ⟨rfl, trivial⟩ rfl rfl) ?_
    · rw [cpV_new (j := 0) (by omega) (.inl rfl), List.take_add_one]
      simp [cpV, show 0 < xs.length by omega]
    rintro k ⟨hk1, hk, htk⟩
    (conv => whnf)
    refine ⟨by simp, ?_⟩
    ((conv => whnf); (repeat (refine ⟨rfl, ?_⟩; (conv => whnf))))
    refine ⟨fun hlt => ?_, fun hge => ?_⟩
    · have hlt' : k < xs.length := by have := of_decide_eq_true hlt; omega
      ((conv => whnf); (repeat (refine ⟨rfl, ?_⟩; (conv => whnf))))
      refine ⟨by simp, ⟨by omega, by simp; omega⟩, ?_⟩
      ((conv => whnf); (repeat (refine ⟨rfl, ?_⟩; (conv => whnf))))
      refine ⟨by simp; omega, Nat.le_refl _, ?_⟩
      rw [vcs_at (j := k) (by simp) hlt']
      ((conv => whnf); (repeat (refine ⟨rfl, ?_⟩; (conv => whnf))))
      have hw : IntKind.i64.wrap ((k : Int) - 1) = (k : Int) - 1 := wr ⟨by omega, by omega⟩
      rw [hw]
      refine ⟨by simp, ⟨by omega, by simp; omega⟩, ?_⟩
      ((conv => whnf); (repeat (refine ⟨rfl, ?_⟩; (conv => whnf))))
      refine ⟨by simp; omega, Nat.le_refl _, ?_⟩
      rw [vcs_at (i := (k : Int) - 1) (j := k - 1) (by omega) (by omega)]
      ((conv => whnf); (repeat (first | (refine ⟨(by kernel_rfl : chk _ _ = true), ?_⟩; (conv => whnf)) | (refine ⟨rfl, ?_⟩; (conv => whnf)))))
      have he := eqVV xs[k] xs[k - 1]
      rw [he]
      cases hb : decide (xs[k] = xs[k - 1])
      · have hne := of_decide_eq_false hb
        ((conv => whnf); (repeat (first | (refine ⟨rfl, ?_⟩; (conv => whnf)) | (refine ⟨fun h => Bool.noConfusion h, fun _ => ?_⟩; (conv => whnf)))))
        refine ⟨k + 1, ⟨by omega, by omega, ?_⟩, by omega, .to ⟨rfl, eq1 (by rw [wr (by omega)]; simp), trivial⟩ ⟨rfl, trivial⟩ rfl rfl⟩
        rw [cpV_new hlt' (.inr hne), htk, List.take_add_one, List.getElem?_eq_getElem hlt']
        rfl
      · have heq := of_decide_eq_true hb
        ((conv => whnf); (repeat (refine ⟨fun _ => ?_, fun h => Bool.noConfusion h⟩; (conv => whnf))))
        refine ⟨⟨rfl, by simp⟩, ⟨by omega, by simp; omega, Int.le_refl _⟩, ?_⟩
        (conv => whnf)
        have hc1 : cpV xs (k + 1) = cpV xs k := cpV_same hlt' (by omega) heq
        refine W_loop (fun y : Nat × List V3 => 1 ≤ y.1 ∧ k + y.1 ≤ xs.length ∧ y.2.length = xs.length ∧ (cpV xs (k + y.1)).length + 1 ≤ k + y.1 ∧ y.2.take (cpV xs (k + y.1)).length = cpV xs (k + y.1) ∧ y.2.drop (k + y.1 - 1) = xs.drop (k + y.1 - 1))
          (fun | (m, r) => mk [(0, .c false [.own 0 xs.length]), (3, .c false [.i (cpV xs (k + m)).length]), (4, .c false [.part 0 xs.length k xs.length]), (5, .c false [.i m])] [(0, .row 3 (vcs r))] 100)
          (fun y => xs.length - k - y.1) (1, xs) ⟨by simp, by simp only; omega, rfl, ?_, ?_, rfl⟩ (.to ⟨rfl, eq1 ?_, ?_, rfl, trivial⟩ ⟨rfl, trivial⟩ rfl rfl) ?_
        · simp only; rw [hc1, htk]; simp; omega
        · simp only; rw [hc1, htk]; simp
        · rw [hc1, htk]; simp; omega
        · exact congrArg (fun x => SV.c false [x]) (by simp)
        rintro ⟨m, r⟩ ⟨hm1, hm, hl, hlen, hrt, hrd⟩
        simp only at hm1 hm hl hlen hrt hrd
        (conv => whnf)
        refine ⟨⟨by simp [hl], by simp [hl]⟩, ?_⟩
        ((conv => whnf); (repeat (refine ⟨rfl, ?_⟩; (conv => whnf))))
        refine ⟨fun hlt2 => ?_, fun hge2 => ?_⟩
        · have hlt2' : k + m < xs.length := by have := of_decide_eq_true hlt2; omega
          have hr0 : r[k + m - 1]'(by omega) = xs[k + m - 1] := by
            have h1 : (r.drop (k + m - 1))[0]? = (xs.drop (k + m - 1))[0]? := by rw [hrd]
            simp [show k + m - 1 < xs.length by omega, show k + m - 1 < r.length by omega] at h1
            exact h1
          have hr1 : r[k + m]'(by omega) = xs[k + m] := by
            have h1 : (r.drop (k + m - 1))[1]? = (xs.drop (k + m - 1))[1]? := by rw [hrd]
            simp [show k + m - 1 + 1 = k + m by omega, hlt2', show k + m < r.length by omega] at h1
            exact h1
          (conv => whnf)
          refine ⟨⟨rfl, by simp [hl]⟩, ⟨by omega, by simp; omega, by simp [hl]⟩, ?_⟩
          ((conv => whnf); (repeat (refine ⟨rfl, ?_⟩; (conv => whnf))))
          refine ⟨by simp; omega, Nat.le_refl _, ?_⟩
          have e1 : ((vcs r).getD (k + (m : Int).toNat) []) = (xs[k + m]).cs := by
            have : k + m < r.length := by omega
            simp [this, hr1]
          rw [e1]
          ((conv => whnf); (repeat (refine ⟨rfl, ?_⟩; (conv => whnf))))
          have hw : IntKind.i64.wrap ((m : Int) - 1) = (m : Int) - 1 := wr ⟨by omega, by omega⟩
          rw [hw]
          refine ⟨⟨rfl, by simp [hl]⟩, ⟨by omega, by omega, by simp [hl]⟩, ?_⟩
          ((conv => whnf); (repeat (refine ⟨rfl, ?_⟩; (conv => whnf))))
          refine ⟨by simp; omega, Nat.le_refl _, ?_⟩
          have e2 : ((vcs r).getD (k + ((m : Int) - 1).toNat) []) = (xs[k + m - 1]).cs := by
            have : k + m - 1 < r.length := by omega
            have h2 : k + ((m : Int) - 1).toNat = k + m - 1 := by omega
            rw [h2]
            simp [this, hr0]
          rw [e2]
          ((conv => whnf); (repeat (first | (refine ⟨(by kernel_rfl : chk _ _ = true), ?_⟩; (conv => whnf)) | (refine ⟨rfl, ?_⟩; (conv => whnf)))))
          have he := eqVV xs[k + m] xs[k + m - 1]
          rw [he]
          cases hb2 : decide (xs[k + m] = xs[k + m - 1])
          · have hne := of_decide_eq_false hb2
            have hnew : cpV xs (k + m + 1) = cpV xs (k + m) ++ [xs[k + m]] := cpV_new hlt2' (.inr hne)
            ((conv => whnf); (repeat (refine ⟨fun _ => ?_, fun h => Bool.noConfusion h⟩; (conv => whnf))))
            refine ⟨⟨rfl, by simp [hl]⟩, ⟨by omega, by simp; omega, by simp [hl]⟩, ?_⟩
            ((conv => whnf); (repeat (refine ⟨rfl, ?_⟩; (conv => whnf))))
            refine ⟨by simp; omega, Nat.le_refl _, ?_⟩
            rw [e1]
            ((conv => whnf); (repeat (refine ⟨rfl, ?_⟩; (conv => whnf))))
            refine ⟨by simp [hl], ⟨by omega, by simp; omega⟩, ?_⟩
            ((conv => whnf); (repeat (refine ⟨rfl, ?_⟩; (conv => whnf))))
            refine ⟨by simp; omega, rfl, Nat.le_refl _, rfl, ?_⟩
            ((conv => whnf); (repeat (refine ⟨rfl, ?_⟩; (conv => whnf))))
            have hset := vcs_set (xs := r) (i := ((cpV xs (k + m)).length : Int).toNat) (v := xs[k + m]) (by simp; omega)
            have hnl : (cpV xs (k + m + 1)).length = (cpV xs (k + m)).length + 1 := by rw [hnew]; simp
            refine ⟨(m + 1, r.set (cpV xs (k + m)).length xs[k + m]), ⟨by simp only; omega, by simp only; omega, by simp [hl], ?_, ?_, ?_⟩, by simp only; omega, .to ⟨rfl, eq1 ?_, rfl, eq1 (by rw [wr (by omega)]; simp), trivial⟩ ⟨?_, trivial⟩ rfl rfl⟩
            · simp only
              show (cpV xs (k + m + 1)).length + 1 ≤ k + m + 1
              omega
            · simp only
              show (r.set (cpV xs (k + m)).length xs[k + m]).take (cpV xs (k + m + 1)).length = cpV xs (k + m + 1)
              rw [hnl, hnew, List.take_add_one, List.take_set_of_le (Nat.le_refl _), hrt]
              simp [show (cpV xs (k + m)).length < r.length by omega]
            · simp only
              show (r.set (cpV xs (k + m)).length xs[k + m]).drop (k + m + 1 - 1) = xs.drop (k + m + 1 - 1)
              rw [List.drop_set_of_lt (by omega)]
              have : (r.drop (k + m - 1)).drop 1 = (xs.drop (k + m - 1)).drop 1 := by rw [hrd]
              rw [List.drop_drop, List.drop_drop] at this
              rw [show k + m + 1 - 1 = k + m - 1 + 1 by omega]; exact this
            · show _ = ((cpV xs (k + m + 1)).length : Int)
              rw [hnl, wr (by omega)]; simp
            · refine congrArg some (congrArg (HE.row 3) ?_)
              refine Eq.trans hset ?_
              simp
          · have heq2 := of_decide_eq_true hb2
            have hsame : cpV xs (k + m + 1) = cpV xs (k + m) := cpV_same hlt2' (by omega) heq2
            ((conv => whnf); (repeat (first | (refine ⟨rfl, ?_⟩; (conv => whnf)) | (refine ⟨fun h => Bool.noConfusion h, fun _ => ?_⟩; (conv => whnf)))))
            refine ⟨(m + 1, r), ⟨by simp only; omega, by simp only; omega, hl, ?_, ?_, ?_⟩, by simp only; omega, .to ⟨rfl, eq1 ?_, rfl, eq1 (by rw [wr (by omega)]; simp), trivial⟩ ⟨rfl, trivial⟩ rfl rfl⟩
            · show (cpV xs (k + m + 1)).length + 1 ≤ k + m + 1
              rw [hsame]; omega
            · show r.take (cpV xs (k + m + 1)).length = cpV xs (k + m + 1)
              rw [hsame]; exact hrt
            · show r.drop (k + m + 1 - 1) = xs.drop (k + m + 1 - 1)
              have : (r.drop (k + m - 1)).drop 1 = (xs.drop (k + m - 1)).drop 1 := by rw [hrd]
              rw [List.drop_drop, List.drop_drop] at this
              rw [show k + m + 1 - 1 = k + m - 1 + 1 by omega]; exact this
            · show _ = ((cpV xs (k + m + 1)).length : Int)
              rw [hsame]
        · have hmn : k + m = xs.length := by have := of_decide_eq_false hge2; omega
          (conv => whnf)
          refine ⟨⟨rfl, by simp [hl]⟩, ⟨by omega, by simp; omega, Int.le_refl _⟩, ?_⟩
          (conv => whnf)
          refine ⟨⟨rfl, by simp [hl]⟩, ⟨by simp; omega, by simp⟩, ?_⟩
          (conv => whnf)
          have hlen2 : ((vcs r).take (((cpV xs (k + m)).length : Int)).toNat ++ (List.replicate ((((vcs r).length : Int)).toNat - (((cpV xs (k + m)).length : Int)).toNat) [AV.v (Value.int IntKind.i64 0), AV.v (Value.int IntKind.i64 0), AV.v (Value.int IntKind.i64 0)] ++ (vcs r).drop (((vcs r).length : Int)).toNat)).length = xs.length := by
            simp; omega
          refine ⟨⟨rfl, hlen2.symm⟩, ⟨Int.le_refl _, by simp, by rw [hlen2]; omega⟩, ?_⟩
          (conv => whnf)
          refine retTurn_part (cpV xs (k + m)).length (by simp; rfl) rfl (by simpa using hlen2) (by simp; omega) ?_
          have e1 : ((cpV xs (k + m)).length : Int).toNat = (cpV xs (k + m)).length := by simp
          rw [e1, List.take_append_of_le_length (by simp; omega)]
          rw [← hmn]
          conv => lhs; rw [← hrt]
          simp [List.map_take, List.take_take]
    · have hkn : k = xs.length := by have := of_decide_eq_false hge; omega
      subst hkn
      (conv => whnf)
      rw [htk, List.take_length]
      exact retTurn_own (ys := vcs xs) (by simp; rfl) rfl rfl rfl
end Go.Proofs.YtlbafapmhjfobaaGreatDoor
