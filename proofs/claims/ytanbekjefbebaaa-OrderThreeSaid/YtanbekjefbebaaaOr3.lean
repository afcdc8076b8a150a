/-
  Chapter 03, order: the library's sorting, told to the evaluator.
  It speaks of the pinned program alone; no condition.
-/
import Derived.Test.YtanbekjefbebaaaOr2
namespace Go.Proofs.Ytanbekjefbebaaa.V
open Go Go.Proofs Go.Shelf Go.RowKit Go.Lib Go.Sort
set_option linter.unusedVariables false
set_option linter.unusedSimpArgs false

abbrev wT : Ty := .slice (.int .i64)
def srtF (A : Ar) : List X → Hp → Tr (X × Hp)
  | [.mref (.slice (.int .i64)) 0 [] 0 n, .fn f [] []], [(.arr m (.slice (.int .i64)), .d (.arr q (.slice (.int .i64))) l)] =>
    .test (A.se (decide (f = 23 ∧ m = n ∧ q = n ∧ n ≤ 1000000) && l.all fun x => decide (List.length x ≤ 1000000)))
      (.give (.tup [], [(.arr m (.slice (.int .i64)), .d (.arr q (.slice (.int .i64))) (A.se (srtL l)))])) .no
  | [.sl (.slice (.int .i64)) [] nl false, .fn f [] []], H => .give (.tup [], H)
  | _, _ => .no

/-- The cells of a variable's words. -/
theorem word_at {g : Ghost} {w : World} {x : List Int} {cs : List Value} (h : RepC w g wT x cs) (hl : x.length ≤ 1000000) : ∃ v, cs = [v] ∧ v.oneCell' = true ∧ WordAt w v x ∧ ∀ W : World, (∀ b off, off < g.U b → W.cell? ⟨b, off, none⟩ = w.cell? ⟨b, off, none⟩) → WordAt W v x := by
  obtain ⟨a, c, rfl, hc, hr⟩ := h
  have key : ∀ W : World, (∀ b off, off < g.U b → W.cell? ⟨b, off, none⟩ = w.cell? ⟨b, off, none⟩) → WordAt W (.slice a x.length c) x := fun W hW => by
    refine ⟨a, c, rfl, by omega, fun j hj => ?_⟩
    obtain ⟨A, cs, e1, e2, e3, e4, e5⟩ := hr j hj
    obtain ⟨b, o, s⟩ := A
    simp only at e2
    subst e2
    have e4' : cs = [.int .i64 (x[j])] := e4
    subst e4'
    obtain ⟨k1, k2⟩ := e5 0 (by simp)
    simp only [Ty.size, Nat.mul_one, Nat.add_zero, List.getElem_cons_zero] at k1 k2
    refine ⟨b, o, e1, ?_⟩
    rw [hW _ _ k2, k1, List.getD_eq_getElem?_getD, List.getElem?_eq_getElem hj]
    rfl
  exact ⟨_, rfl, rfl, key w (fun _ _ _ => rfl), key⟩

theorem parts_words {R : List Int → List Value → Prop} (hR : ∀ x cs, R x cs → cs.length = 1) : ∀ (l : List (List Int)) (cs : List Value), Parts R l cs ↔ cs.length = l.length ∧ ∀ i (h : i < l.length) (h' : i < cs.length), R l[i] [cs[i]] := by
  intro l
  induction l with
  | nil =>
    intro cs
    simp only [Parts, List.length_nil]
    constructor
    · rintro rfl; exact ⟨rfl, fun i h => absurd h (Nat.not_lt_zero _)⟩
    · rintro ⟨h, _⟩; exact List.eq_nil_of_length_eq_zero h
  | cons x l ih =>
    intro cs
    simp only [Parts]
    constructor
    · rintro ⟨c1, c2, rfl, h1, h2⟩
      have hl := hR _ _ h1
      obtain ⟨c, rfl⟩ := List.length_eq_one_iff.1 hl
      obtain ⟨k1, k2⟩ := (ih c2).1 h2
      refine ⟨by simp [k1], fun i hi hi' => ?_⟩
      cases i with
      | zero => exact h1
      | succ i => exact k2 i (by simpa using hi) (by simpa using hi')
    · rintro ⟨h1, h2⟩
      cases cs with
      | nil => simp at h1
      | cons c cs =>
        refine ⟨[c], cs, rfl, h2 0 (by simp) (by simp), (ih cs).2 ⟨by simpa using h1, fun i hi hi' => h2 (i + 1) (by simpa using hi) (by simpa using hi')⟩⟩

/-- From numbers in order to words in order. -/
theorem sorted_words {l : List (List Int)} {d' : Array Nat} (hp : PermIn 0 l.length (Array.range l.length) d') (hs : SortedIn (ltOf fun i j => cmpL (l.getD i []) (l.getD j [])) 0 l.length d') :
    d'.toList.map (fun i => l.getD i []) = srtL l ∧ ∀ i ∈ d'.toList, i < l.length := by
  obtain ⟨p1, _, p2⟩ := hp
  rw [Array.size_range] at p1
  have e1 : d'.extract 0 l.length = d' := by rw [← p1]; exact Array.extract_size
  have e2 : (Array.range l.length).extract 0 l.length = Array.range l.length := by
    conv => lhs; arg 3; rw [← Array.size_range (n := l.length)]
    exact Array.extract_size
  rw [e1, e2, Array.toList_range] at p2
  have hmem : ∀ i ∈ d'.toList, i < l.length := fun i hi => by simpa using p2.subset hi
  have hpm : (d'.toList.map (fun i => l.getD i [])).Perm l := by
    have := p2.map (fun i => l.getD i [])
    refine this.trans (List.Perm.of_eq ?_)
    refine List.ext_getElem (by simp) fun i h1 h2 => ?_
    simp [List.getD_eq_getElem?_getD, List.getElem?_eq_getElem h2]
  have hlen : (d'.toList.map (fun i => l.getD i [])).length = l.length := by simp [p1]
  refine ⟨?_, hmem⟩
  have := sorted_unique_holds (lt := ltL) swoL (fun x y h1 h2 => ltL_anti h1 h2) l.toArray (d'.toList.map (fun i => l.getD i [])).toArray
    ⟨by simp [p1], fun i hi => by
      have h : l.length ≤ i := by simpa using hi
      rw [getElem!_neg _ i (by simp [p1]; omega), getElem!_neg _ i (by simp; omega)], by
      have q1 : (d'.toList.map (fun i => l.getD i [])).toArray.extract 0 l.toArray.size = (d'.toList.map (fun i => l.getD i [])).toArray := by
        rw [show l.toArray.size = (d'.toList.map (fun i => l.getD i [])).toArray.size from by simp [p1]]; exact Array.extract_size
      have q2 : l.toArray.extract 0 l.toArray.size = l.toArray := Array.extract_size
      rw [q1, q2]; simpa using hpm⟩ (fun i j h0 hij hj => by
      have hj' : j < l.length := by simpa using hj
      have := hs i j h0 hij hj'
      have g : ∀ k (hk : k < l.length), (d'.toList.map (fun i => l.getD i [])).toArray[k]! = l.getD (d'[k]!) [] := fun k hk => by
        rw [getElem!_pos _ k (by simp [p1]; exact hk), getElem!_pos d' k (by omega)]
        simp
      rw [g j hj', g i (by omega)]
      exact this)
  simpa [srtL] using this

end Go.Proofs.Ytanbekjefbebaaa.V
