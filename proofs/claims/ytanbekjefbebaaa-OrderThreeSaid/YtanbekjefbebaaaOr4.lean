/-
  Chapter 03, order: slices.SortFunc turns a variable's words into words in order.
  It speaks of the pinned program alone; no condition.
-/
import Derived.Test.YtanbekjefbebaaaOr3
namespace Go.Proofs.Ytanbekjefbebaaa.V
open Go Go.Proofs Go.Shelf Go.RowKit Go.Lib Go.Sort
set_option linter.unusedVariables false
set_option linter.unusedSimpArgs false

theorem heap_sortWorld_other {enc : Nat → Value} {w : World} {blk off m b : Nat} {dk : Array Nat} {os : Array Obj} (hb : b < w.heap.size) (hne : b ≠ blk) : (sortWorld enc w blk off m dk os).heap[b]? = w.heap[b]? := by
  unfold sortWorld
  rw [heap_grow_old _ _ (by rw [Go.Sort.size_putRow]; exact hb)]
  simp only [putRow, mapBlock, heap_ahead, Array.getElem?_modify]
  rw [if_neg (Ne.symm hne)]
theorem heap_sortWorld_row {enc : Nat → Value} {w : World} {blk off m : Nat} {dk : Array Nat} {os : Array Obj} {arr : Array Value} {T : Nat} {fr : Nat × Nat} (h : w.heap[blk]? = some (.cells arr T fr)) :
    (sortWorld enc w blk off m dk os).heap[blk]? = some (.cells (putCells enc off dk arr) T fr) := by
  have hb : blk < w.heap.size := (Array.getElem?_eq_some_iff.1 h).1
  unfold sortWorld
  rw [heap_grow_old _ _ (by rw [Go.Sort.size_putRow]; exact hb)]
  simp only [putRow, mapBlock, heap_ahead, Array.getElem?_modify]
  rw [if_pos trivial, h]
  rfl
theorem take_putCells {enc : Nat → Value} {n : Nat} {dk : Array Nat} {arr : Array Value} (hs : dk.size = n) (hn : n ≤ arr.size) : (putCells enc 0 dk arr).toList.take n = dk.toList.map enc := by
  refine List.ext_getElem? fun i => ?_
  rw [List.getElem?_take]
  by_cases hi : i < n
  · rw [if_pos hi, Array.getElem?_toList, List.getElem?_map, Array.getElem?_toList]
    simp only [putCells, Array.getElem?_mapIdx]
    rw [Array.getElem?_eq_getElem (show i < arr.size by omega), Array.getElem?_eq_getElem (show i < dk.size by omega)]
    simp only [Option.map_some]
    rw [if_pos ⟨by omega, by omega⟩, Nat.sub_zero, getElem!_pos dk i (by omega)]
  · rw [if_neg hi, List.getElem?_eq_none (by simp; omega)]

theorem srt_ok : OrcOk Try.prog 22 (.eff (srtF Ar.real)) := by
  show EffOk _ _ _
  refine ⟨fnOk (fn := Try.f22) (by kernel_rfl) (by decide +kernel) (by kernel_rfl), fun args H r H' hr g w d dh vs hd hw hH ha => ?_⟩
  replace hr : (srtF Ar.real args H).run some = some (r, H') := hr
  unfold srtF at hr
  split at hr
  · rename_i n f m q l
    obtain ⟨hg, he⟩ := Tr.one hr
    cases he
    simp only [rw_se, Bool.and_eq_true, decide_eq_true_eq, List.all_eq_true] at hg ⊢
    obtain ⟨⟨rfl, hm, hq, hn⟩, hl⟩ := hg
    replace hm := hm.symm
    replace hq := hq.symm
    subst hm
    subst hq
    simp only [RepXs] at ha
    obtain ⟨v0, us0, rfl, k0, v1, us1, rfl, k1, rfl⟩ := ha
    simp only [RepX, RepXs] at k0 k1
    obtain ⟨hN, n', o, a0, c, h2, h3, h4, rfl, h6⟩ := k0
    obtain ⟨w1, w2, rfl, rfl, rfl⟩ := k1
    simp only [pathAt, Option.some.injEq, Prod.mk.injEq] at h2
    obtain ⟨rfl, h2⟩ := h2
    obtain ⟨r1, r2, hlive⟩ := hH.2 0 _ _ rfl
    obtain ⟨r3, r4, r56⟩ := hlive.at (by simp)
    rw [h2] at r1
    cases r1
    obtain ⟨arr, tyo, fr, r5, rf, r6⟩ := r56.cells (p := []) rfl (by simp)
    simp only [RepO] at r6
    obtain ⟨_, q2, q3⟩ := r6
    have hsz : (Ty.arr n wT).size = n := by simp [Ty.size]
    rw [hsz] at q3
    obtain ⟨p1, p2⟩ := (parts_words (RepC.length (w := w) (g := g) wT) _ _).1 q3
    by_cases h0 : n = 0
    · subst h0
      obtain rfl : l = [] := List.eq_nil_of_length_eq_zero q2
      have hcall : Calls Try.prog 22 #[.slice (some a0) 0 c, .func (.func 23) #[] #[]] w fun e w' => e = .returned (.tuple #[]) ∧ w' = w := AnyF.slices_SortFunc_none (ρ := laysSrt_ren) { laysSrt with } _ _ _ _
      refine hcall.mono ?_
      rintro e w' ⟨rfl, rfl⟩
      exact ⟨_, g, rfl, by simp only [RepX, RepXs]; exact ⟨[], rfl, rfl⟩, Ext.refl _ _ _ _, hw, by rw [show srtL [] = [] from by simp [srtL]]; exact hH⟩
    · have ha0 := h6 (by omega)
      subst ha0
      have hblk : g.μ dh 0 < w.heap.size := (Array.getElem?_eq_some_iff.1 r5).1
      generalize hB : g.μ dh 0 = blk at *
      have harr : n ≤ arr.size := by
        have := p1
        rw [List.length_take, Array.length_toList, q2] at this
        omega
      generalize hC : arr.toList.take n = cells at p1 p2
      have hcj : ∀ j, j < n → arr[j]? = some (cells.getD j (.slice none 0 0)) := fun j hj => by
        rw [← hC, List.getD_eq_getElem?_getD, List.getElem?_take, if_pos hj, Array.getElem?_toList, Array.getElem?_eq_getElem (show j < arr.size by omega)]
        rfl
      have hword : ∀ i, (cells.getD i (.slice none 0 0)).oneCell' = true ∧ ∀ W : World, (∀ b off, off < g.U b → W.cell? ⟨b, off, none⟩ = w.cell? ⟨b, off, none⟩) → WordAt W (cells.getD i (.slice none 0 0)) (l.getD i []) := fun i => by
        by_cases hi : i < l.length
        · obtain ⟨v, e1, e2, _, e3⟩ := word_at (p2 i hi (by omega)) (hl _ (List.getElem_mem hi))
          cases e1
          rw [List.getD_eq_getElem?_getD, List.getElem?_eq_getElem (show i < cells.length by omega), List.getD_eq_getElem?_getD, List.getElem?_eq_getElem hi]
          exact ⟨e2, e3⟩
        · rw [List.getD_eq_getElem?_getD, List.getElem?_eq_none (show cells.length ≤ i by omega), List.getD_eq_getElem?_getD, List.getElem?_eq_none (show l.length ≤ i by omega)]
          exact ⟨rfl, fun W _ => ⟨none, 0, rfl, by simp, fun j hj => absurd hj (by simp)⟩⟩
      have hS : ∀ (mm : Nat) (os : Array Obj) (dk : Array Nat) (b off : Nat), off < g.U b → (sortWorld (fun i => cells.getD i (.slice none 0 0)) w blk 0 mm dk os).cell? ⟨b, off, none⟩ = w.cell? ⟨b, off, none⟩ := fun mm os dk b off ho => by
        have hne : b ≠ blk := by rintro rfl; omega
        exact World.cell?_of_block (a := ⟨b, off, none⟩) (heap_sortWorld_other (hw.lt ho) hne)
      have hcmp : CmpLays1 Try.prog 23 #[] (fun i => cells.getD i (.slice none 0 0)) (fun i j => cmpL (l.getD i []) (l.getD j [])) blk 0 (Array.range n).size w := fun mm os dk hs x y =>
        (k_clo _ _ _ _ _ ((hword x).2 _ (hS mm os dk)) ((hword y).2 _ (hS mm os dk))).mono fun _ _ ⟨e1, e2⟩ => ⟨e1, 0, #[], by rw [e2, grow_empty, World.drewN_zero]⟩
      have hHo : Holds (fun i => cells.getD i (.slice none 0 0)) w blk 0 (Array.range n) := fun j hj => by
        have hj' : j < n := by simpa using hj
        rw [Nat.zero_add, getElem!_pos _ j hj]
        refine ⟨?_, frozen_open r5 rf (by omega)⟩
        rw [cell_of_heap r5, hcj j hj']
        simp
      have hO : SWO (ltOf fun i j => cmpL (l.getD i []) (l.getD j [])) := ⟨fun x => swoL.irrefl _, fun x y z => swoL.trans _ _ _, fun x y z => swoL.ntrans _ _ _⟩
      have eg : ∀ args w, (callFunc 23 args).run Try.prog w = .ok (.enter 23 args) w := fnOk (fn := Try.f23) (by kernel_rfl) (by decide +kernel) (by kernel_rfl)
      have hcall : Calls Try.prog 22 #[.slice (some ⟨blk, 0, none⟩) (Array.range n).size c, .func (.func 23) #[] #[]] w fun e w' => e = .returned (.tuple #[]) ∧ ∃ d' nn os, PermIn 0 (Array.range n).size (Array.range n) d' ∧ SortedIn (ltOf fun i j => cmpL (l.getD i []) (l.getD j [])) 0 (Array.range n).size d' ∧ w' = sortWorld (fun i => cells.getD i (.slice none 0 0)) w blk 0 nn d' os :=
        Any.slices_SortFunc laysSrt _ (fun x => (hword x).1) _ hO 23 #[] blk 0 c (Array.range n) w eg hcmp hHo hblk (by rw [Array.size_range]; omega)
      rw [Array.size_range] at hcall
      simp only [Nat.zero_mul, Nat.add_zero]
      refine hcall.mono ?_
      rintro e w' ⟨rfl, d', nn, os, hp, hs, rfl⟩
      rw [← q2] at hp hs
      obtain ⟨t1, t2⟩ := sorted_words hp hs
      have hds : d'.size = n := by have := hp.1; rw [Array.size_range] at this; omega
      have he : Ext g w g (sortWorld (fun i => cells.getD i (.slice none 0 0)) w blk 0 nn d' os) d (fun κ => κ = .obj dh 0) := by
        refine ⟨rfl, rfl, rfl, by unfold sortWorld; rw [size_grow, Go.Sort.size_putRow]; exact Nat.le_add_right _ _, fun b hb hk => ⟨heap_sortWorld_other hb fun e => hk (.obj dh 0) (e ▸ r3) rfl, rfl, rfl⟩, fun b off ho => ⟨hS nn os d' b off ho, ho⟩, fun _ _ _ h => ⟨h, rfl, rfl⟩, fun _ _ => rfl⟩
      refine ⟨_, g, rfl, by simp only [RepX, RepXs]; exact ⟨[], rfl, rfl⟩, he.mono (Nat.le_refl _) (by rintro κ rfl; exact .inr rfl), ⟨fun b hb => hw.1 b (Nat.le_trans he.size hb), Tabs.ext he hw.2⟩, ?_⟩
      refine hH.set (id := 0) he hd (by simp) rfl rfl (fun κ _ e => .inl e) (by rw [hB]; exact r3) (by rw [hB]; exact r4) (.inl ⟨putCells (fun i => cells.getD i (.slice none 0 0)) 0 d' arr, tyo, fr, by rw [hB]; exact heap_sortWorld_row r5, ?_, ?_⟩)
      · rw [show (putCells (fun i => cells.getD i (.slice none 0 0)) 0 d' arr).size = arr.size from by simp [putCells]]
        exact rf
      · simp only [RepO]
        rw [hsz, take_putCells hds harr]
        refine ⟨trivial, by rw [← t1]; simp [hds], ?_⟩
        refine (parts_words (RepC.length wT) _ _).2 ⟨by rw [← t1]; simp, fun i hi hi' => ?_⟩
        have hi2 : i < d'.toList.length := by simpa using hi'
        have e1 : (srtL l)[i] = l.getD (d'.toList[i]) [] := by
          simp only [← t1, List.getElem_map]
        have e2 : (d'.toList.map fun i => cells.getD i (.slice none 0 0))[i] = cells.getD (d'.toList[i]) (.slice none 0 0) := by simp only [List.getElem_map]
        rw [e1, e2]
        have hlt := t2 _ (List.getElem_mem hi2)
        rw [List.getD_eq_getElem?_getD, List.getElem?_eq_getElem hlt, List.getD_eq_getElem?_getD, List.getElem?_eq_getElem (show d'.toList[i] < cells.length by omega)]
        exact RepC.ext he wT _ _ (p2 _ hlt (by omega))
  · rename_i nl f
    cases hr
    simp only [RepXs] at ha
    obtain ⟨v0, us0, rfl, k0, v1, us1, rfl, k1, rfl⟩ := ha
    simp only [RepX, RepXs] at k0
    obtain ⟨a, c, rfl, _⟩ := k0
    have hcall : Calls Try.prog 22 #[.slice a 0 c, v1] w fun e w' => e = .returned (.tuple #[]) ∧ w' = w := AnyF.slices_SortFunc_none (ρ := laysSrt_ren) { laysSrt with } _ _ _ _
    refine hcall.mono ?_
    rintro e w' ⟨rfl, rfl⟩
    exact ⟨_, g, rfl, by simp only [RepX, RepXs]; exact ⟨[], rfl, rfl⟩, Ext.refl _ _ _ _, hw, hH⟩
  · cases hr

end Go.Proofs.Ytanbekjefbebaaa.V
