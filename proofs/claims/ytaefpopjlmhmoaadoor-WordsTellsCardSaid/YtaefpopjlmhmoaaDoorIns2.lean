/-
  slices.Insert as the evaluator is told of it: one word put among others; what is known nowhere else stays so.
  It speaks of the pinned program alone; no condition.
-/
import Derived.Test.YtaefpopjlmhmoaaDoorIns1
namespace Go.Proofs.YtaefpopjlmhmoaaDoor.V
open Go Go.Proofs
set_option linter.unusedVariables false
set_option linter.unusedSimpArgs false

abbrev wTy : Ty := .slice (.int .i64)
def insF (A : Ar) : List X → Tr X
  | [.ps (.slice (.int .i64)) xs, .d (.int .i64) i, .sl (.slice (.int .i64)) ys nl false] =>
    .test (A.se (decide (0 ≤ i ∧ i ≤ (List.length xs : Int) ∧ List.length ys = 1 ∧ List.length xs ≤ 1000000)))
      (.give (.ps (.slice (.int .i64)) (A.se (List.take i.toNat xs ++ ys ++ List.drop i.toNat xs)))) .no
  | _ => .no

theorem setC (b : Nat) : ∀ (vs : List Value) (o : Nat) (w : World), (w.setCells b o vs).os = w.os ∧ (w.setCells b o vs).tape = w.tape ∧ (w.setCells b o vs).output = w.output ∧ (w.setCells b o vs).heap.size = w.heap.size ∧
    (∀ i, i ≠ b → (w.setCells b o vs).heap[i]? = w.heap[i]?) ∧ (∀ arr ty fr, w.heap[b]? = some (.cells arr ty fr) → ∃ arr', (w.setCells b o vs).heap[b]? = some (.cells arr' ty fr) ∧ arr'.size = arr.size)
  | [], _, w => ⟨rfl, rfl, rfl, rfl, fun _ _ => rfl, fun arr ty fr h => ⟨arr, h, rfl⟩⟩
  | v :: r, o, w => by
    obtain ⟨h1, h2, h3, h4, h5, h6⟩ := setC b r (o + 1) (w.setCell ⟨b, o, none⟩ v)
    have e5 : ∀ i, i ≠ b → (w.setCell ⟨b, o, none⟩ v).heap[i]? = w.heap[i]? := fun i hi => by
      simp only [World.setCell, Array.getElem?_modify]
      rw [if_neg (fun e => hi e.symm)]
    refine ⟨h1, h2, h3, h4.trans (by simp [World.setCell]), fun i hi => (h5 i hi).trans (e5 i hi), fun arr ty fr h => ?_⟩
    obtain ⟨arr', k1, k2⟩ := h6 (arr.setIfInBounds o v) ty fr (by simp [World.setCell, Array.getElem?_modify, h])
    exact ⟨arr', k1, by rw [k2]; simp⟩

theorem ps_of_cells {g : Ghost} {w : World} {dh b c ty : Nat} {κ : Key} {e : Ty} {xs : List e.den} {arr : Array Value} {fr : Nat × Nat} {cs : List Value} (h : w.heap[b]? = some (.cells arr ty fr)) (hs : arr.size = c * e.size) (hf : FrOk fr e arr.size) (hu : g.U b = 0) (ho : g.own b = some κ)
    (hn : xs.length ≤ c) (hl : cs.length ≤ arr.size) (hc : ∀ j v, cs[j]? = some v → w.cell? ⟨b, j, none⟩ = some v) (hp : Parts (RepC w g e) xs cs) : RepX g w dh κ (.ps e xs) (.slice (some ⟨b, 0, none⟩) xs.length c) := by
  simp only [RepX]
  refine ⟨_, c, rfl, hn, .inr ⟨b, arr, ty, fr, cs, arr.toList.drop cs.length, rfl, h, hs, hf, hu, ho, ?_, hp⟩⟩
  have ht : arr.toList.take cs.length = cs := by
    apply List.ext_getElem?
    intro j
    rw [List.getElem?_take]
    split
    · rename_i hj
      have := hc j _ (List.getElem?_eq_getElem hj)
      rw [cell_of_heap h] at this
      rw [List.getElem?_eq_getElem hj, ← this, Array.getElem?_toList]
    · rename_i hj
      exact (List.getElem?_eq_none (by omega)).symm
  have := List.take_append_drop cs.length arr.toList
  rw [ht] at this
  exact this.symm

/-- In place. -/
theorem ins_same {g : Ghost} {w w' : World} {d dh b c ty : Nat} {e : Ty} {xs : List e.den} {arr arr' : Array Value} {fr : Nat × Nat} {cs : List Value} (hw : WF g w) (h0 : w.heap[b]? = some (.cells arr ty fr)) (hs : arr.size = c * e.size) (hf : FrOk fr e arr.size) (hu : g.U b = 0) (ho : g.own b = some (.tmp (d + 1) 0))
    (h1 : w'.os = w.os) (h2 : w'.tape = w.tape) (h3 : w'.output = w.output) (h4 : w'.heap.size = w.heap.size) (h5 : ∀ i, i ≠ b → w'.heap[i]? = w.heap[i]?) (h6 : w'.heap[b]? = some (.cells arr' ty fr)) (h7 : arr'.size = arr.size)
    (hn : xs.length ≤ c) (hl : cs.length ≤ arr.size) (hc : ∀ j v, cs[j]? = some v → w'.cell? ⟨b, j, none⟩ = some v) (hp : Parts (RepC w g e) xs cs) :
    ∃ g', RepX g' w' dh (.tmp (d + 1) 0) (.ps e xs) (.slice (some ⟨b, 0, none⟩) xs.length c) ∧ Ext g w g' w' d (fun κ => κ.deep (d + 1)) ∧ WF g' w' := by
  have he : Ext g w g w' d (fun κ => κ.deep (d + 1)) := by
    refine ⟨h1, h2, h3, by rw [h4]; exact Nat.le_refl _, fun i hi hk => ⟨h5 i ?_, rfl, rfl⟩, fun i off hoff => ⟨World.cell?_of_block (a := ⟨i, off, none⟩) (h5 i ?_), hoff⟩, fun _ _ _ h => ⟨h, rfl, rfl⟩, fun _ _ => rfl⟩
    · rintro rfl
      exact hk _ ho (Nat.le_refl _)
    · rintro rfl
      omega
  exact ⟨g, ps_of_cells h6 (h7.trans hs) (by rw [h7]; exact hf) hu ho hn (by rw [h7]; exact hl) hc (hp.imp (RepC.ext he e)), he, ⟨fun i hi => hw.1 i (by rw [← h4]; exact hi), Tabs.ext he hw.2⟩⟩

/-- In a new block. -/
theorem ins_new {g : Ghost} {w w' : World} {d dh c ty : Nat} {e : Ty} {xs : List e.den} {arr' : Array Value} {fr : Nat × Nat} {cs : List Value} (hw : WF g w) (hf : fr.1 = fr.2)
    (h1 : w'.os = w.os) (h2 : w'.tape = w.tape) (h3 : w'.output = w.output) (h4 : w'.heap.size = w.heap.size + 1) (h5 : ∀ i, i < w.heap.size → w'.heap[i]? = w.heap[i]?) (h6 : w'.heap[w.heap.size]? = some (.cells arr' ty fr)) (h7 : arr'.size = c * e.size)
    (hn : xs.length ≤ c) (hl : cs.length ≤ arr'.size) (hc : ∀ j v, cs[j]? = some v → w'.cell? ⟨w.heap.size, j, none⟩ = some v) (hp : Parts (RepC w g e) xs cs) :
    ∃ g', RepX g' w' dh (.tmp (d + 1) 0) (.ps e xs) (.slice (some ⟨w.heap.size, 0, none⟩) xs.length c) ∧ Ext g w g' w' d (fun κ => κ.deep (d + 1)) ∧ WF g' w' := by
  have hU : ∀ i off, off < g.U i → i < w.heap.size := fun i off ho => by
    refine Nat.lt_of_not_le fun hle => ?_
    have := (hw.1 i hle).2
    omega
  have he : Ext g w (g.block w.heap.size (.tmp (d + 1) 0) 0) w' d (fun κ => κ.deep (d + 1)) := by
    refine ⟨h1, h2, h3, by omega, fun i hi hk => ⟨h5 i hi, by simp [Ghost.block, Nat.ne_of_lt hi], by simp [Ghost.block, Nat.ne_of_lt hi]⟩, fun i off hoff => ?_, fun _ _ _ h => ⟨h, rfl, rfl⟩, fun _ _ => rfl⟩
    have hi := hU i off hoff
    exact ⟨World.cell?_of_block (a := ⟨i, off, none⟩) (h5 i hi), by simp only [Ghost.block, Nat.ne_of_lt hi, if_false]; exact hoff⟩
  refine ⟨_, ps_of_cells h6 h7 (.inl hf) (by simp [Ghost.block]) (by simp [Ghost.block]) hn hl hc (hp.imp (RepC.ext he e)), he, ⟨fun i hi => ?_, Tabs.ext he hw.2⟩⟩
  have hne : i ≠ w.heap.size := by omega
  obtain ⟨q1, q2⟩ := hw.1 i (by omega)
  simp [Ghost.block, hne, q1, q2]

theorem parts_ins {α : Type} {R : α → List Value → Prop} (h1 : ∀ x c, R x c → c.length = 1) {xs ys : List α} {cs vs : List Value} (hx : Parts R xs cs) (hy : Parts R ys vs) (i : Nat) : Parts R (xs.take i ++ ys ++ xs.drop i) (cs.take i ++ vs ++ cs.drop i) := by
  have hl := Parts.length h1 xs cs hx
  rw [Nat.mul_one] at hl
  have hx' : Parts R (xs.take i ++ xs.drop i) cs := by rw [List.take_append_drop]; exact hx
  obtain ⟨c1, c2, rfl, p1, p2⟩ := Parts.split hx'
  have l1 := Parts.length h1 _ _ p1
  rw [Nat.mul_one, List.length_take] at l1
  by_cases hi : i ≤ xs.length
  · have e1 : (c1 ++ c2).take i = c1 := List.take_left' (by rw [l1]; omega)
    have e2 : (c1 ++ c2).drop i = c2 := List.drop_left' (by rw [l1]; omega)
    rw [e1, e2]
    exact Parts.append (Parts.append p1 hy) p2
  · have l2 := Parts.length h1 _ _ p2
    rw [Nat.mul_one, List.length_drop] at l2
    have e0 : c2 = [] := List.eq_nil_of_length_eq_zero (by omega)
    subst e0
    have e1 : xs.take i = xs := List.take_of_length_le (by omega)
    have e2 : c1.take i = c1 := List.take_of_length_le (by omega)
    have e3 : c1.drop i = [] := List.drop_of_length_le (by omega)
    rw [e1] at p1
    rw [List.append_nil, e1, e2, e3]
    exact Parts.append (Parts.append p1 hy) p2

set_option maxRecDepth 100000 in
theorem ins_ok : OrcOk Tryd.prog 26 (.own (insF Ar.real)) := by
  refine ⟨fnOk (fn := Tryd.f26) (by kernel_rfl) (by decide +kernel) (by kernel_rfl), fun e xs nl rest r hr => ?_, fun e0 xs0 rest r hr g w d dh v vs hd hw hv ha => ?_⟩
  · exfalso
    replace hr : (insF Ar.real (.sl e xs nl true :: rest)).run some = some r := hr
    simp [insF, Tr.run] at hr
  · replace hr : (insF Ar.real (.ps e0 xs0 :: rest)).run some = some r := hr
    unfold insF at hr
    split at hr
    · rename_i l xs i ys nl hl
      simp only [List.cons.injEq, X.ps.injEq] at hl
      obtain ⟨⟨rfl, hxs⟩, rfl⟩ := hl
      obtain rfl := eq_of_heq hxs
      obtain ⟨hg, rfl⟩ := Tr.one hr
      simp only [Ar.real, decide_eq_true_eq] at hg ⊢
      obtain ⟨g1, g2, g3, g4⟩ := hg
      have g1 : @LE.le Int _ 0 i := g1
      have g2 : @LE.le Int _ i (xs0.length : Int) := g2
      have g3 : ys.length = 1 := g3
      have g4 : xs0.length ≤ 1000000 := g4
      obtain ⟨k, rfl⟩ := Int.eq_ofNat_of_zero_le g1
      have hk : k ≤ xs0.length := by omega
      simp only [Int.toNat_natCast]
      simp only [RepXs] at ha
      obtain ⟨vi, us, rfl, hi, vy, us2, rfl, hy, rfl⟩ := ha
      rw [RepX.int_iff] at hi
      subst hi
      simp only [RepX] at hv hy
      obtain ⟨a, c, rfl, hnc, hpr⟩ := hv
      obtain ⟨ya, vc, rfl, hyc, hrun, _, _⟩ := hy
      rw [g3]
      have h1 : ∀ (x : wTy.den) (c : List Value), RepC w g wTy x c → c.length = 1 := fun x c h => RepC.length wTy x c h
      obtain ⟨A, _, rfl, hsp, _⟩ := hrun 0 (by omega)
      obtain ⟨vb, voff, spot⟩ := A
      simp only at hsp
      subst hsp
      obtain ⟨vs, q1, q2, q3⟩ := Run.cells hrun (by decide)
      have hvl : vs.length = 1 := by rw [q2, g3]; rfl
      have hvs : ∀ j v, vs[j]? = some v → w.cell? ⟨vb, voff + j, none⟩ = some v ∧ voff + j < g.U vb := fun j v hj => by
        obtain ⟨hj', rfl⟩ := List.getElem?_eq_some_iff.1 hj
        exact q3 _ rfl j hj'
      have hv1 : ∀ v ∈ vs, v.oneCell' = true := Parts.plain (RepC.plain wTy) ys vs q1
      have fin : ∀ (W : World) (val : Value), (∃ g', RepX g' W dh (.tmp (d + 1) 0) (.ps wTy (xs0.take k ++ ys ++ xs0.drop k)) val ∧ Ext g w g' W d (fun κ => κ.deep (d + 1)) ∧ WF g' W) →
          ∃ v g', (Ending.returned val : Ending) = .returned v ∧ RepX g' W dh (.tmp (d + 1) 0) (.ps wTy (xs0.take k ++ ys ++ xs0.drop k)) v ∧ Ext g w g' W d (fun κ => κ.deep (d + 1)) ∧ WF g' W := by
        rintro W val ⟨g', r1, r2, r3⟩
        exact ⟨val, g', rfl, r1, r2, r3⟩
      have hnl : (xs0.take k ++ ys ++ xs0.drop k).length = xs0.length + 1 := by
        simp only [List.length_append, List.length_take, List.length_drop, g3]
        omega
      have hz : ∀ n, (Builtin.zeroCells (Value.slice none 0 0).cells n).size = n := fun n => by simp [Builtin.zeroCells, Value.cells]
      have newcells : ∀ (cs : List Value), cs.length = xs0.length → k = xs0.length → Parts (RepC w g wTy) xs0 cs → xs0.length ≤ c → c < xs0.length + 1 → ∀ (ROW : Array Value), ROW = (cs ++ vs).toArray ++ Builtin.zeroCells (Value.slice none 0 0).cells (grownCap w (xs0.length + 1) c 24 - (xs0.length + 1)) →
          ∃ g', RepX g' (w.drew.alloc (.cells ROW 24)) dh (.tmp (d + 1) 0) (.ps wTy (xs0.take k ++ ys ++ xs0.drop k)) (.slice (some ⟨w.heap.size, 0, none⟩) (xs0.length + 1) (grownCap w (xs0.length + 1) c 24)) ∧
            Ext g w g' (w.drew.alloc (.cells ROW 24)) d (fun κ => κ.deep (d + 1)) ∧ WF g' (w.drew.alloc (.cells ROW 24)) := by
        intro cs hcl hkn hp hn1 hn2 ROW hROW
        have hge := grownCap_ge w (xs0.length + 1) c 24
        obtain ⟨G, hG⟩ : ∃ G, G = grownCap w (xs0.length + 1) c 24 := ⟨_, rfl⟩
        rw [← hG] at hge hROW ⊢
        have hRl : ROW.size = G := by
          rw [hROW, Array.size_append, hz]
          simp [hcl, hvl]
          omega
        have := ins_new (e := wTy) (d := d) (dh := dh) (xs := xs0.take k ++ ys ++ xs0.drop k) (cs := cs ++ vs) (c := G) (w' := w.drew.alloc (.cells ROW 24)) (arr' := ROW) (ty := 24) (fr := (0, 0)) hw rfl rfl rfl rfl
          (by show (w.heap.push _).size = _; simp) (fun i hi => by show (w.heap.push _)[i]? = _; simp [Array.getElem?_push, Nat.ne_of_lt hi]) (by show (w.heap.push _)[w.heap.size]? = _; simp) (by rw [hRl]; exact (Nat.mul_one G).symm) (by rw [hnl]; exact hge)
          (by rw [hRl, List.length_append, hcl, hvl]; exact hge) (fun j v hj => by
          have hlt : j < (cs ++ vs).length := (List.getElem?_eq_some_iff.1 hj).1
          have h0 : (w.drew.alloc (.cells ROW 24)).heap[w.heap.size]? = some (.cells ROW 24 (0, 0)) := by show (w.heap.push _)[w.heap.size]? = _; simp
          rw [cell_of_heap h0, hROW, Array.getElem?_append_left (by simpa using hlt)]
          simpa using hj) (by
          have := Parts.append hp q1
          rw [hkn, List.take_length, List.drop_length, List.append_nil]
          exact this)
        rw [hnl] at this
        exact this
      rcases hpr with ⟨rfl, rfl⟩ | ⟨b, arr, ty, fr, cs, rest, rfl, e2, e3, e4, e5, e6, e7, e8⟩
      · -- nothing stands there yet
        have hk0 : k = 0 := by simpa using hk
        subst hk0
        by_cases ha0 : a = none
        · subst ha0
          refine (ins_end_grow none 0 0 vb voff 1 vc [] vs w (by omega) (Nat.le_refl _) (by omega) (by omega) rfl hvl (fun _ => rfl) (fun a e => by cases e) (fun j v hj => (hvs j v hj).1) hv1).mono ?_
          rintro e w' ⟨rfl, rfl⟩
          exact fin _ _ (newcells [] rfl rfl rfl (Nat.le_refl _) (by simp) _ rfl)
        · refine (ins_end_grow a 0 0 vb voff 1 vc [] vs w (by omega) (Nat.le_refl _) (by omega) (by omega) rfl hvl (fun _ => rfl) (fun a e j v hj => by simp at hj) (fun j v hj => (hvs j v hj).1) hv1).mono ?_
          rintro e w' ⟨rfl, rfl⟩
          exact fin _ _ (newcells [] rfl rfl rfl (Nat.le_refl _) (by simp) _ rfl)
      · have hcl : cs.length = xs0.length := by
          have := Parts.length h1 xs0 cs e8
          rw [this, Nat.mul_one]
        have e3' : arr.size = c := by rw [e3]; exact Nat.mul_one c
        have hcs : ∀ j v, cs[j]? = some v → w.cell? ⟨b, j, none⟩ = some v := fun j v hj => by
          rw [cell_of_heap e2, ← Array.getElem?_toList, e7, List.getElem?_append_left (List.getElem?_eq_some_iff.1 hj).1]
          exact hj
        have hcs0 : ∀ j v, cs[j]? = some v → w.cell? ⟨b, 0 + j, none⟩ = some v := fun j v hj => by rw [Nat.zero_add]; exact hcs j v hj
        have hc1 : ∀ v ∈ cs, v.oneCell' = true := Parts.plain (RepC.plain wTy) xs0 cs e8
        have hb : b < w.heap.size := (Array.getElem?_eq_some_iff.1 e2).1
        have hne : vb ≠ b := by
          rintro rfl
          have := (hvs 0 _ (List.getElem?_eq_getElem (by omega))).2
          omega
        have hfr : fr.1 = fr.2 := by
          rcases e4 with h | ⟨h, _⟩
          · exact h
          · cases h
        have hfrz : ∀ o, w.frozen? ⟨b, o, none⟩ = false := fun o => by
          simp only [World.frozen?, e2]
          simp
          omega
        have hsome : ∀ j, j < c → (w.cell? ⟨b, j, none⟩).isSome = true := fun j hj => by
          rw [cell_of_heap e2, Array.getElem?_eq_getElem (by rw [e3']; exact hj)]; rfl
        by_cases hroom : xs0.length + 1 ≤ c
        · by_cases hkn : k = xs0.length
          · -- at the end, in place
            have := ins_end_room b 0 xs0.length c vb voff 1 vc vs w (by omega) hroom (by omega) hvl (fun j hj => by rw [Nat.zero_add]; exact hsome _ (by omega)) (fun j hj => hfrz _) (fun j v hj => (hvs j v hj).1) hv1
            rw [Nat.zero_add] at this
            rw [hkn]
            refine this.mono ?_
            rintro e w' ⟨rfl, rfl⟩
            obtain ⟨s1, s2, s3, s4, s5, s6⟩ := setC b vs xs0.length w
            obtain ⟨arr', s7, s8⟩ := s6 arr ty fr e2
            have hh := ins_same (d := d) (dh := dh) (w' := w.setCells b xs0.length vs) (xs := xs0.take xs0.length ++ ys ++ xs0.drop xs0.length) (cs := cs ++ vs) hw e2 e3 e4 e5 e6 s1 s2 s3 s4 s5 s7 s8 (by rw [← hkn, hnl]; exact hroom) (by rw [List.length_append, hcl, hvl, e3']; exact hroom) (fun j v hj => by
              by_cases hj1 : j < cs.length
              · rw [List.getElem?_append_left hj1] at hj
                rw [World.cell?_setCells_out b vs xs0.length w _ (fun _ _ => .inl (by rw [← hcl]; exact hj1))]
                exact hcs j v hj
              · rw [List.getElem?_append_right (by omega)] at hj
                obtain ⟨hj2, rfl⟩ := List.getElem?_eq_some_iff.1 hj
                have := World.cell?_setCells_in b vs xs0.length w (fun t ht => hsome _ (by omega)) (j - cs.length) hj2
                rw [show xs0.length + (j - cs.length) = j by omega] at this
                exact this) (by
              rw [List.take_length, List.drop_length, List.append_nil]
              exact Parts.append e8 q1)
            rw [← hkn, hnl, hkn] at hh
            obtain ⟨g', r1, r2, r3⟩ := hh
            exact ⟨_, g', rfl, r1, r2, r3⟩
          · -- among them, in place
            have hshv : ∃ arrv tyv frv, w.heap[vb]? = some (.cells arrv tyv frv) ∧ 0 < arrv.size := by
              have hc0 := (hvs 0 _ (List.getElem?_eq_getElem (by omega))).1
              simp only [World.cell?] at hc0
              split at hc0
              · rename_i c1 t1 f1 he
                simp only [Option.isSome_none, Bool.false_eq_true, if_false] at hc0
                have := (Array.getElem?_eq_some_iff.1 hc0).1
                exact ⟨c1, t1, f1, he, by omega⟩
              · cases hc0
            obtain ⟨arrv, tyv, frv, hsv, hsv0⟩ := hshv
            have := ins_shift b 0 xs0.length c k vb voff 1 vc cs vs w (by omega) (by omega) hroom (by omega) hne hcl hvl hcs0 (fun j hj => by rw [Nat.zero_add]; exact hsome _ (by omega)) (fun j hj => hfrz _) (fun j v hj => (hvs j v hj).1) hc1 hv1
              tyv ty arrv.size arr.size (by simp [World.shape?, hsv]) (by simp [World.shape?, e2]) (by omega) (by omega) hfrz
            simp only [Nat.zero_add] at this
            refine this.mono ?_
            rintro e w' ⟨rfl, rfl⟩
            obtain ⟨s1, s2, s3, s4, s5, s6⟩ := setC b (cs.drop k) (k + 1) w.drew
            obtain ⟨arr1, s7, s8⟩ := s6 arr ty fr e2
            obtain ⟨t1, t2, t3, t4, t5, t6⟩ := setC b vs k (w.drew.setCells b (k + 1) (cs.drop k))
            obtain ⟨arr', t7, t8⟩ := t6 arr1 ty fr s7
            have hsome1 : ∀ j, j < c → ((w.drew.setCells b (k + 1) (cs.drop k)).cell? ⟨b, j, none⟩).isSome = true := fun j hj => by
              rw [cell_of_heap s7, Array.getElem?_eq_getElem (by rw [s8, e3']; exact hj)]; rfl
            have hh := ins_same (d := d) (dh := dh) (w' := (w.drew.setCells b (k + 1) (cs.drop k)).setCells b k vs) (xs := xs0.take k ++ ys ++ xs0.drop k) (cs := cs.take k ++ vs ++ cs.drop k) hw e2 e3 e4 e5 e6 (t1.trans s1) (t2.trans s2) (t3.trans s3) (t4.trans s4) (fun i hi => (t5 i hi).trans (s5 i hi)) t7 (t8.trans s8) (by rw [hnl]; exact hroom) (by
                simp only [List.length_append, List.length_take, List.length_drop, hcl, hvl, e3']; omega) (fun j v hj => by
              by_cases hj1 : j < k
              · rw [List.append_assoc, List.getElem?_append_left (by rw [List.length_take]; omega), List.getElem?_take, if_pos hj1] at hj
                rw [World.cell?_setCells_out b vs k _ _ (fun _ _ => .inl hj1), World.cell?_setCells_out b _ (k + 1) _ _ (fun _ _ => .inl (by simp only; omega))]
                exact hcs j v hj
              · by_cases hj2 : j = k
                · subst hj2
                  rw [List.append_assoc, List.getElem?_append_right (by rw [List.length_take]; omega), List.length_take, show j - min j cs.length = 0 by omega, List.getElem?_append_left (by omega)] at hj
                  obtain ⟨hj3, rfl⟩ := List.getElem?_eq_some_iff.1 hj
                  have := World.cell?_setCells_in b vs j _ (fun t ht => hsome1 _ (by omega)) 0 hj3
                  rw [Nat.add_zero] at this
                  exact this
                · have hlt : j < (cs.take k ++ vs ++ cs.drop k).length := (List.getElem?_eq_some_iff.1 hj).1
                  simp only [List.length_append, List.length_take, List.length_drop, hcl, hvl] at hlt
                  rw [List.getElem?_append_right (by simp only [List.length_append, List.length_take]; omega)] at hj
                  simp only [List.length_append, List.length_take, hvl] at hj
                  rw [World.cell?_setCells_out b vs k _ _ (fun _ _ => .inr (by simp only; omega))]
                  obtain ⟨hj3, rfl⟩ := List.getElem?_eq_some_iff.1 hj
                  have := World.cell?_setCells_in b (cs.drop k) (k + 1) w.drew (fun t ht => by
                    have : ∀ x, w.drew.cell? x = w.cell? x := fun _ => rfl
                    rw [this]
                    rw [List.length_drop] at ht
                    exact hsome _ (by omega)) _ hj3
                  rw [show k + 1 + (j - (min k cs.length + 1)) = j by omega] at this
                  exact this) (parts_ins h1 e8 q1 k)
            rw [hnl] at hh
            obtain ⟨g', r1, r2, r3⟩ := hh
            exact ⟨_, g', rfl, r1, r2, r3⟩
        · by_cases hkn : k = xs0.length
          · -- at the end, a new block
            have := ins_end_grow (some ⟨b, 0, none⟩) xs0.length c vb voff 1 vc cs vs w (by omega) hnc (by omega) (by omega) hcl hvl (fun e => by cases e) (fun a e j v hj => by cases e; rw [Addr.add_lit, Nat.zero_add]; exact hcs j v hj) (fun j v hj => (hvs j v hj).1) hv1
            rw [hkn]
            refine this.mono ?_
            rintro e w' ⟨rfl, rfl⟩
            have hh := newcells cs hcl hkn e8 hnc (by omega) _ rfl
            rw [hkn] at hh
            obtain ⟨g', r1, r2, r3⟩ := hh
            exact ⟨_, g', rfl, r1, r2, r3⟩
          · -- among them, a new block
            have := ins_grow b 0 xs0.length c k vb voff 1 vc cs vs w (by omega) (by omega) hnc (by omega) (by omega) hcl hvl hcs0 (fun j v hj => (hvs j v hj).1) hc1 hv1
            refine this.mono ?_
            obtain ⟨G, hG⟩ : ∃ G, G = grownCap w (xs0.length + 1) c 24 := ⟨_, rfl⟩
            have hge := grownCap_ge w (xs0.length + 1) c 24
            rw [← hG] at hge ⊢
            obtain ⟨ROW, hROW⟩ : ∃ ROW : Array Value, ROW = (cs.take k).toArray ++ Builtin.zeroCells (Value.slice none 0 0).cells (xs0.length + 1 - k) ++ Builtin.zeroCells (Value.slice none 0 0).cells (G - (xs0.length + 1)) := ⟨_, rfl⟩
            rw [← hROW]
            have hRl : ROW.size = G := by
              rw [hROW, Array.size_append, Array.size_append, hz, hz]
              simp [hcl]
              omega
            rintro e w' ⟨rfl, rfl⟩
            obtain ⟨W0, hW0⟩ : ∃ W0, W0 = (w.alloc (.cells ROW 24)).drew := ⟨_, rfl⟩
            rw [← hW0]
            have w0 : W0.heap[w.heap.size]? = some (.cells ROW 24 (0, 0)) := by rw [hW0]; show (w.heap.push _)[w.heap.size]? = _; simp
            have w1 : ∀ i, i < w.heap.size → W0.heap[i]? = w.heap[i]? := fun i hi => by rw [hW0]; show (w.heap.push _)[i]? = _; simp [Array.getElem?_push, Nat.ne_of_lt hi]
            have w2 : W0.heap.size = w.heap.size + 1 := by rw [hW0]; show (w.heap.push _).size = _; simp
            obtain ⟨s1, s2, s3, s4, s5, s6⟩ := setC w.heap.size vs k W0
            obtain ⟨arr1, s7, s8⟩ := s6 _ _ _ w0
            obtain ⟨t1, t2, t3, t4, t5, t6⟩ := setC w.heap.size (cs.drop k) (k + 1) (W0.setCells w.heap.size k vs).drew
            obtain ⟨arr', t7, t8⟩ := t6 arr1 _ _ s7
            have hsome0 : ∀ j, j < G → (W0.cell? ⟨w.heap.size, j, none⟩).isSome = true := fun j hj => by
              rw [cell_of_heap w0, Array.getElem?_eq_getElem (by rw [hRl]; exact hj)]; rfl
            have hsome1 : ∀ j, j < G → ((W0.setCells w.heap.size k vs).drew.cell? ⟨w.heap.size, j, none⟩).isSome = true := fun j hj => by
              have : (W0.setCells w.heap.size k vs).drew.cell? ⟨w.heap.size, j, none⟩ = (W0.setCells w.heap.size k vs).cell? ⟨w.heap.size, j, none⟩ := rfl
              rw [this, cell_of_heap s7, Array.getElem?_eq_getElem (by rw [s8, hRl]; exact hj)]; rfl
            have hd1 : ∀ x, (W0.setCells w.heap.size k vs).drew.cell? x = (W0.setCells w.heap.size k vs).cell? x := fun _ => rfl
            have hh := ins_new (d := d) (dh := dh) (w' := (W0.setCells w.heap.size k vs).drew.setCells w.heap.size (k + 1) (cs.drop k)) (xs := xs0.take k ++ ys ++ xs0.drop k) (cs := cs.take k ++ vs ++ cs.drop k) (c := G) (fr := (0, 0)) hw rfl
              (t1.trans (s1.trans (by rw [hW0]; rfl))) (t2.trans (s2.trans (by rw [hW0]; rfl))) (t3.trans (s3.trans (by rw [hW0]; rfl))) (t4.trans (s4.trans w2)) (fun i hi => (t5 i (by omega)).trans ((s5 i (by omega)).trans (w1 i hi))) t7 (by rw [t8, s8, hRl]; exact (Nat.mul_one G).symm) (by rw [hnl]; exact hge) (by
                rw [t8, s8, hRl]
                simp only [List.length_append, List.length_take, List.length_drop, hcl, hvl]; omega) (fun j v hj => by
              by_cases hj1 : j < k
              · rw [List.append_assoc, List.getElem?_append_left (by rw [List.length_take]; omega)] at hj
                rw [World.cell?_setCells_out _ _ (k + 1) _ _ (fun _ _ => .inl (by simp only; omega)), hd1, World.cell?_setCells_out _ _ k _ _ (fun _ _ => .inl hj1), cell_of_heap w0, hROW]
                have hjl : j < (cs.take k).length := (List.getElem?_eq_some_iff.1 hj).1
                rw [Array.append_assoc, Array.getElem?_append_left (by simpa using hjl)]
                simpa using hj
              · by_cases hj2 : j = k
                · subst hj2
                  rw [List.append_assoc, List.getElem?_append_right (by rw [List.length_take]; omega), List.length_take, show j - min j cs.length = 0 by omega, List.getElem?_append_left (by omega)] at hj
                  obtain ⟨hj3, rfl⟩ := List.getElem?_eq_some_iff.1 hj
                  rw [World.cell?_setCells_out _ _ (j + 1) _ _ (fun _ _ => .inl (by simp only; omega)), hd1]
                  have := World.cell?_setCells_in w.heap.size vs j W0 (fun t ht => hsome0 _ (by omega)) 0 hj3
                  rw [Nat.add_zero] at this
                  exact this
                · have hlt : j < (cs.take k ++ vs ++ cs.drop k).length := (List.getElem?_eq_some_iff.1 hj).1
                  simp only [List.length_append, List.length_take, List.length_drop, hcl, hvl] at hlt
                  rw [List.getElem?_append_right (by simp only [List.length_append, List.length_take]; omega)] at hj
                  simp only [List.length_append, List.length_take, hvl] at hj
                  obtain ⟨hj3, rfl⟩ := List.getElem?_eq_some_iff.1 hj
                  have := World.cell?_setCells_in w.heap.size (cs.drop k) (k + 1) (W0.setCells w.heap.size k vs).drew (fun t ht => by
                    rw [List.length_drop] at ht
                    exact hsome1 _ (by omega)) _ hj3
                  rw [show k + 1 + (j - (min k cs.length + 1)) = j by omega] at this
                  exact this) (parts_ins h1 e8 q1 k)
            rw [hnl] at hh
            obtain ⟨g', r1, r2, r3⟩ := hh
            exact ⟨_, g', rfl, r1, r2, r3⟩
    · cases hr

end Go.Proofs.YtaefpopjlmhmoaaDoor.V
