/-
  Chapter 05, numbers: what the library's functions tell, by the kit's own contracts: strconv.ParseUint, internal/strconv.AppendUint.
  It speaks of the pinned program alone; no condition.
-/
import Derived.Test.YtlikejlgpfhkfaaDoorNuSh
import Derived.Test.YtlikejlgpfhkfaaDoorNu1
namespace Go.Proofs.YtlikejlgpfhkfaaDoor.V
open Go Go.RowKit
set_option linter.unusedVariables false
set_option linter.unusedSimpArgs false

/-- What lay ahead stays, and of what is new nothing is told, or of one block. -/
theorem Ext.below {g w g' w'} {d : Nat} {K : Key → Prop} (hw : WF g w) (hb : Below w.heap.size w w') (h : ∀ b, b < w.heap.size → g'.own b = g.own b ∧ g'.U b = g.U b) (hN : g'.N = g.N) (hμ : g'.μ = g.μ) (ho : g'.oty = g.oty) : Ext g w g' w' d K where
  os := hb.os
  tape := hb.tape
  output := hb.output
  size := hb.size
  keep b hlt _ := ⟨hb.block b hlt, h b hlt⟩
  cells b off hoff := by
    have hlt := hw.lt hoff
    exact ⟨World.cell?_of_block (a := ⟨b, off, none⟩) (hb.block b hlt), by rw [(h b hlt).2]; exact hoff⟩
  mu h' _ id hid := by rw [hN, hμ, ho]; exact ⟨hid, rfl, rfl⟩
  num h' _ := by rw [hN]

theorem below_same {g w w'} {d : Nat} {K : Key → Prop} (hw : WF g w) (hb : Below w.heap.size w w') : Ext g w g w' d K ∧ WF g w' := by
  have he : ∀ K' : Key → Prop, Ext g w g w' d K' := fun K' => Ext.below hw hb (fun _ _ => ⟨rfl, rfl⟩) rfl rfl rfl
  refine ⟨he K, fun b hlt => hw.1 b (Nat.le_trans hb.size hlt), Tabs.ext (he K) hw.2⟩

/-- A row that is the call's own. -/
theorem owns_rep {g w w'} {d dh T : Nat} {κ : Key} {K : Key → Prop} (hw : WF g w) {e : Ty} {xs : List e.den} {cs : List Value} {v : Value} (hpos : 0 < e.size) (hne : xs ≠ []) (hp : Parts (RepC w g e) xs cs)
    (hown : w'.ownsRow w.heap.size T e.size v xs.length cs) (hb : Below w.heap.size w w') : ∃ g', RepX g' w' dh κ (.sl e xs (some false) true) v ∧ Ext g w g' w' d K ∧ WF g' w' := by
  obtain ⟨hl, hh⟩ := hown
  rcases hh with ⟨_, h0⟩ | ⟨b, cap, cur, rfl, h1, h2, h3, h4, h5, h6⟩
  · exact absurd (List.eq_nil_of_length_eq_zero h0) hne
  · have hblt : b < w'.heap.size := (Array.getElem?_eq_some_iff.1 h2).1
    have he : ∀ K' : Key → Prop, Ext g w (g.block b κ (xs.length * e.size)) w' d K' := fun K' => by
      refine Ext.below hw hb (fun i hi => ?_) rfl rfl rfl
      have : i ≠ b := by omega
      simp [Ghost.block, this]
    refine ⟨g.block b κ (xs.length * e.size), ?_, he K, fun i hi => ?_, Tabs.ext (he K) hw.2⟩
    · simp only [RepX]
      refine ⟨_, cap, rfl, h3, ?_, fun b hb => (by simpa using hb), fun _ => .inr ⟨b, cur, T, (0, 0), rfl, h2, h5, .inl rfl, by simp [Ghost.block], by simp [Ghost.block]⟩⟩
      refine Run.of_cells (RepC.length e) (Parts.imp (RepC.ext (he (fun _ => False)) e) _ _ hp) fun j hj => ⟨?_, ?_⟩
      · rw [Nat.zero_add, cell_of_heap h2, ← Array.getElem?_toList]
        exact take_get (n := xs.length * e.size) (by rw [h6, List.getElem?_eq_getElem hj])
      · rw [hl] at hj
        simp [Ghost.block]
        exact hj
    · have : i ≠ b := by omega
      obtain ⟨k1, k2⟩ := hw.1 i (Nat.le_trans hb.size hi)
      simp [Ghost.block, this, k1, k2]

theorem digit_cells {w : World} {g : Ghost} (l : List UInt8) : Parts (RepC w g (.int .u8)) (l.map fun b => (b.toNat : Int)) (Lib.byteCells l) := by
  unfold Lib.byteCells
  induction l with
  | nil => rfl
  | cons b l ih => exact ⟨[_], _, rfl, rfl, ih⟩

/-- The digits of a cost, behind nothing. -/
def auF (A : Ar) : List X → Tr X
  | [.sl (.int .u8) [] (some true) true, .d (.int .u64) c, .d (.int .i64) b] => .test (A.se (isU64 c && decide (b = 10))) (.give (u8s (A.se (digs c.toNat)) (some false) true)) .no
  | _ => .no

theorem pow_tab {g w} (hw : WF g w) : Lib.TabIs Tryd.prog w "internal/strconv.uint64pow10" .u64 Lib.pow10Tab := by
  obtain ⟨_, arr, ty, fr, h1, h2, _⟩ := hw.2 2 _ _ rfl
  obtain ⟨_, h2⟩ := h2
  have h3 := Parts.ints _ _ h2
  unfold Lib.TabIs World.var?
  have hg : Tryd.prog.globalNamed "internal/strconv.uint64pow10" = some 2 := by kernel_rfl
  rw [hg, Option.bind_some, h1]
  simp only [Option.some.injEq]
  have e : arr = arr.toList.toArray := rfl
  rw [e, h3]
  have hp : powT = Lib.pow10Tab := by decide
  rw [hp]

theorem au_ok : OrcOk Tryd.prog 17 (.own (auF Ar.real)) := by
  show OwnOk Tryd.prog 17 fun args => (auF Ar.real args).run some
  refine ⟨fnOk (fn := Tryd.f17) (by kernel_rfl) (by decide +kernel) (by kernel_rfl), fun e xs nl rest r hr g w d dh v vs hd hw hv ha => ?_⟩
  replace hr : (auF Ar.real (.sl e xs nl true :: rest)).run some = some r := hr
  unfold auF at hr
  split at hr
  · rename_i c b heq
    obtain ⟨hg, rfl⟩ := Tr.one hr
    simp only [rw_se, Bool.and_eq_true, decide_eq_true_eq] at hg
    obtain ⟨hc, rfl⟩ := hg
    rw [isU64_iff] at hc
    cases heq
    simp only [RepX] at hv
    obtain ⟨a, cp, rfl, _, _, h4, h5⟩ := hv
    obtain rfl : a = none := by
      have := h4 true rfl
      simpa using this
    obtain rfl : cp = 0 := by
      rcases h5 trivial with h | ⟨b, _, _, _, h, _⟩
      · exact h
      · cases h
    simp only [RepXs] at ha
    obtain ⟨v1, us, rfl, k1, v2, us2, rfl, k2, rfl⟩ := ha
    rw [RepX.int_iff] at k1 k2
    subst k1; subst k2
    obtain ⟨u, rfl⟩ : ∃ u : Nat, c = (u : Int) := Int.eq_ofNat_of_zero_le hc.1
    have hu64 : u < 18446744073709551616 := by omega
    have hnil := World.ownsRow_nil w w.heap.size (laysAu_ren.t 5) 1
    have hcall : Calls Tryd.prog 17 #[.slice none 0 0, .int .u64 u, .int .i64 10] w fun e w' => ∃ v', e = .returned v' ∧ w'.ownsRow w.heap.size (laysAu_ren.t 5) 1 v' (0 + (Lib.decDigits u).length) ([] ++ Lib.byteCells (Lib.decDigits u)) ∧ Below w.heap.size w w' ∧ Lib.OthersKept (laysAu_ren.t 5) none w w' := by
      by_cases hu : u < 100
      · exact Any.internal_strconv_AppendUint_10_small laysAu w.heap.size 0 u hu _ [] w hnil (Nat.le_refl _) (by omega)
      · exact Any.internal_strconv_AppendUint_10_big laysAu w.heap.size 0 u (by omega) hu64 _ [] w hnil (Nat.le_refl _) (by omega) (pow_tab hw)
    refine hcall.mono ?_
    rintro en w' ⟨v', rfl, k1, k2, _⟩
    have hd := digs_lib u (by omega)
    rw [Nat.zero_add, List.nil_append] at k1
    have hlen : (Lib.decDigits u).length = (digs u).length := by rw [← hd, List.length_map]
    rw [hlen] at k1
    obtain ⟨g', r1, r2, r3⟩ := owns_rep (d := d) (dh := dh) (κ := .tmp (d + 1) 0) (K := fun κ => κ.deep (d + 1)) hw (e := .int .u8) (xs := digs u) (by decide) (digs_ne u) (by rw [← hd]; exact digit_cells _) k1 k2
    exact ⟨v', g', rfl, by rw [rw_se]; exact r1, r2, r3⟩
  · cases hr

/-- The number that a string's digits are, and whether there is no error. -/
def puV (s : ByteArray) : Int := match Lib.parseUintB 64 s.data.toList with
  | .ok u => (u : Nat)
  | .«syntax» => 0
  | .range => 18446744073709551615
def puE (s : ByteArray) : Bool := match Lib.parseUintB 64 s.data.toList with
  | .ok _ => true
  | _ => false
def puF (A : Ar) : List X → Tr X
  | [.d .str s, .d (.int .i64) b, .d (.int .i64) n] => .test (A.se (decide (b = 10 ∧ n = 64 ∧ s.size ≤ 281474976710656))) (.give (.tup [u64x (A.se (puV s)), .d .err (A.se (puE s))])) .no
  | _ => .no

theorem err_cell {g w} (hw : WF g w) (i : Nat) (hi : tabs i = some ⟨.err, false⟩) : ∃ t p, w.cell? ⟨i, 0, none⟩ = some (.iface t p) := by
  obtain ⟨_, arr, ty, fr, h1, h2, _⟩ := hw.2 i _ _ hi
  obtain ⟨v, h3, _, h4⟩ := h2
  obtain ⟨t, p, rfl⟩ := h4 rfl
  refine ⟨t, p, ?_⟩
  rw [cell_of_heap h1, ← Array.getElem?_toList, h3]
  rfl

theorem bytesWorld_below (w : World) (e : TypeId) (s : ByteArray) : Below w.heap.size w (Lib.bytesWorld w e s) :=
  ⟨by simp [Lib.bytesWorld, World.freeze, World.alloc, World.drew, -World.alloc_eq, -World.drew_eq], by simp [Lib.bytesWorld, World.freeze, World.alloc, World.drew, -World.alloc_eq, -World.drew_eq], by simp [Lib.bytesWorld, World.freeze, World.alloc, World.drew, -World.alloc_eq, -World.drew_eq], by rw [Lib.bytesWorld_size]; omega, fun k hk => Lib.bytesWorld_at_old w e s k hk⟩

theorem pu_rep {g w} {dh : Nat} {κ : Key} {u : Int} {b : Bool} {v : Value} (hv : (b = true → v = .nilIface) ∧ (b = false → ∃ t p, v = .iface t p)) : RepX g w dh κ (.tup [u64x u, .d .err b]) (.tuple #[.int .u64 u, v]) := by
  simp only [RepX]
  refine ⟨[.int .u64 u, v], rfl, ?_⟩
  simp only [RepXs]
  refine ⟨_, _, rfl, RepX.int_iff.2 rfl, _, _, rfl, ?_, rfl⟩
  simp only [RepX]
  exact ⟨_, ⟨v, rfl, hv⟩, by simp [IsVal, Ty.isAgg]⟩

theorem pu_ok : OrcOk Tryd.prog 13 (.pure (puF Ar.real)) := by
  show PureOk _ _ _
  refine ⟨fnOk (fn := Tryd.f13) (by kernel_rfl) (by decide +kernel) (by kernel_rfl), fun args r hr g w d dh vs hd hw ha => ?_⟩
  replace hr : (puF Ar.real args).run some = some r := hr
  unfold puF at hr
  split at hr
  · rename_i s b n
    obtain ⟨hg, rfl⟩ := Tr.one hr
    simp only [rw_se, decide_eq_true_eq] at hg
    obtain ⟨rfl, rfl, hs⟩ := hg
    simp only [RepXs] at ha
    obtain ⟨v0, us0, rfl, k0, v1, us, rfl, k1, v2, us2, rfl, k2, rfl⟩ := ha
    rw [RepX.int_iff] at k1 k2
    rw [RepX.str_iff] at k0
    subst k0; subst k1; subst k2
    simp only [rw_se]
    unfold puV puE
    cases he : Lib.parseUintB 64 s.data.toList with
    | ok u =>
      have hcall : Calls Tryd.prog 13 #[.string s, .int .i64 10, .int .i64 64] w fun e w' => e = .returned (.tuple #[.int .u64 u, .nilIface]) ∧ (w' = w ∨ w' = Lib.bytesWorld w (laysPu_ren.t 5) s) :=
        Any.strconv_ParseUint_10_at64_ok laysPu s (by omega) u he w
      refine hcall.mono ?_
      rintro en w' ⟨rfl, hw'⟩
      have hb : Below w.heap.size w w' := by
        rcases hw' with rfl | rfl
        · exact Below.refl _ _
        · exact bytesWorld_below _ _ _
      obtain ⟨r1, r2⟩ := below_same (d := d) (K := fun κ => κ.deep (d + 1)) hw hb
      exact ⟨_, g, rfl, pu_rep ⟨fun _ => rfl, fun e => by cases e⟩, r1, r2⟩
    | «syntax» =>
      obtain ⟨t, p, hc⟩ := err_cell hw 0 rfl
      have hcall : Calls Tryd.prog 13 #[.string s, .int .i64 10, .int .i64 64] w fun e w' => ∃ N, e = .returned (.tuple #[.int .u64 0, .iface (laysPu_ren.t 39) (.pointer (some ⟨N, 0, none⟩))]) ∧ w.heap.size ≤ N ∧ w'.heap[N]? = some (.cells #[.string ⟨#[80, 97, 114, 115, 101, 85, 105, 110, 116]⟩, .string s, .iface t p] (laysPu_ren.t 44) (0, 0)) ∧ Below w.heap.size w w' :=
        Any.strconv_ParseUint_10_at64_syntax laysPu s hs he (.iface t p) w hc (.inr ⟨t, p, rfl⟩)
      refine hcall.mono ?_
      rintro en w' ⟨N, rfl, _, _, hb⟩
      obtain ⟨r1, r2⟩ := below_same (d := d) (K := fun κ => κ.deep (d + 1)) hw hb
      exact ⟨_, g, rfl, pu_rep ⟨fun e => (by cases e), fun _ => ⟨_, _, rfl⟩⟩, r1, r2⟩
    | range =>
      obtain ⟨t, p, hc⟩ := err_cell hw 1 rfl
      have hcall : Calls Tryd.prog 13 #[.string s, .int .i64 10, .int .i64 64] w fun e w' => ∃ N, e = .returned (.tuple #[.int .u64 18446744073709551615, .iface (laysPu_ren.t 39) (.pointer (some ⟨N, 0, none⟩))]) ∧ w.heap.size ≤ N ∧ w'.heap[N]? = some (.cells #[.string ⟨#[80, 97, 114, 115, 101, 85, 105, 110, 116]⟩, .string s, .iface t p] (laysPu_ren.t 44) (0, 0)) ∧ Below w.heap.size w w' :=
        Any.strconv_ParseUint_10_at64_range laysPu s hs he (.iface t p) w hc (.inr ⟨t, p, rfl⟩)
      refine hcall.mono ?_
      rintro en w' ⟨N, rfl, _, _, hb⟩
      obtain ⟨r1, r2⟩ := below_same (d := d) (K := fun κ => κ.deep (d + 1)) hw hb
      exact ⟨_, g, rfl, pu_rep ⟨fun e => (by cases e), fun _ => ⟨_, _, rfl⟩⟩, r1, r2⟩
  · cases hr

end Go.Proofs.YtlikejlgpfhkfaaDoor.V
