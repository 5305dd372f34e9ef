/- Lemmas for this claim: part 14. No condition. -/
import Derived.Test.YtiflemdfnjgobaaDoorZ9
import Derived.Test.YtiflemdfnjgobaaDoorRows
import Derived.ProofKit
import Derived.OpenShut
import Derived.LaidMore
import Derived.Lay
/- What the listed package-level variables hold, as the walks ask it (variables under any numbers; a row's name from the seat's names). -/
namespace Tab
open Go Go.Proofs Go.ChangeShapes
set_option maxRecDepth 100000
set_option linter.unusedVariables false
set_option linter.unusedSimpArgs false
set_option linter.unusedSectionVars false

theorem laid_get {P : Program} {W : World} : ∀ {laid : List (String × DataW Unit)} {ps : List MemPlace}, DataW.LaidVars P W laid ps → ∀ {n : String} {d : DataW Unit}, (n, d) ∈ laid →
    ∃ g t cs fuel p, P.globalNamed n = some g ∧ (P.globals[g]?).map (·.type) = some t ∧ W.var? P n = some cs ∧ DataW.trod (fun _ => ()) P W 0 (fun _ => true) false fuel t cs.toList = some (d, p)
  | [], _, _, _, _, h => by simp at h
  | (n', d') :: r, ps, h, n, d, hm => by
    obtain ⟨g, t, cs, fuel, p, q, hg, ht, hv, hd, hr, _⟩ := h
    rcases List.mem_cons.1 hm with e | hm
    · obtain ⟨rfl, rfl⟩ := Prod.mk.inj e
      exact ⟨g, t, cs, fuel, p, hg, ht, hv, hd⟩
    · exact laid_get hr hm

theorem arr_u8 {P : Program} {W : World} {n : String} {g : Nat} {t e : TypeId} {N fuel : Nat} {cs : Array Value} {p : List MemPlace} {zs : List Int} (hg : P.globalNamed n = some g) (hv : W.var? P n = some cs) (ht : P.underlying t = some (.array N e))
    (he : P.underlying e = some (.int .u8)) (hc : P.cellsOf e = 1) (hd : DataW.trod (fun _ => ()) P W 0 (fun _ => true) false fuel t cs.toList = some (.agg (zs.map fun z => .lit (.int .u8 z)), p)) :
    ∀ (i : Nat) (z : Int), zs[i]? = some z → W.cell? ⟨g, i, none⟩ = some (.int .u8 z) := by
  intro r z0 hz0
  obtain ⟨xs, m, _, ex, _, hl, hel⟩ := DataW.trod_array ht hd
  have e3 : (xs.map (·.1)) = zs.map fun z => (.lit (.int .u8 z) : DataW Unit) := (DataW.agg.inj (Prod.mk.inj ex).1).symm
  have hlen : xs.length = zs.length := by simpa using congrArg List.length e3
  obtain ⟨hr, hz⟩ := List.getElem?_eq_some_iff.1 hz0
  have hE := hel r (by omega)
  rw [hc, Nat.mul_one, List.getElem?_eq_getElem (by omega)] at hE
  obtain ⟨z, e1, e2, _⟩ := DataW.trod_int he hE
  have e4 : (xs.map (·.1))[r]? = (zs.map fun z => (.lit (.int .u8 z) : DataW Unit))[r]? := by rw [e3]
  rw [List.getElem?_map, List.getElem?_map, List.getElem?_eq_getElem (by omega : r < xs.length), hz0, e2] at e4
  simp only [Option.map_some, Option.some.injEq, DataW.lit.injEq, Lit.int.injEq, true_and] at e4
  subst e4
  rw [World.var?_cell hg hv r]
  have h0 : ((cs.toList.drop r).take 1)[0]? = some (.int .u8 z) := by rw [e1]; rfl
  simpa using h0

theorem arr_pair {P : Program} {W : World} {n : String} {g : Nat} {t e : TypeId} {f0 f1 : Field} {N fuel : Nat} {cs : Array Value} {p : List MemPlace} {qs : List (Int × Int)} (hg : P.globalNamed n = some g) (hv : W.var? P n = some cs) (ht : P.underlying t = some (.array N e))
    (he : P.underlying e = some (.struct #[f0, f1])) (hc : P.cellsOf e = 2) (h0 : P.underlying f0.type = some (.int .u8)) (h1 : P.underlying f1.type = some (.int .u8)) (c0 : P.cellsOf f0.type = 1) (c1 : P.cellsOf f1.type = 1) (o0 : f0.offset = 0) (o1 : f1.offset = 1)
    (hd : DataW.trod (fun _ => ()) P W 0 (fun _ => true) false fuel t cs.toList = some (.agg (qs.map fun q => .agg [.lit (.int .u8 q.1), .lit (.int .u8 q.2)]), p)) :
    ∀ (i : Nat) (q : Int × Int), qs[i]? = some q → W.cell? ⟨g, 2 * i, none⟩ = some (.int .u8 q.1) ∧ W.cell? ⟨g, 2 * i + 1, none⟩ = some (.int .u8 q.2) := by
  intro r q0 hq0
  obtain ⟨xs, m, _, ex, _, hl, hel⟩ := DataW.trod_array ht hd
  have e3 : (xs.map (·.1)) = qs.map fun q => (.agg [.lit (.int .u8 q.1), .lit (.int .u8 q.2)] : DataW Unit) := (DataW.agg.inj (Prod.mk.inj ex).1).symm
  have hlen : xs.length = qs.length := by simpa using congrArg List.length e3
  obtain ⟨hr, hz⟩ := List.getElem?_eq_some_iff.1 hq0
  have hE := hel r (by omega)
  rw [hc, List.getElem?_eq_getElem (by omega)] at hE
  obtain ⟨y0, y1, k, e2, hl2, k0, k1⟩ := trod_struct2 he hE
  rw [c0, o0] at k0
  rw [c1, o1] at k1
  obtain ⟨z0, a0, b0, _⟩ := DataW.trod_int h0 k0
  obtain ⟨z1, a1, b1, _⟩ := DataW.trod_int h1 k1
  have e4 : (xs.map (·.1))[r]? = (qs.map fun q => (.agg [.lit (.int .u8 q.1), .lit (.int .u8 q.2)] : DataW Unit))[r]? := by rw [e3]
  rw [List.getElem?_map, List.getElem?_map, List.getElem?_eq_getElem (by omega : r < xs.length), hq0, e2, b0, b1] at e4
  simp only [Option.map_some, Option.some.injEq, DataW.agg.injEq, List.cons.injEq, DataW.lit.injEq, Lit.int.injEq, true_and, and_true] at e4
  obtain ⟨rfl, rfl⟩ := e4
  rw [World.var?_cell hg hv, World.var?_cell hg hv]
  constructor
  · have := congrArg (·[0]?) a0
    simpa [List.getElem?_take, List.getElem?_drop, Nat.mul_comm] using this
  · have := congrArg (·[0]?) a1
    simpa [List.getElem?_take, List.getElem?_drop, Nat.mul_comm] using this

def accQ : List (Int × Int) := [(128, 191), (160, 191), (128, 159), (144, 191), (128, 143)] ++ List.replicate 11 (0, 0)
theorem acc_cells {W : World} {g : Nat} (h : ∀ (i : Nat) (q : Int × Int), accQ[i]? = some q → W.cell? ⟨g, 2 * i, none⟩ = some (.int .u8 q.1) ∧ W.cell? ⟨g, 2 * i + 1, none⟩ = some (.int .u8 q.2)) :
    ∀ (i : Nat) (z : Int), accZ[i]? = some z → W.cell? ⟨g, i, none⟩ = some (.int .u8 z) := by
  intro i z hz
  have hi : i < 32 := (List.getElem?_eq_some_iff.1 hz).1
  have k : (List.range 32).all (fun i => decide (accZ[i]? = some (if i % 2 = 0 then (accQ.getD (i / 2) (0, 0)).1 else (accQ.getD (i / 2) (0, 0)).2))) = true := by kernel_rfl
  have e := List.all_eq_true.1 k i (List.mem_range.2 hi)
  rw [decide_eq_true_eq, hz, Option.some.injEq] at e
  have hq : accQ[i / 2]? = some (accQ.getD (i / 2) (0, 0)) := by
    have : i / 2 < accQ.length := by show i / 2 < 16; omega
    rw [List.getD_eq_getElem?_getD, List.getElem?_eq_getElem this]
    rfl
  obtain ⟨k0, k1⟩ := h _ _ hq
  by_cases c : i % 2 = 0
  · rw [if_pos c] at e
    rw [show 2 * (i / 2) = i by omega] at k0
    rw [k0, e]
  · rw [if_neg c] at e
    rw [show 2 * (i / 2) + 1 = i by omega] at k1
    rw [k1, e]

theorem arr_int {k : IntKind} {P : Program} {W : World} {n : String} {g : Nat} {t e : TypeId} {N fuel : Nat} {cs : Array Value} {p : List MemPlace} {zs : List Int} (hg : P.globalNamed n = some g) (hv : W.var? P n = some cs) (ht : P.underlying t = some (.array N e))
    (he : P.underlying e = some (.int k)) (hc : P.cellsOf e = 1) (hd : DataW.trod (fun _ => ()) P W 0 (fun _ => true) false fuel t cs.toList = some (.agg (zs.map fun z => .lit (.int k z)), p)) :
    ∀ (i : Nat) (z : Int), zs[i]? = some z → W.cell? ⟨g, i, none⟩ = some (.int k z) := by
  intro r z0 hz0
  obtain ⟨xs, m, _, ex, _, hl, hel⟩ := DataW.trod_array ht hd
  have e3 : (xs.map (·.1)) = zs.map fun z => (.lit (.int k z) : DataW Unit) := (DataW.agg.inj (Prod.mk.inj ex).1).symm
  have hlen : xs.length = zs.length := by simpa using congrArg List.length e3
  obtain ⟨hr, hz⟩ := List.getElem?_eq_some_iff.1 hz0
  have hE := hel r (by omega)
  rw [hc, Nat.mul_one, List.getElem?_eq_getElem (by omega)] at hE
  obtain ⟨z, e1, e2, _⟩ := DataW.trod_int he hE
  have e4 : (xs.map (·.1))[r]? = (zs.map fun z => (.lit (.int k z) : DataW Unit))[r]? := by rw [e3]
  rw [List.getElem?_map, List.getElem?_map, List.getElem?_eq_getElem (by omega : r < xs.length), hz0, e2] at e4
  simp only [Option.map_some, Option.some.injEq, DataW.lit.injEq, Lit.int.injEq, true_and] at e4
  subst e4
  rw [World.var?_cell hg hv r]
  have h0 : ((cs.toList.drop r).take 1)[0]? = some (.int k z) := by rw [e1]; rfl
  simpa using h0

theorem globs_of_laid {W : World} (h : laidMetH Tryd.prog YtiflemdfnjgobaaDoor.Rows.showBackRow.laid W) : GRel m₀ (fun cb => cb < W.heap.size) W := by
  rw [MakeChecks.laidMetH_plain _ _ _ (by kernel_rfl)] at h
  obtain ⟨ps, hL, _, _⟩ := h
  intro g
  by_cases h0 : g = 1
  · subst h0
    obtain ⟨g, t, cs, fuel, p, hg, ht, hv, hd⟩ := laid_get hL (n := "strings.asciiSpace") (d := YtiflemdfnjgobaaDoor.Rows.laid_strings_asciiSpace) (.tail _ (.tail _ (.tail _ (.tail _ (.tail _ (.head _))))))
    obtain rfl := Option.some.inj ((show Tryd.prog.globalNamed "strings.asciiSpace" = some 1 by kernel_rfl).symm.trans hg)
    obtain rfl := Option.some.inj ((show (Tryd.prog.globals[1]?).map (·.type) = some 158 by kernel_rfl).symm.trans ht)
    rw [show (YtiflemdfnjgobaaDoor.Rows.laid_strings_asciiSpace : DataW Unit) = .agg (spcZ.map fun z => .lit (.int .u8 z)) by kernel_rfl] at hd
    exact tref_of (by simp [spcZ]) (arr_u8 (e := 5) (N := 256) hg hv (by kernel_rfl) (by kernel_rfl) (by kernel_rfl) hd)
  by_cases h1 : g = 2
  · subst h1
    obtain ⟨g, t, cs, fuel, p, hg, ht, hv, hd⟩ := laid_get hL (n := "unicode/utf8.first") (d := YtiflemdfnjgobaaDoor.Rows.laid_unicode_utf8_first) (.tail _ (.tail _ (.tail _ (.tail _ (.tail _ (.tail _ (.head _)))))))
    obtain rfl := Option.some.inj ((show Tryd.prog.globalNamed "unicode/utf8.first" = some 2 by kernel_rfl).symm.trans hg)
    obtain rfl := Option.some.inj ((show (Tryd.prog.globals[2]?).map (·.type) = some 158 by kernel_rfl).symm.trans ht)
    rw [show (YtiflemdfnjgobaaDoor.Rows.laid_unicode_utf8_first : DataW Unit) = .agg (fstZ.map fun z => .lit (.int .u8 z)) by kernel_rfl] at hd
    exact tref_of (by simp [fstZ]) (arr_u8 (e := 5) (N := 256) hg hv (by kernel_rfl) (by kernel_rfl) (by kernel_rfl) hd)
  by_cases h2 : g = 3
  · subst h2
    obtain ⟨g, t, cs, fuel, p, hg, ht, hv, hd⟩ := laid_get hL (n := "unicode/utf8.acceptRanges") (d := YtiflemdfnjgobaaDoor.Rows.laid_unicode_utf8_acceptRanges) (.tail _ (.tail _ (.tail _ (.head _))))
    obtain rfl := Option.some.inj ((show Tryd.prog.globalNamed "unicode/utf8.acceptRanges" = some 3 by kernel_rfl).symm.trans hg)
    obtain rfl := Option.some.inj ((show (Tryd.prog.globals[3]?).map (·.type) = some 163 by kernel_rfl).symm.trans ht)
    rw [show (YtiflemdfnjgobaaDoor.Rows.laid_unicode_utf8_acceptRanges : DataW Unit) = .agg (accQ.map fun q => .agg [.lit (.int .u8 q.1), .lit (.int .u8 q.2)]) by kernel_rfl] at hd
    exact tref_of (by simp [accZ]) (acc_cells (arr_pair (e := 162) (N := 16) (f0 := { name := "lo", type := 5, offset := 0, embedded := false, tag := "", pkgPath := "unicode/utf8", byteOffset := 0 }) (f1 := { name := "hi", type := 5, offset := 1, embedded := false, tag := "", pkgPath := "unicode/utf8", byteOffset := 1 }) hg hv (by kernel_rfl) (by kernel_rfl) (by kernel_rfl) (by kernel_rfl) (by kernel_rfl) (by kernel_rfl) (by kernel_rfl) rfl rfl hd))
  by_cases h3 : g = 0
  · subst h3
    obtain ⟨g, t, cs, fuel, p, hg, ht, hv, hd⟩ := laid_get hL (n := "internal/strconv.uint64pow10") (d := YtiflemdfnjgobaaDoor.Rows.laid_internal_strconv_uint64pow10) (.tail _ (.tail _ (.head _)))
    obtain rfl := Option.some.inj ((show Tryd.prog.globalNamed "internal/strconv.uint64pow10" = some 0 by kernel_rfl).symm.trans hg)
    obtain rfl := Option.some.inj ((show (Tryd.prog.globals[0]?).map (·.type) = some 153 by kernel_rfl).symm.trans ht)
    rw [show (YtiflemdfnjgobaaDoor.Rows.laid_internal_strconv_uint64pow10 : DataW Unit) = .agg (powZ.map fun z => .lit (.int .u64 z)) by kernel_rfl] at hd
    exact tref_ofK (k := .u64) (by simp [powZ]) (arr_int (e := 137) (N := 20) hg hv (by kernel_rfl) (by kernel_rfl) (by kernel_rfl) hd)
  have hb : ∀ n, g ≠ n → Nat.beq g n = false := fun n h => by
    rw [← Bool.not_eq_true]; intro k; exact h (Nat.eq_of_beq_eq_true k)
  have hj : gvV g = .junk := by
    unfold gvV gvP
    simp only [hb _ h0, hb _ h1, hb _ h2, cond_false]
    simp only [hb _ h3, cond_false]
  show VRel _ _ _ (gvV g) _
  rw [hj]
  simp only [VRel]

end Tab
