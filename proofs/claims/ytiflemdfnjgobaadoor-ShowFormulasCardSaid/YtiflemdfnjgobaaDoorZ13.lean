/- Lemmas for this claim: part 13. No condition. -/
import Derived.Test.YtiflemdfnjgobaaDoorZ9
import Derived.Test.YtiflemdfnjgobaaDoorRows
import Derived.ProofKit
import Derived.OpenShut
import Derived.LaidMore
import Derived.Lay
/- What the listed package-level variables of the Show rows hold, as the walks ask it. -/
namespace Tab
open Go Go.Proofs Go.ChangeShapes
set_option maxRecDepth 100000
set_option linter.unusedVariables false
set_option linter.unusedSimpArgs false
set_option linter.unusedSectionVars false

theorem laid_get {P : Program} {W : World} : ∀ {laid : List (String × DataW Unit)} {ps : List MemPlace}, DataW.LaidVars P W laid ps → ∀ {n : String} {d : DataW Unit}, (n, d) ∈ laid →
    ∃ g t cs fuel p, P.globalNamed n = some g ∧ (P.globals[g]?).map (·.type) = some t ∧ W.var? P n = some cs ∧ DataW.trod (fun _ => ()) P W 0 (fun _ => true) false fuel t cs.toList = some (d, p)
  | [], _, _, _, _, h => by simp at h
  | (n', d') :: r, ps, h, n, d, hm => by
    obtain ⟨g, t, cs, fuel, p, q, hg, ht, hv, hd, hr, _⟩ := h
    rcases List.mem_cons.1 hm with e | hm
    · obtain ⟨rfl, rfl⟩ := Prod.mk.inj e
      exact ⟨g, t, cs, fuel, p, hg, ht, hv, hd⟩
    · exact laid_get hr hm

theorem arr_int {k : IntKind} {P : Program} {W : World} {n : String} {g : Nat} {t e : TypeId} {N fuel : Nat} {cs : Array Value} {p : List MemPlace} {zs : List Int} (hg : P.globalNamed n = some g) (hv : W.var? P n = some cs) (ht : P.underlying t = some (.array N e))
    (he : P.underlying e = some (.int k)) (hc : P.cellsOf e = 1) (hd : DataW.trod (fun _ => ()) P W 0 (fun _ => true) false fuel t cs.toList = some (.agg (zs.map fun z => .lit (.int k z)), p)) :
    ∀ (i : Nat) (z : Int), zs[i]? = some z → W.cell? ⟨g, i, none⟩ = some (.int k z) := by
  intro r z0 hz0
  obtain ⟨xs, m, _, ex, _, hl, hel⟩ := DataW.trod_array ht hd
  have e3 : (xs.map (·.1)) = zs.map fun z => (.lit (.int k z) : DataW Unit) := (DataW.agg.inj (Prod.mk.inj ex).1).symm
  have hlen : xs.length = zs.length := by simpa using congrArg List.length e3
  obtain ⟨hr, hz⟩ := List.getElem?_eq_some_iff.1 hz0
  have hE := hel r (by omega)
  rw [hc, Nat.mul_one, List.getElem?_eq_getElem (by omega)] at hE
  obtain ⟨z, e1, e2, _⟩ := DataW.trod_int he hE
  have e4 : (xs.map (·.1))[r]? = (zs.map fun z => (.lit (.int k z) : DataW Unit))[r]? := by rw [e3]
  rw [List.getElem?_map, List.getElem?_map, List.getElem?_eq_getElem (by omega : r < xs.length), hz0, e2] at e4
  simp only [Option.map_some, Option.some.injEq, DataW.lit.injEq, Lit.int.injEq, true_and] at e4
  subst e4
  rw [World.var?_cell hg hv r]
  have h0 : ((cs.toList.drop r).take 1)[0]? = some (.int k z) := by rw [e1]; rfl
  simpa using h0

theorem globs_of_laid {W : World} (h : laidMetH Tryd.prog YtiflemdfnjgobaaDoor.Rows.showFormulasRow.laid W) : GRel m₀ (fun cb => cb < W.heap.size) W := by
  rw [MakeChecks.laidMetH_plain _ _ _ (by kernel_rfl)] at h
  obtain ⟨ps, hL, _, _⟩ := h
  intro g
  match g with
  | 0 =>
    obtain ⟨g, t, cs, fuel, p, hg, ht, hv, hd⟩ := laid_get hL (n := "internal/strconv.uint64pow10") (d := YtiflemdfnjgobaaDoor.Rows.laid_internal_strconv_uint64pow10) (.tail _ (.tail _ (.head _)))
    obtain rfl := Option.some.inj ((show Tryd.prog.globalNamed "internal/strconv.uint64pow10" = some 0 by kernel_rfl).symm.trans hg)
    obtain rfl := Option.some.inj ((show (Tryd.prog.globals[0]?).map (·.type) = some 153 by kernel_rfl).symm.trans ht)
    rw [show (YtiflemdfnjgobaaDoor.Rows.laid_internal_strconv_uint64pow10 : DataW Unit) = .agg (powZ.map fun z => .lit (.int .u64 z)) by kernel_rfl] at hd
    exact tref_of (k := .u64) (by simp [powZ]) (arr_int (e := 137) (N := 20) hg hv (by kernel_rfl) (by kernel_rfl) (by kernel_rfl) hd)
  | _ + 1 => show VRel _ _ _ .junk _; simp only [VRel]

end Tab
