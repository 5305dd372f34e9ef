/- Lemmas for this claim: part 16. No condition. -/
import Derived.Test.YtgadapklmphliaaZ10
import Derived.Test.YtgadapklmphliaaZ11
import Derived.Test.YtgadapklmphliaaZ15
/- Arguments of a statement: machines, lists. -/
namespace Tab
open Go Go.Proofs Go.ChangeShapes Go.WideShapes Go.RowKit
set_option maxRecDepth 10000
set_option linter.unusedVariables false
set_option linter.unusedSimpArgs false
set_option linter.unusedSectionVars false

abbrev okSl {X : Type} (b : Nat) (okE : X → Prop) (x : SK × List X) : Prop := ((x.1 = .nil ∧ x.2 = []) ∨ x.1 = .nn) ∧ (∀ y ∈ x.2, okE y) ∧ x.2.length * b ≤ reachBytes
abbrev StrsX := SK × List (List UInt8)
abbrev okStrs : StrsX → Prop := okSl (Try.prog.bytesOf 9) (fun s : List UInt8 => s.length ≤ reachBytes)
abbrev okBools : SK × List Bool → Prop := okSl (Try.prog.bytesOf 4) (fun _ => True)
abbrev okInts : SK × List Int → Prop := okSl (Try.prog.bytesOf 3) (fun n => (Lit.int .i64 n).wf = true)
abbrev okRows : SK × List (SK × List Int) → Prop := okSl (Try.prog.bytesOf 24) okInts
theorem opens_strs : Opens Try.prog 22 StrsX (fun x => [.sl x.1 x.2.length (x.2.flatMap fun s => [.str s])]) okStrs :=
  .slice (e := 9) (by kernel_rfl) (by kernel_rfl) (fun _ => (by kernel_rfl)) (Nat.le_of_ble_eq_true (by kernel_rfl)) (.str (by kernel_rfl) (by kernel_rfl))
theorem opens_bools : Opens Try.prog 23 (SK × List Bool) (fun x => [.sl x.1 x.2.length (x.2.flatMap fun s => [.bool s])]) okBools :=
  .slice (e := 4) (by kernel_rfl) (by kernel_rfl) (fun _ => (by kernel_rfl)) (Nat.le_of_ble_eq_true (by kernel_rfl)) (.bool (by kernel_rfl) (by kernel_rfl))
theorem opens_ints : Opens Try.prog 24 (SK × List Int) (fun x => [.sl x.1 x.2.length (x.2.flatMap fun s => [.int .i64 s])]) okInts :=
  .slice (e := 3) (by kernel_rfl) (by kernel_rfl) (fun _ => (by kernel_rfl)) (Nat.le_of_ble_eq_true (by kernel_rfl)) (.int (by kernel_rfl) (by kernel_rfl))
theorem opens_rows : Opens Try.prog 38 (SK × List (SK × List Int)) (fun x => [.sl x.1 x.2.length (x.2.flatMap fun x => [.sl x.1 x.2.length (x.2.flatMap fun s => [.int .i64 s])])]) okRows :=
  .slice (e := 24) (by kernel_rfl) (by kernel_rfl) (fun _ => (by kernel_rfl)) (Nat.le_of_ble_eq_true (by kernel_rfl)) opens_ints
abbrev DenX := StrsX × ((SK × List Bool) × ((SK × List (SK × List Int)) × Unit))
abbrev denEnc3 (x : (SK × List (SK × List Int)) × Unit) : List AV := [AV.sl x.1.1 x.1.2.length (x.1.2.flatMap fun x => [.sl x.1 x.2.length (x.2.flatMap fun s => [.int .i64 s])])] ++ []
abbrev denEnc2 (x : (SK × List Bool) × ((SK × List (SK × List Int)) × Unit)) : List AV := [AV.sl x.1.1 x.1.2.length (x.1.2.flatMap fun s => [.bool s])] ++ denEnc3 x.2
abbrev denEnc (x : DenX) : List AV := [AV.sl x.1.1 x.1.2.length (x.1.2.flatMap fun s => [.str s])] ++ denEnc2 x.2
abbrev okDen3 (x : (SK × List (SK × List Int)) × Unit) : Prop := okRows x.1 ∧ True
abbrev okDen2 (x : (SK × List Bool) × ((SK × List (SK × List Int)) × Unit)) : Prop := okBools x.1 ∧ okDen3 x.2
abbrev okDen (x : DenX) : Prop := okStrs x.1 ∧ okDen2 x.2
theorem opens_den : Opens Try.prog 40 DenX denEnc okDen := by
  refine Opens.struct (tot := 3) rfl (by kernel_rfl) ?_
  refine OpensFs.cons (c := 1) (tot := 2) (enc' := denEnc2) (ok' := okDen2) (f := { name := "Tracks", type := 22, offset := 0, embedded := false, tag := "", pkgPath := "", byteOffset := 0 }) rfl (by kernel_rfl) opens_strs ?_
  refine OpensFs.cons (c := 1) (tot := 1) (enc' := denEnc3) (ok' := okDen3) (f := { name := "Accept", type := 23, offset := 1, embedded := false, tag := "", pkgPath := "", byteOffset := 24 }) rfl (by kernel_rfl) opens_bools ?_
  refine OpensFs.cons (c := 1) (tot := 0) (enc' := fun _ => []) (ok' := fun _ => True) (f := { name := "Next", type := 38, offset := 2, embedded := false, tag := "", pkgPath := "", byteOffset := 48 }) rfl (by kernel_rfl) opens_rows ?_
  exact OpensFs.nil
theorem arg_den : OpensArg Try.prog 40 DenX (fun x => .agg (denEnc x)) okDen := OpensArg.struct (P := Try.prog) (t := 40) rfl opens_den
theorem arg_strs : OpensArg Try.prog 22 StrsX (fun x => .sl x.1 x.2.length (x.2.flatMap fun s => [.str s])) okStrs :=
  .slice (e := 9) (by kernel_rfl) (by kernel_rfl) (fun _ => (by kernel_rfl)) (Nat.le_of_ble_eq_true (by kernel_rfl)) (.str (by kernel_rfl) (by kernel_rfl))

theorem fm_map {X : Type} (f : X → AV) : ∀ (l : List X), (l.flatMap fun s => [f s]) = l.map f
  | [] => rfl
  | x :: l => by rw [List.flatMap_cons, fm_map f l]; rfl

def denOf (x : DenX) : Den := ⟨x.1.1, x.1.2, x.2.1.1, x.2.1.2, x.2.2.1.1, x.2.2.1.2⟩
theorem denOf_av (x : DenX) : AV.agg (denEnc x) = aDen (denOf x) := by
  simp only [denEnc, denEnc2, denEnc3, fm_map]
  rfl
theorem denOf_ok {x : DenX} (h : okDen x) : DenOk (denOf x) := by
  have e1 : Try.prog.bytesOf 9 = 16 := (by kernel_rfl)
  have e2 : Try.prog.bytesOf 4 = 1 := (by kernel_rfl)
  have e3 : Try.prog.bytesOf 3 = 8 := (by kernel_rfl)
  have e4 : Try.prog.bytesOf 24 = 24 := (by kernel_rfl)
  obtain ⟨⟨_, h1, h2⟩, ⟨_, _, h3⟩, ⟨_, h4, h5⟩, _⟩ := h
  rw [e1] at h2
  rw [e2] at h3
  rw [e4] at h5
  have er : reachBytes = 140737488351232 := (by kernel_rfl)
  rw [er] at h2 h3 h5
  refine ⟨h2, fun s hs => by have := h1 s hs; rw [er] at this; exact this, by rw [Nat.mul_one] at h3; exact h3, h5, fun r hr => ?_⟩
  have := (h4 r hr).2.2
  rw [e3, er] at this
  exact this
theorem strs_ok {x : StrsX} (h : okStrs x) : x.2.length * 16 ≤ 140737488351232 ∧ ∀ s ∈ x.2, s.length ≤ 140737488351232 := by
  have e1 : Try.prog.bytesOf 9 = 16 := (by kernel_rfl)
  have er : reachBytes = 140737488351232 := (by kernel_rfl)
  obtain ⟨_, h1, h2⟩ := h
  rw [e1, er] at h2
  exact ⟨h2, fun s hs => by have := h1 s hs; rw [er] at this; exact this⟩

theorem own₀ : ownKnob Try.prog.godebug = none := (by kernel_rfl)
theorem laid₀ : laidOutB Try.prog = true := (by kernel_rfl)

end Tab

/- Arguments of a statement: tables. -/
namespace Go.Proofs.Ytgadapklmphliaa
open Go Go.ChangeShapes Go.WideShapes Go.ChangeAt Go.RowKit Tab
set_option maxRecDepth 100000
set_option linter.unusedVariables false
set_option linter.unusedSimpArgs false
set_option linter.unusedSectionVars false

abbrev CbX := Int × (Int × (Int × Unit))
abbrev cbEnc3 (x : Int × Unit) : List AV := [AV.int .i64 x.1] ++ []
abbrev cbEnc2 (x : Int × (Int × Unit)) : List AV := [AV.int .i64 x.1] ++ cbEnc3 x.2
abbrev cbEnc (x : CbX) : List AV := [AV.int .i64 x.1] ++ cbEnc2 x.2
abbrev okInt1 (n : Int) : Prop := (Lit.int .i64 n).wf = true
abbrev okCb3 (x : Int × Unit) : Prop := okInt1 x.1 ∧ True
abbrev okCb2 (x : Int × (Int × Unit)) : Prop := okInt1 x.1 ∧ okCb3 x.2
abbrev okCb (x : CbX) : Prop := okInt1 x.1 ∧ okCb2 x.2
theorem opens_cube : Opens Try.prog 92 CbX cbEnc okCb := by
  refine Opens.struct (tot := 3) rfl (by kernel_rfl) ?_
  refine OpensFs.cons (c := 1) (tot := 2) (enc' := cbEnc2) (ok' := okCb2) (f := { name := "Mask", type := 3, offset := 0, embedded := false, tag := "", pkgPath := "", byteOffset := 0 }) rfl (by kernel_rfl) (.int (by kernel_rfl) (by kernel_rfl)) ?_
  refine OpensFs.cons (c := 1) (tot := 1) (enc' := cbEnc3) (ok' := okCb3) (f := { name := "Bits", type := 3, offset := 1, embedded := false, tag := "", pkgPath := "", byteOffset := 8 }) rfl (by kernel_rfl) (.int (by kernel_rfl) (by kernel_rfl)) ?_
  refine OpensFs.cons (c := 1) (tot := 0) (enc' := fun _ => []) (ok' := fun _ => True) (f := { name := "To", type := 3, offset := 2, embedded := false, tag := "", pkgPath := "", byteOffset := 16 }) rfl (by kernel_rfl) (.int (by kernel_rfl) (by kernel_rfl)) ?_
  exact OpensFs.nil

abbrev okArena : SK × List CbX → Prop := okSl (Try.prog.bytesOf 92) okCb
theorem opens_arena : Opens Try.prog 25 (SK × List CbX) (fun x => [.sl x.1 x.2.length (x.2.flatMap cbEnc)]) okArena :=
  .slice (e := 92) (by kernel_rfl) (by kernel_rfl) (fun _ => rfl) (Nat.le_of_ble_eq_true (by kernel_rfl)) opens_cube
abbrev AutX := StrsX × ((SK × List Bool) × ((SK × List Int) × ((SK × List CbX) × Unit)))
abbrev autEnc4 (x : (SK × List CbX) × Unit) : List AV := [AV.sl x.1.1 x.1.2.length (x.1.2.flatMap cbEnc)] ++ []
abbrev autEnc3 (x : (SK × List Int) × ((SK × List CbX) × Unit)) : List AV := [AV.sl x.1.1 x.1.2.length (x.1.2.flatMap fun s => [.int .i64 s])] ++ autEnc4 x.2
abbrev autEnc2 (x : (SK × List Bool) × ((SK × List Int) × ((SK × List CbX) × Unit))) : List AV := [AV.sl x.1.1 x.1.2.length (x.1.2.flatMap fun s => [.bool s])] ++ autEnc3 x.2
abbrev autEnc (x : AutX) : List AV := [AV.sl x.1.1 x.1.2.length (x.1.2.flatMap fun s => [.str s])] ++ autEnc2 x.2
abbrev okAut4 (x : (SK × List CbX) × Unit) : Prop := okArena x.1 ∧ True
abbrev okAut3 (x : (SK × List Int) × ((SK × List CbX) × Unit)) : Prop := okInts x.1 ∧ okAut4 x.2
abbrev okAut2 (x : (SK × List Bool) × ((SK × List Int) × ((SK × List CbX) × Unit))) : Prop := okBools x.1 ∧ okAut3 x.2
abbrev okAut (x : AutX) : Prop := okStrs x.1 ∧ okAut2 x.2
theorem opens_aut : Opens Try.prog 27 AutX autEnc okAut := by
  refine Opens.struct (tot := 4) rfl (by kernel_rfl) ?_
  refine OpensFs.cons (c := 1) (tot := 3) (enc' := autEnc2) (ok' := okAut2) (f := { name := "Tracks", type := 22, offset := 0, embedded := false, tag := "", pkgPath := "", byteOffset := 0 }) rfl (by kernel_rfl) opens_strs ?_
  refine OpensFs.cons (c := 1) (tot := 2) (enc' := autEnc3) (ok' := okAut3) (f := { name := "Accept", type := 23, offset := 1, embedded := false, tag := "", pkgPath := "", byteOffset := 24 }) rfl (by kernel_rfl) opens_bools ?_
  refine OpensFs.cons (c := 1) (tot := 1) (enc' := autEnc4) (ok' := okAut4) (f := { name := "Starts", type := 24, offset := 2, embedded := false, tag := "", pkgPath := "", byteOffset := 48 }) rfl (by kernel_rfl) opens_ints ?_
  refine OpensFs.cons (c := 1) (tot := 0) (enc' := fun _ => []) (ok' := fun _ => True) (f := { name := "Arena", type := 25, offset := 3, embedded := false, tag := "", pkgPath := "", byteOffset := 72 }) rfl (by kernel_rfl) opens_arena ?_
  exact OpensFs.nil
theorem arg_aut : OpensArg Try.prog 27 AutX (fun x => .agg (autEnc x)) okAut := OpensArg.struct (P := Try.prog) (t := 27) rfl opens_aut

def cbOf (x : CbX) : Cb := (x.1, x.2.1, x.2.2.1)
def autOf (x : AutX) : Aut := ⟨x.1.1, x.1.2, x.2.1.1, x.2.1.2, x.2.2.1.1, x.2.2.1.2, x.2.2.2.1.1, x.2.2.2.1.2.map cbOf⟩
theorem cc3_of : ∀ (l : List CbX), l.flatMap cbEnc = cc3 (l.map cbOf)
  | [] => rfl
  | x :: l => by rw [List.flatMap_cons, cc3_of l]; rfl
theorem autOf_av (x : AutX) : AV.agg (autEnc x) = aAut (autOf x) := by
  simp only [autEnc, autEnc2, autEnc3, autEnc4, fm_map, cc3_of]
  simp [aAut, Aut.cells, autOf, aSs, aBs, aIs, aCs]
theorem autOf_ok {x : AutX} (h : okAut x) : AutOk (autOf x) := by
  have e1 : Try.prog.bytesOf 9 = 16 := (by kernel_rfl)
  have e2 : Try.prog.bytesOf 4 = 1 := (by kernel_rfl)
  have e3 : Try.prog.bytesOf 3 = 8 := (by kernel_rfl)
  have e4 : Try.prog.bytesOf 92 = 24 := (by kernel_rfl)
  have er : reachBytes = 140737488351232 := (by kernel_rfl)
  obtain ⟨⟨_, h1, h2⟩, ⟨_, _, h3⟩, ⟨_, _, h4⟩, ⟨_, h5, h6⟩, _⟩ := h
  rw [e1, er] at h2
  rw [e2, er] at h3
  rw [e3, er] at h4
  rw [e4, er] at h6
  have hw : ∀ n : Int, (Lit.int .i64 n).wf = true → okI n := fun n h => by
    simp only [Lit.wf, Bool.and_eq_true, decide_eq_true_eq, show IntKind.i64.min = -9223372036854775808 from rfl, show IntKind.i64.max = 9223372036854775807 from rfl] at h
    exact ⟨by omega, by omega⟩
  refine ⟨h2, fun s hs => by have := h1 s hs; rw [er] at this; exact this, by rw [Nat.mul_one] at h3; exact h3, h4, by simpa [autOf] using h6, fun c hc => ?_⟩
  obtain ⟨y, hy, rfl⟩ := List.mem_map.1 hc
  obtain ⟨g1, g2, g3, _⟩ := h5 y hy
  exact ⟨hw _ g1, hw _ g2, hw _ g3⟩

end Go.Proofs.Ytgadapklmphliaa
