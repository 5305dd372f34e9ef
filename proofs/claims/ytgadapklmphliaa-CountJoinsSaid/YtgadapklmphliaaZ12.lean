/- Lemmas for this claim: part 12. No condition. -/
import Derived.Test.YtgadapklmphliaaZ9
import Derived.Test.YtgadapklmphliaaZ10
import Derived.Test.YtgadapklmphliaaZ11
/- The constant tables of tabardlaw20 and tabardlaw21. -/
namespace Tab
open Go Go.Proofs
set_option maxRecDepth 10000
set_option linter.unusedVariables false
set_option linter.unusedSimpArgs false
set_option linter.unusedSectionVars false

def dF : Den := ⟨.any, [[120]], .any, [false, false, false, false, true], .any, [(.any, [1, 2]), (.any, [2, 3]), (.any, [2, 2]), (.any, [4, 2]), (.any, [4, 2])]⟩
def dT : Den := ⟨.any, [[120]], .any, [false, true], .any, [(.any, [1, 1]), (.any, [1, 1])]⟩
def tbF : Aut := packA dF
def tbT : Aut := packA dT
theorem dF_ok : DenOk dF := ⟨by decide, by decide, by decide, by decide, by decide⟩
theorem dT_ok : DenOk dT := ⟨by decide, by decide, by decide, by decide, by decide⟩
theorem dF_right : rightS dF = true := by kernel_rfl
theorem dT_right : rightS dT = true := by kernel_rfl
theorem pk_F : Pure Try.prog 91 [aDen dF] (.tup [aAut tbF, .int .i64 0]) := r12_Pack dF dF_ok dF_right fun r _ => by
  have := (cubR_len dF.tracks.length r 0 0).1
  have e : 2 ^ dF.tracks.length = 2 := rfl
  omega
theorem pk_T : Pure Try.prog 91 [aDen dT] (.tup [aAut tbT, .int .i64 0]) := r12_Pack dT dT_ok dT_right fun r _ => by
  have := (cubR_len dT.tracks.length r 0 0).1
  have e : 2 ^ dT.tracks.length = 2 := rfl
  omega
theorem tbF_check : checkS tbF = true := by kernel_rfl
theorem tbT_check : checkS tbT = true := by kernel_rfl
theorem tbF_den : unpD tbF = dF := by rw [unpD_ok tbF_check]; kernel_rfl
theorem tbT_den : unpD tbT = dT := by rw [unpD_ok tbT_check]; kernel_rfl
theorem pack_ok {d : Den} (hd : DenOk d) (hl : d.next.length ≤ 1000) (ho : ∀ r ∈ d.rows, ∀ x ∈ r, okI x) (h6 : d.tracks.length ≤ 6) (h32 : ∀ r ∈ d.rows, (cubR d.tracks.length r 0 0).length ≤ 32) : AutOk (packA d) where
  tracks := hd.tracks
  names := hd.names
  accept := hd.accept
  starts := by show (packS d d.next.length).length * 8 ≤ _; rw [packS_length]; omega
  arena := by show (packC d d.next.length).length * 24 ≤ _; have := packC_len h32 d.next.length; omega
  cubes := by
    intro c hc
    obtain ⟨r, hr, hc⟩ := List.mem_flatMap.1 hc
    exact cubR_ok _ h6 r 0 0 (ho r (List.mem_of_mem_take hr)) (by omega) (by omega) c hc
theorem tbF_ok : AutOk tbF := pack_ok dF_ok (by decide) (by unfold okI; decide) (by decide) fun r _ => by
  have := (cubR_len dF.tracks.length r 0 0).1
  have e : 2 ^ dF.tracks.length = 2 := rfl
  omega
theorem tbT_ok : AutOk tbT := pack_ok dT_ok (by decide) (by unfold okI; decide) (by decide) fun r _ => by
  have := (cubR_len dT.tracks.length r 0 0).1
  have e : 2 ^ dT.tracks.length = 2 := rfl
  omega

end Tab

/- Lists of numbers as slices. -/
namespace Tab
open Go
set_option maxRecDepth 10000
set_option linter.unusedVariables false
set_option linter.unusedSimpArgs false
set_option linter.unusedSectionVars false

def iW (w : List Nat) : List AV := (w.map fun n : Nat => (n : Int)).map (.int .i64)
theorem iW_snoc (w : List Nat) (a : Nat) : iW (w ++ [a]) = iW w ++ [.int .i64 (a : Int)] := by simp [iW]
theorem iW_length (w : List Nat) : (iW w).length = w.length := by simp [iW]
theorem iW_rn (f w) : rns f (iW w) = iW w := ints_rn f .i64 _
theorem iW_bel (n w) : bels n (iW w) := by rw [iW, bels_map]; intro x _; simp [AV.bel]
theorem iW_closed (w : List Nat) : closeds (iW w) := aIs_closed .any (w.map fun n : Nat => (n : Int))
theorem iW_set (M : List Nat) (q v : Nat) : (iW M).set q (.int .i64 (v : Nat)) = iW (M.set q v) := by
  simp [iW, List.map_set]

end Tab
