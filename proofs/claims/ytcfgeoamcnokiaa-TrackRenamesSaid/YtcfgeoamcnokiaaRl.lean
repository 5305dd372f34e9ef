/- Layer 15: the law TrackRenames. -/
import Derived.Test.YtcfgeoamcnokiaaRq
import Derived.Test.YtcfgeoamcnokiaaCp
namespace Tab
open Go Go.Proofs
set_option maxRecDepth 10000
set_option linter.unusedVariables false
set_option linter.unusedSimpArgs false
set_option linter.unusedSectionVars false

theorem copyD_renE (d : Den) (fm tt) : renE (copyD d) fm tt = renE d fm tt := by
  rw [renE, renE, copyD_right]; rfl
theorem copyD_renR (d : Den) (fm tt) : renR (copyD d) fm tt = renR d fm tt := by
  rw [renR, renR, copyD_renE, renD, renD, copyD_rows]; rfl
theorem renR_den {d : Den} {fm tt : List (List UInt8)} (hd : DenOk d) (hts : ∀ s ∈ tt, s.length ≤ 140737488351232) : DenOk (renR d fm tt) := by
  rw [renR]
  split
  · rename_i h
    have h0 : rightS d = true := by
      cases e : rightS d with
      | true => rfl
      | false => rw [ren_shape (.inl e)] at h; omega
    have hk := tracksS_le (rightS_parts h0).1
    have hcl : (calS d.tracks fm tt).length = d.tracks.length := calN_length ..
    have hsl : (sortR (calS d.tracks fm tt)).length ≤ 6 := by
      rw [sortR]
      split
      · have := tog_len (calS d.tracks fm tt); omega
      · simp
    refine ⟨by show (sortR _).length * 16 ≤ _; omega, fun s hs => ?_, hd.accept, ?_, ?_⟩
    · have hs : s ∈ sortR (calS d.tracks fm tt) := hs
      rw [sortR] at hs
      split at hs
      · exact calS_mem 0 hd.names hts _ s ((tog_mem _ _).1 hs)
      · simp at hs
    · have := hd.next
      simpa [renD, Den.rows] using this
    · intro r hr
      simp only [renD, List.mem_map] at hr
      obtain ⟨r, ⟨x, _, rfl⟩, rfl⟩ := hr
      simp only [ovRow_length]
      have : 2 ^ (sortR (calS d.tracks fm tt)).length ≤ 2 ^ 6 := Nat.pow_le_pow_right (by omega) hsl
      omega
  · exact den0_ok

theorem law_TrackRenames (kf kt : SK) (d : Den) (fm tt : List (List UInt8)) (hd : DenOk d) (hf : fm.length * 16 ≤ 140737488351232) (ht : tt.length * 16 ≤ 140737488351232) (hts : ∀ s ∈ tt, s.length ≤ 140737488351232) :
    Pure Try.prog 3 [aDen d, aSs kf fm, aSs kt tt] (.bool true) := by
  have hcp := r12_CopyDense d hd
  have hsd := r12_SameDense (copyD d) d (copyD_ok hd) hd
  rw [copyD_same] at hsd
  have hrn := track_Rename .any .any .any (copyD d) fm tt (copyD_ok hd) hf ht hts
  rw [copyD_renE, copyD_renR] at hrn
  have hrr := r15_Rename .any kf kt d fm tt hd hf ht hts
  have hokR := renR_den (fm := fm) hd hts
  have hww := r12_SameDense (renR d fm tt) (renR d fm tt) hokR hokR
  rw [sameD_refl] at hww
  have hs1 := law15_same .any kf fm fm (by omega) (by omega)
  rw [decide_eq_true rfl] at hs1
  have hs2 := law15_same .any kt tt tt (by omega) (by omega)
  rw [decide_eq_true rfl] at hs2
  generalize copyD d = e at *
  generalize renR d fm tt = w at *
  generalize renE d fm tt = why at *
  refine Pure.of_sw 62 Try.func3 rfl Try.ntmps3 (by kernel_rfl) (Nat.le_of_ble_eq_true (by kernel_rfl)) (by simp [closeds, AV.closed, aSs_closed, aIs_closed, aBs_closed, aRs_closed, aDen_closed]) (by simp [AV.closed, closeds, aSs_closed, aIs_closed, aBs_closed, aRs_closed, aDen_closed]) ?_; refine SW.of_vc ?_
  repeat first | refine opsStep ?_ | refine codeStep ?_ | refine drawStep ?_
  refine callP hcp ?_
  repeat first | refine opsStep ?_ | refine codeStep ?_ | refine drawStep ?_
  refine guardE_of (by simp [Value.cells]) ?_
  refine guardE_of ⟨by omega, by show (0 + fm.length) * 16 ≤ 140737488355328; omega⟩ ?_
  repeat first | refine opsStep ?_ | refine codeStep ?_ | refine drawStep ?_
  refine guardE_of (by simp [Value.cells]) ?_
  refine guardE_of ⟨by omega, by show (0 + tt.length) * 16 ≤ 140737488355328; omega⟩ ?_
  repeat first | refine opsStep ?_ | refine codeStep ?_ | refine drawStep ?_
  refine callZ2 1 2 (g := 1) (cs := fm.map .str) (g' := 1) (cs' := tt.map .str) (by kernel_rfl) (by kernel_rfl) hrn ?_ ?_
  · show FzN [.cells 0 d.cells, .fro 1 (fm.map .str), .fro 1 (tt.map .str), .cells 0 e.cells] [aDen e, .hs 1 1 0 (0 + fm.length) 1, .hs 2 1 0 (0 + tt.length) 1] [aDen e, aSs .any fm, aSs .any tt]
    rw [Nat.zero_add, Nat.zero_add]
    exact .same (.hs (b := 1) (g := 1) rfl (by simp) (.hs (b := 2) (g := 1) rfl (by simp) .nil))
  iterate 7 refine opsStep ?_
  refine VCode.ent (Ent.fr' (l := [(1, aSs kf fm), (2, aSs kt tt), (3, .ref 0 0 0), (7, .ref 3 0 0), (8, .hs 1 1 0 (0 + fm.length) 1), (9, .hs 2 1 0 (0 + tt.length) 1), (10, .ref 4 0 0), (11, .int .i64 why)]) (H' := [.cells 0 d.cells, .fro 1 (fm.map .str), .fro 1 (tt.map .str), .cells 0 e.cells, .cells 0 w.cells]) ⟨(by kernel_rfl), (by kernel_rfl), (by kernel_rfl), (by kernel_rfl), (by kernel_rfl), (by kernel_rfl), (by kernel_rfl), (by kernel_rfl), trivial⟩ (by kernel_rfl)) ?_
  repeat first | refine opsStep ?_ | refine codeStep ?_ | refine drawStep ?_
  refine callP hrr ?_
  iterate 7 refine opsStep ?_
  refine VCode.ent (Ent.fr' (l := [(1, aSs kf fm), (2, aSs kt tt), (3, .ref 0 0 0), (7, .ref 3 0 0), (8, .hs 1 1 0 (0 + fm.length) 1), (9, .hs 2 1 0 (0 + tt.length) 1), (10, .ref 4 0 0), (11, .int .i64 why), (12, .ref 5 0 0), (13, .int .i64 why)]) (H' := [.cells 0 d.cells, .fro 1 (fm.map .str), .fro 1 (tt.map .str), .cells 0 e.cells, .cells 0 w.cells, .cells 0 w.cells]) ⟨(by kernel_rfl), (by kernel_rfl), (by kernel_rfl), (by kernel_rfl), (by kernel_rfl), (by kernel_rfl), (by kernel_rfl), (by kernel_rfl), (by kernel_rfl), (by kernel_rfl), trivial⟩ (by kernel_rfl)) ?_
  repeat first | refine opsStep ?_ | refine codeStep ?_ | refine drawStep ?_
  refine callP law15_fixed ?_
  repeat first | refine opsStep ?_ | refine codeStep ?_ | refine drawStep ?_
  refine decB_split (fun h => ?_) (fun h => ?_)
  · repeat first | refine opsStep ?_ | refine codeStep ?_ | refine drawStep ?_
    refine callP hww ?_
    repeat first | refine opsStep ?_ | refine codeStep ?_ | refine drawStep ?_
    refine callP hsd ?_
    repeat first | refine opsStep ?_ | refine codeStep ?_ | refine drawStep ?_
    refine callB hs1 rfl (.cons ?_ (.cons (.refl _) .nil)) ?_
    · show Rd [.cells 0 d.cells, .fro 1 (fm.map .str), .fro 1 (tt.map .str), .cells 0 e.cells, .cells 0 w.cells, .cells 0 w.cells] (.hs 1 1 0 (0 + fm.length) 1) _
      rw [Nat.zero_add]
      exact Rd.frozen (cs := fm.map .str) rfl (by simp)
    repeat first | refine opsStep ?_ | refine codeStep ?_ | refine drawStep ?_
    refine callB hs2 rfl (.cons ?_ (.cons (.refl _) .nil)) ?_
    · show Rd [.cells 0 d.cells, .fro 1 (fm.map .str), .fro 1 (tt.map .str), .cells 0 e.cells, .cells 0 w.cells, .cells 0 w.cells] (.hs 2 1 0 (0 + tt.length) 1) _
      rw [Nat.zero_add]
      exact Rd.frozen (cs := tt.map .str) rfl (by simp)
    repeat first | refine opsStep ?_ | refine codeStep ?_ | refine drawStep ?_
    exact finB (b' := true) (by kernel_rfl) rfl
  · exact (of_decide_eq_false h rfl).elim

end Tab
