/- Layer 15: the law TrackRenames. -/
import Derived.Test.YthdpblbclgpnjaaRq
import Derived.Test.YthdpblbclgpnjaaCp
namespace Tab
open Go Go.Proofs
set_option maxRecDepth 10000
set_option linter.unusedVariables false
set_option linter.unusedSimpArgs false
set_option linter.unusedSectionVars false

theorem copyD_renE (d : Den) (fm tt) : renE (copyD d) fm tt = renE d fm tt := by
  rw [renE, renE, copyD_right]; rfl
theorem copyD_renR (d : Den) (fm tt) : renR (copyD d) fm tt = renR d fm tt := by
  rw [renR, renR, copyD_renE, renD, renD, copyD_rows]; rfl
theorem renR_den {d : Den} {fm tt : List (List UInt8)} (hd : DenOk d) (hts : ∀ s ∈ tt, s.length ≤ 140737488351232) : DenOk (renR d fm tt) := by
  rw [renR]
  split
  · rename_i h
    have h0 : rightS d = true := by
      cases e : rightS d with
      | true => rfl
      | false => rw [ren_shape (.inl e)] at h; omega
    have hk := tracksS_le (rightS_parts h0).1
    have hcl : (calS d.tracks fm tt).length = d.tracks.length := calN_length ..
    have hsl : (sortR (calS d.tracks fm tt)).length ≤ 6 := by
      rw [sortR]
      split
      · have := tog_len (calS d.tracks fm tt); omega
      · simp
    refine ⟨by show (sortR _).length * 16 ≤ _; omega, fun s hs => ?_, hd.accept, ?_, ?_⟩
    · have hs : s ∈ sortR (calS d.tracks fm tt) := hs
      rw [sortR] at hs
      split at hs
      · exact calS_mem 0 hd.names hts _ s ((tog_mem _ _).1 hs)
      · simp at hs
    · have := hd.next
      simpa [renD, Den.rows] using this
    · intro r hr
      simp only [renD, List.mem_map] at hr
      obtain ⟨r, ⟨x, _, rfl⟩, rfl⟩ := hr
      simp only [ovRow_length]
      have : 2 ^ (sortR (calS d.tracks fm tt)).length ≤ 2 ^ 6 := Nat.pow_le_pow_right (by omega) hsl
      omega
  · exact den0_ok

end Tab
