/- Machines compared, copied. -/
import Derived.Test.YthdpblbclgpnjaaRt
namespace Tab
open Go Go.Proofs
set_option maxRecDepth 10000
set_option linter.unusedVariables false
set_option linter.unusedSimpArgs false
set_option linter.unusedSectionVars false

def Den.rows (d : Den) : List (List Int) := d.next.map (·.2)
@[irreducible] def sameD (d e : Den) : Bool := decide (d.tracks = e.tracks) && decide (d.accept = e.accept) && decide (d.rows = e.rows)
theorem sameD_eq (d e : Den) : sameD d e = (decide (d.tracks = e.tracks) && decide (d.accept = e.accept) && decide (d.rows = e.rows)) := by unfold sameD; rfl

theorem r12_SameDense (d e : Den) (hd : DenOk d) (he : DenOk e) : Pure Try.prog 10 [aDen d, aDen e] (.bool (sameD d e)) := by
  have d1 := hd.tracks
  have d2 := hd.accept
  have d3 := hd.next
  have e1 := he.tracks
  have e2 := he.accept
  have e3 := he.next
  refine Pure.of_sw 48 Try.func10 rfl Try.ntmps10 (by kernel_rfl) (Nat.le_of_ble_eq_true (by kernel_rfl)) (by simp [closeds, AV.closed, aSs_closed, aIs_closed, aBs_closed, aRs_closed, aDen_closed]) (by simp [AV.closed, closeds, aSs_closed, aIs_closed, aBs_closed, aRs_closed, aDen_closed]) ?_; refine SW.of_vc ?_
  repeat first | refine opsStep ?_ | refine codeStep ?_ | refine drawStep ?_
  refine callP (r12_texts d.tk e.tk d.tracks e.tracks (by omega) (by omega)) ?_
  repeat first | refine opsStep ?_ | refine codeStep ?_ | refine drawStep ?_
  refine decB_split (fun h => ?_) (fun h => ?_)
  · repeat first | refine opsStep ?_ | refine codeStep ?_ | refine drawStep ?_
    exact finB (b' := false) (by kernel_rfl) (by
      have : decide (d.tracks = e.tracks) = false := by simpa using h
      rw [sameD_eq, this]; simp)
  · have ht : decide (d.tracks = e.tracks) = true := by simpa using h
    repeat first | refine opsStep ?_ | refine codeStep ?_ | refine drawStep ?_
    refine callP (r12_flags d.ak e.ak d.accept e.accept (by omega) (by omega)) ?_
    repeat first | refine opsStep ?_ | refine codeStep ?_ | refine drawStep ?_
    refine decB_split (fun h => ?_) (fun h => ?_)
    · repeat first | refine opsStep ?_ | refine codeStep ?_ | refine drawStep ?_
      exact finB (b' := false) (by kernel_rfl) (by
        have : decide (d.accept = e.accept) = false := by simpa using h
        rw [sameD_eq, this]; simp)
    · have ha : decide (d.accept = e.accept) = true := by simpa using h
      repeat first | refine opsStep ?_ | refine codeStep ?_ | refine drawStep ?_
      refine decB_dec (fun hn => ?_) (fun hn => ?_)
      · repeat first | refine opsStep ?_ | refine codeStep ?_ | refine drawStep ?_
        exact finB (b' := false) (by kernel_rfl) (by
          rw [sameD_eq, decide_eq_false (show ¬ d.rows = e.rows from fun k => hn (by have := congrArg List.length k; simp [Den.rows] at this; omega))]; simp)
      · have hn' : d.next.length = e.next.length := by have := hn; omega
        repeat first | refine opsStep ?_ | refine codeStep ?_ | refine drawStep ?_
        refine loopE_of (ι := {i : Nat // i ≤ d.next.length ∧ d.rows.take i = e.rows.take i})
          (fun i => (fr [(2, .ref 0 0 0), (3, .ref 1 0 0), (5, .int .i64 i.1)], [.cells 0 d.cells, .cells 0 e.cells])) (fun i => d.next.length - i.1) ⟨0, by omega, by simp⟩ (Ent.fr' ⟨(by kernel_rfl), (by kernel_rfl), (by kernel_rfl), trivial⟩ (by kernel_rfl)) ?_
        rintro ⟨i, hi, hpre⟩
        repeat first | refine opsStep ?_ | refine codeStep ?_ | refine drawStep ?_
        refine decB_dec (fun h => ?_) (fun h => ?_)
        · have hia : i < d.next.length := by have := h; simp at this; omega
          have hib : i < e.next.length := by omega
          have hra := hd.rows _ (List.getElem_mem hia)
          have hrb := he.rows _ (List.getElem_mem hib)
          have ga : d.rows[i]'(by simpa [Den.rows] using hia) = (d.next[i]).2 := by simp [Den.rows]
          have gb : e.rows[i]'(by simpa [Den.rows] using hib) = (e.next[i]).2 := by simp [Den.rows]
          repeat first | refine opsStep ?_ | refine codeStep ?_ | refine drawStep ?_
          refine SW.drawn rfl (by kernel_rfl) ?_
          repeat first | refine opsStep ?_ | refine codeStep ?_ | refine drawStep ?_
          refine guardE_of (by simp; omega) ?_
          repeat first | refine opsStep ?_ | refine codeStep ?_ | refine drawStep ?_
          refine optE_of (c := aIs (d.next[i]).1 (d.next[i]).2) (by simp [Value.cells, hia]) ?_
          repeat first | refine opsStep ?_ | refine codeStep ?_ | refine drawStep ?_
          refine guardE_of (by simp; omega) ?_
          repeat first | refine opsStep ?_ | refine codeStep ?_ | refine drawStep ?_
          refine optE_of (c := aIs (e.next[i]).1 (e.next[i]).2) (by simp [Value.cells, hib]) ?_
          repeat first | refine opsStep ?_ | refine codeStep ?_ | refine drawStep ?_
          refine .inl ⟨_, _, [], (r12_ints (d.next[i]).1 (e.next[i]).1 (d.next[i]).2 (e.next[i]).2 (by omega) (by omega)), RdsN_refl _, .inr rfl, none_need, ?_⟩
          repeat first | refine opsStep ?_ | refine codeStep ?_ | refine drawStep ?_
          refine ⟨by kernel_rfl, ?_⟩
          repeat first | refine opsStep ?_ | refine codeStep ?_ | refine drawStep ?_
          refine decB_split (fun h => ?_) (fun h => ?_)
          · repeat first | refine opsStep ?_ | refine codeStep ?_ | refine drawStep ?_
            exact finB (b' := false) (by kernel_rfl) (by
              have hne : ¬ (d.next[i]).2 = (e.next[i]).2 := by simpa using h
              rw [sameD_eq, decide_eq_false (show ¬ d.rows = e.rows from fun k => hne (by rw [← ga, ← gb]; simp only [k]))]; simp)
          · repeat first | refine opsStep ?_ | refine codeStep ?_ | refine drawStep ?_
            have heq : (d.next[i]).2 = (e.next[i]).2 := by simpa using h
            refine ⟨⟨i + 1, by omega, ?_⟩, (by show d.next.length - (i + 1) < d.next.length - i; omega), Ent.fr' ⟨(by kernel_rfl), (by kernel_rfl), inc_slot (i := i) (by omega), trivial⟩ (by kernel_rfl)⟩
            rw [List.take_succ_eq_append_getElem (by simpa [Den.rows] using hia), List.take_succ_eq_append_getElem (by simpa [Den.rows] using hib), hpre, ga, gb, heq]
        · repeat first | refine opsStep ?_ | refine codeStep ?_ | refine drawStep ?_
          have : i = d.next.length := by have := h; simp at this; omega
          exact finB (b' := true) (by kernel_rfl) (by
            have l1 : d.rows.length = d.next.length := by simp [Den.rows]
            have l2 : e.rows.length = d.next.length := by simp [Den.rows, hn']
            rw [List.take_of_length_le (by omega), List.take_of_length_le (by omega)] at hpre
            rw [sameD_eq, ht, ha, decide_eq_true hpre]; simp)

end Tab
