/- A machine's run over a word. -/
import Derived.Test.YthdpblbclgpnjaaEn
import Derived.Test.YthdpblbclgpnjaaRl
namespace Tab
open Go Go.Proofs
set_option maxRecDepth 10000
set_option linter.unusedVariables false
set_option linter.unusedSimpArgs false
set_option linter.unusedSectionVars false

def stepN (rows : List (List Int)) (q a : Nat) : Nat := ((rows.getD q []).getD a 0).toNat
def runN (rows : List (List Int)) (q : Nat) (w : List Nat) : Nat := w.foldl (stepN rows) q

theorem stepN_ok {d : Den} (hr : rightS d = true) {q a : Nat} (hq : q < d.accept.length) (ha : a < 2 ^ d.tracks.length) :
    ∃ (h1 : q < d.next.length) (h2 : a < (d.next[q]).2.length), (d.next[q]).2[a] = (stepN d.rows q a : Int) ∧ stepN d.rows q a < d.accept.length := by
  obtain ⟨_, hn, hrows⟩ := rightS_parts hr
  have h1 : q < d.next.length := by omega
  obtain ⟨l1, l2⟩ := rowOk_parts (hrows _ (List.getElem_mem h1))
  have h2 : a < (d.next[q]).2.length := by rw [l1]; exact ha
  have h3 := l2 _ (List.getElem_mem h2)
  have e : stepN d.rows q a = ((d.next[q]).2[a]).toNat := by
    simp [stepN, Den.rows, List.getD_eq_getElem?_getD, h1, h2]
  refine ⟨h1, h2, ?_, ?_⟩
  · rw [e]; omega
  · rw [e]; omega
theorem runN_ok {d : Den} (hr : rightS d = true) : ∀ (w : List Nat) {q : Nat}, q < d.accept.length → (∀ a ∈ w, a < 2 ^ d.tracks.length) → runN d.rows q w < d.accept.length
  | [], _, hq, _ => hq
  | a :: w, q, hq, h => by
    obtain ⟨_, _, _, h3⟩ := stepN_ok hr hq (h a (by simp))
    exact runN_ok hr w h3 fun x hx => h x (by simp [hx])

theorem r12_Run (k : SK) (d : Den) (hd : DenOk d) (hr : rightS d = true) (q : Nat) (hq : q < d.accept.length) (w : List Nat) (hwl : w.length < 2^60) (hw : ∀ a ∈ w, a < 2 ^ d.tracks.length) :
    Pure Try.prog 33 [aDen d, .int .i64 q, aIs k (w.map fun a : Nat => (a : Int))] (.int .i64 (runN d.rows q w : Nat)) := by
  have h3 := hd.next
  refine Pure.of_sw 26 Try.func33 rfl Try.ntmps33 (by kernel_rfl) (Nat.le_of_ble_eq_true (by kernel_rfl)) (by simp [closeds, AV.closed, aSs_closed, aIs_closed, aBs_closed, aRs_closed, aDen_closed]) (by simp [AV.closed, closeds, aSs_closed, aIs_closed, aBs_closed, aRs_closed, aDen_closed]) ?_; refine SW.of_vc ?_
  repeat first | refine opsStep ?_ | refine codeStep ?_ | refine drawStep ?_
  refine loopE_of (ι := {i : Nat // i ≤ w.length})
    (fun i => (fr [(1, .int .i64 (runN d.rows q (w.take i.1) : Nat)), (2, aIs k (w.map fun a : Nat => (a : Int))), (3, .ref 0 0 0), (7, .int .i64 i.1)], [.cells 0 d.cells]))
    (fun i => w.length - i.1) ⟨0, by omega⟩ (Ent.fr' ⟨(by kernel_rfl), (by kernel_rfl), (by kernel_rfl), (by kernel_rfl), trivial⟩ (by kernel_rfl)) ?_
  rintro ⟨i, hi⟩
  repeat first | refine opsStep ?_ | refine codeStep ?_ | refine drawStep ?_
  refine decB_dec (fun h => ?_) (fun h => ?_)
  · have hia : i < w.length := by have := h; simp at this; omega
    have hqi := runN_ok hr (w.take i) hq fun a ha => hw a (List.mem_of_mem_take ha)
    have hai := hw _ (List.getElem_mem hia)
    obtain ⟨g1, g2, g3, g4⟩ := stepN_ok hr hqi hai
    have hnx : runN d.rows q (w.take (i + 1)) = stepN d.rows (runN d.rows q (w.take i)) w[i] := by
      rw [List.take_succ_eq_append_getElem hia, runN, List.foldl_append]; rfl
    have hrow := hd.rows _ (List.getElem_mem g1)
    refine VCode.ent (Ent.fr' (l := [(1, .int .i64 (runN d.rows q (w.take i) : Nat)), (2, aIs k (w.map fun a : Nat => (a : Int))), (3, .ref 0 0 0), (7, .int .i64 i)]) (H' := [.cells 0 d.cells]) ⟨(by kernel_rfl), (by kernel_rfl), (by kernel_rfl), (by kernel_rfl), trivial⟩ (by kernel_rfl)) ?_
    generalize runN d.rows q (w.take i) = qi at *
    repeat first | refine opsStep ?_ | refine codeStep ?_ | refine drawStep ?_
    refine SW.drawn rfl (by kernel_rfl) ?_
    repeat first | refine opsStep ?_ | refine codeStep ?_ | refine drawStep ?_
    refine guardE_of (by simp; omega) ?_
    repeat first | refine opsStep ?_ | refine codeStep ?_ | refine drawStep ?_
    refine optE_of (c := aIs (d.next[qi]).1 (d.next[qi]).2) (by simp [Value.cells, g1]) ?_
    repeat first | refine opsStep ?_ | refine codeStep ?_ | refine drawStep ?_
    refine guardE_of (by simp; omega) ?_
    repeat first | refine opsStep ?_ | refine codeStep ?_ | refine drawStep ?_
    refine optE_of (c := .int .i64 (w[i] : Nat)) (by simp [Value.cells, hia]) ?_
    repeat first | refine opsStep ?_ | refine codeStep ?_ | refine drawStep ?_
    refine guardE_of (by simp; omega) ?_
    repeat first | refine opsStep ?_ | refine codeStep ?_ | refine drawStep ?_
    refine optE_of (c := .int .i64 (stepN d.rows qi w[i] : Nat)) (by simp [Value.cells, g2, g3]) ?_
    repeat first | refine opsStep ?_ | refine codeStep ?_ | refine drawStep ?_
    refine ⟨by kernel_rfl, ?_⟩
    repeat first | refine opsStep ?_ | refine codeStep ?_ | refine drawStep ?_
    refine ⟨⟨i + 1, by omega⟩, (by show w.length - (i + 1) < w.length - i; omega), Ent.fr' ⟨?_, (by kernel_rfl), (by kernel_rfl), inc_slot (i := i) (by omega), trivial⟩ (by kernel_rfl)⟩
    show AV.int .i64 (stepN d.rows qi w[i] : Nat) = AV.int .i64 (runN d.rows q (w.take (i + 1)) : Nat)
    rw [hnx]
  · repeat first | refine opsStep ?_ | refine codeStep ?_ | refine drawStep ?_
    have : i = w.length := by have := h; simp at this; omega
    subst this
    have hf : w.take w.length = w := List.take_length
    exact finV (v' := .int .i64 (runN d.rows q (w.take w.length) : Nat)) (by kernel_rfl) (by rw [hf])

def takesB (d : Den) (w : List Nat) : Bool := d.accept.getD (runN d.rows 0 w) false
theorem right_pos {d : Den} (hr : rightS d = true) : 0 < d.accept.length := by
  obtain ⟨h, _, _⟩ := rightS_parts hr
  simp only [tracksS, Bool.and_eq_true, decide_eq_true_eq] at h
  omega
theorem r12_Takes (k : SK) (d : Den) (hd : DenOk d) (hr : rightS d = true) (w : List Nat) (hwl : w.length < 2^60) (hw : ∀ a ∈ w, a < 2 ^ d.tracks.length) :
    Pure Try.prog 13 [aDen d, aIs k (w.map fun a : Nat => (a : Int))] (.bool (takesB d w)) := by
  have h2 := hd.accept
  have hp := right_pos hr
  have hrun := r12_Run k d hd hr 0 hp w hwl hw
  have hok := runN_ok hr w hp hw
  have ht : d.accept[runN d.rows 0 w]? = some (takesB d w) := by simp [takesB, List.getD_eq_getElem?_getD, hok]
  generalize takesB d w = b at *
  generalize runN d.rows 0 w = r at *
  refine Pure.of_sw 12 Try.func13 rfl Try.ntmps13 (by kernel_rfl) (Nat.le_of_ble_eq_true (by kernel_rfl)) (by simp [closeds, AV.closed, aSs_closed, aIs_closed, aBs_closed, aRs_closed, aDen_closed]) (by simp [AV.closed, closeds, aSs_closed, aIs_closed, aBs_closed, aRs_closed, aDen_closed]) ?_; refine SW.of_vc ?_
  repeat first | refine opsStep ?_ | refine codeStep ?_ | refine drawStep ?_
  refine SW.drawn rfl (by kernel_rfl) ?_
  repeat first | refine opsStep ?_ | refine codeStep ?_ | refine drawStep ?_
  refine .inl ⟨_, _, [], hrun, RdsN_refl _, .inr rfl, none_need, ?_⟩
  repeat first | refine opsStep ?_ | refine codeStep ?_ | refine drawStep ?_
  refine guardE_of (by simp; omega) ?_
  repeat first | refine opsStep ?_ | refine codeStep ?_ | refine drawStep ?_
  refine optE_of (c := .bool b) (by simp [Value.cells, ht]) ?_
  repeat first | refine opsStep ?_ | refine codeStep ?_ | refine drawStep ?_
  refine ⟨by kernel_rfl, ?_⟩
  repeat first | refine opsStep ?_ | refine codeStep ?_ | refine drawStep ?_
  exact finB (b' := b) (by kernel_rfl) rfl

theorem word_Shortest (k : SK) (l : List Int) (hl : l.length ≤ 6) (hv : ∀ v ∈ l, -(2^63) ≤ v ∧ v < 2^63) : Pure Try.prog 12 [aIs k l] (.tup [aIs .any (encW l (longS 1 l)), .int .i64 0]) := by
  have h1 := word_Longest k l (by omega) hv
  have h2 := word_Encode k l hl hv
  generalize longS 1 l = n at *
  refine Pure.of_sw 10 Try.func12 rfl Try.ntmps12 (by kernel_rfl) (Nat.le_of_ble_eq_true (by kernel_rfl)) (by simp [closeds, AV.closed, aSs_closed, aIs_closed, aBs_closed, aRs_closed, aDen_closed]) (by simp [AV.closed, closeds, aSs_closed, aIs_closed, aBs_closed, aRs_closed, aDen_closed]) ?_; refine SW.of_vc ?_
  repeat first | refine opsStep ?_ | refine codeStep ?_ | refine drawStep ?_
  refine callP h1 ?_
  repeat first | refine opsStep ?_ | refine codeStep ?_ | refine drawStep ?_
  refine callP h2 ?_
  repeat first | refine opsStep ?_ | refine codeStep ?_ | refine drawStep ?_
  exact finV (v' := .tup [aIs .any (encW l n), .int .i64 0]) (by kernel_rfl) rfl

end Tab
