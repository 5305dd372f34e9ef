/- Machines: which are right, copies, comparing. -/
import Derived.Test.YthdpblbclgpnjaaCl
namespace Tab
open Go Go.Proofs
set_option maxRecDepth 10000
set_option linter.unusedVariables false
set_option linter.unusedSimpArgs false
set_option linter.unusedSectionVars false

structure DenOk (d : Den) : Prop where
  tracks : d.tracks.length * 16 ≤ 140737488351232
  names : ∀ s ∈ d.tracks, s.length ≤ 140737488351232
  accept : d.accept.length ≤ 140737488351232
  next : d.next.length * 24 ≤ 140737488351232
  rows : ∀ r ∈ d.next, r.2.length * 8 ≤ 140737488351232

def rowOk (k n : Nat) (r : List Int) : Bool := decide (r.length = 2 ^ k) && r.all fun x => decide (0 ≤ x) && decide (x < n)
def rightS (d : Den) : Bool := tracksS d.tracks d.accept.length && decide (d.next.length = d.accept.length) && d.next.all fun r => rowOk d.tracks.length d.accept.length r.2

theorem minL_lt : ∀ (l : List Int) (a : Int), minL a l < 0 ↔ ∃ x ∈ a :: l, x < 0
  | [], a => by simp [minL]
  | y :: l, a => by
    rw [minL, minL_lt l]
    simp only [List.mem_cons, exists_eq_or_imp]
    split
    · rename_i h
      constructor
      · rintro (h | h)
        · exact .inr (.inl h)
        · exact .inr (.inr h)
      · rintro (h' | h' | h')
        · exact .inl (by omega)
        · exact .inl h'
        · exact .inr h'
    · rename_i h
      constructor
      · rintro (h | h)
        · exact .inl h
        · exact .inr (.inr h)
      · rintro (h' | h' | h')
        · exact .inl h'
        · exact .inl (by omega)
        · exact .inr h'
theorem maxL_ge (n : Int) : ∀ (l : List Int) (a : Int), n ≤ maxL a l ↔ ∃ x ∈ a :: l, n ≤ x
  | [], a => by simp [maxL]
  | y :: l, a => by
    rw [maxL, maxL_ge n l]
    simp only [List.mem_cons, exists_eq_or_imp]
    split
    · rename_i h
      constructor
      · rintro (h | h)
        · exact .inr (.inl h)
        · exact .inr (.inr h)
      · rintro (h' | h' | h')
        · exact .inl (by omega)
        · exact .inl h'
        · exact .inr h'
    · rename_i h
      constructor
      · rintro (h | h)
        · exact .inl h
        · exact .inr (.inr h)
      · rintro (h' | h' | h')
        · exact .inl h'
        · exact .inl (by omega)
        · exact .inr h'

theorem rightS_bad {d : Den} {i : Nat} (hi : i < d.next.length) (h : rowOk d.tracks.length d.accept.length (d.next[i]).2 = false) : rightS d = false := by
  rw [rightS, ← Bool.not_eq_true, Bool.and_eq_true, List.all_eq_true]
  rintro ⟨_, k⟩
  have := k _ (List.getElem_mem hi)
  simp [h] at this

theorem tracksS_le {l : List (List UInt8)} {n : Int} (h : tracksS l n = true) : l.length ≤ 6 := by
  simp only [tracksS, Bool.and_eq_true, decide_eq_true_eq] at h
  exact h.1.1.1

theorem shl_one {k : Nat} (hk : k ≤ 60) : IntKind.wrap .i64 (1 * 2 ^ (min (k : Int).toNat (IntKind.bits .i64))) = ((2 ^ k : Nat) : Int) := by
  show IntKind.wrap .i64 (1 * 2 ^ (min (k : Int).toNat 64)) = ((2 ^ k : Nat) : Int)
  have : 2 ^ k ≤ 2 ^ 60 := Nat.pow_le_pow_right (by omega) hk
  rw [show min (k : Int).toNat 64 = k by simp; omega, show (1 : Int) * 2 ^ k = ((2 ^ k : Nat) : Int) by simp]
  generalize 2 ^ k = q at *
  exact IntWalk.i64_in _ (by omega)

@[irreducible] def rightE (d : Den) : Int := if rightS d = true then 0 else 3
theorem rightE_ok {d : Den} (h : rightS d = true) : rightE d = 0 := by rw [rightE, if_pos h]
theorem rightE_bad {d : Den} (h : rightS d = false) : rightE d = 3 := by rw [rightE, h]; rfl

theorem table_Right (d : Den) (hd : DenOk d) : Pure Try.prog 17 [aDen d] (.int .i64 (rightE d)) := by
  have h1 := hd.tracks
  have h2 := hd.accept
  have h3 := hd.next
  refine Pure.of_sw 47 Try.func17 rfl Try.ntmps17 (by kernel_rfl) (Nat.le_of_ble_eq_true (by kernel_rfl)) (by simp [closeds, AV.closed, aSs_closed, aIs_closed, aBs_closed, aRs_closed, aDen_closed]) (by simp [AV.closed, closeds, aSs_closed, aIs_closed, aBs_closed, aRs_closed, aDen_closed]) ?_; refine SW.of_vc ?_
  repeat first | refine opsStep ?_ | refine codeStep ?_ | refine drawStep ?_
  refine callP (table_tracks d.tk d.tracks d.accept.length (by omega) (fun s hs => by have := hd.names s hs; omega)) ?_
  repeat first | refine opsStep ?_ | refine codeStep ?_ | refine drawStep ?_
  refine decB_split (fun h => ?_) (fun h => ?_)
  · repeat first | refine opsStep ?_ | refine codeStep ?_ | refine drawStep ?_
    have ht : tracksS d.tracks d.accept.length = false := by simpa using h
    exact finV (v' := .int .i64 3) (by kernel_rfl) (by rw [rightE_bad (by rw [rightS, ht]; simp)])
  · repeat first | refine opsStep ?_ | refine codeStep ?_ | refine drawStep ?_
    have ht : tracksS d.tracks d.accept.length = true := by simpa using h
    have hk := tracksS_le ht
    have hpow : 2 ^ d.tracks.length ≤ 2 ^ 6 := Nat.pow_le_pow_right (by omega) hk
    refine decB_dec (fun hn => ?_) (fun hn => ?_)
    · repeat first | refine opsStep ?_ | refine codeStep ?_ | refine drawStep ?_
      exact finV (v' := .int .i64 3) (by kernel_rfl) (by rw [rightE_bad (by rw [rightS, decide_eq_false (show ¬ d.next.length = d.accept.length by have := hn; omega)]; simp)])
    · repeat first | refine opsStep ?_ | refine codeStep ?_ | refine drawStep ?_
      have hn' : d.next.length = d.accept.length := by have := hn; omega
      refine loopE_of (ι := {i : Nat // i ≤ d.next.length ∧ ∀ r ∈ d.next.take i, rowOk d.tracks.length d.accept.length r.2 = true})
        (fun i => (fr [(1, .ref 0 0 0), (3, .int .i64 d.accept.length), (22, aRs d.nk d.next), (23, .int .i64 d.next.length), (24, .int .i64 i.1)], [.cells 0 d.cells])) (fun i => d.next.length - i.1) ⟨0, by omega, by simp⟩ (Ent.fr' ⟨(by kernel_rfl), (by kernel_rfl), (by kernel_rfl), (by kernel_rfl), (by kernel_rfl), trivial⟩ (by kernel_rfl)) ?_
      rintro ⟨i, hi, hpre⟩
      repeat first | refine opsStep ?_ | refine codeStep ?_ | refine drawStep ?_
      refine decB_dec (fun h => ?_) (fun h => ?_)
      · have hia : i < d.next.length := by simpa using h
        have hbad : rowOk d.tracks.length d.accept.length (d.next[i]).2 = false → rightE d = 3 := fun e => rightE_bad (rightS_bad hia e)
        repeat first | refine opsStep ?_ | refine codeStep ?_ | refine drawStep ?_
        refine guardE_of (by simp; omega) ?_
        repeat first | refine opsStep ?_ | refine codeStep ?_ | refine drawStep ?_
        refine optE_of (c := aIs (d.next[i]).1 (d.next[i]).2) (by simp [Value.cells, hia]) ?_
        have hsh := shl_one (k := d.tracks.length) (by omega)
        repeat first | refine opsStep ?_ | refine codeStep ?_ | refine drawStep ?_
        refine decB_dec (fun hlen => ?_) (fun hlen => ?_)
        · repeat first | refine opsStep ?_ | refine codeStep ?_ | refine drawStep ?_
          exact finV (v' := .int .i64 3) (by kernel_rfl) (by
            rw [hbad (by rw [rowOk, decide_eq_false (fun e => hlen (by rw [hsh, ← e])), Bool.false_and])])
        · have hlen' : (d.next[i]).2.length = 2 ^ d.tracks.length := by
            have h5 := Decidable.of_not_not hlen
            rw [hsh] at h5
            exact Int.ofNat_inj.1 h5
          obtain ⟨a, l, hr⟩ : ∃ a l, (d.next[i]).2 = a :: l := by
            cases e : (d.next[i]).2 with
            | nil => rw [e] at hlen'; simp at hlen'; have := Nat.two_pow_pos d.tracks.length; omega
            | cons a l => exact ⟨a, l, rfl⟩
          have hll : l.length < 2 ^ 60 := by rw [hr] at hlen'; simp at hlen'; omega
          have hmin := slices_Min (d.next[i]).1 a l hll
          have hmax := slices_Max (d.next[i]).1 a l hll
          rw [← hr] at hmin hmax
          have hbad2 : ∀ x ∈ (d.next[i]).2, ¬ (0 ≤ x ∧ x < d.accept.length) → rowOk d.tracks.length d.accept.length (d.next[i]).2 = false := fun x hx hn => by
            rw [rowOk, ← Bool.not_eq_true, Bool.and_eq_true, List.all_eq_true]
            rintro ⟨_, k⟩
            have := k x hx
            simp at this
            exact hn this
          repeat first | refine opsStep ?_ | refine codeStep ?_ | refine drawStep ?_
          refine callP hmin ?_
          repeat first | refine opsStep ?_ | refine codeStep ?_ | refine drawStep ?_
          refine decB_dec (fun hmn => ?_) (fun hmn => ?_)
          · repeat first | refine opsStep ?_ | refine codeStep ?_ | refine drawStep ?_
            exact finV (v' := .int .i64 3) (by kernel_rfl) (by
              obtain ⟨x, hx, h0⟩ := (minL_lt l a).1 hmn
              rw [hbad (hbad2 x (by rw [hr]; exact hx) (by omega))])
          · repeat first | refine opsStep ?_ | refine codeStep ?_ | refine drawStep ?_
            refine callP hmax ?_
            repeat first | refine opsStep ?_ | refine codeStep ?_ | refine drawStep ?_
            refine decB_dec (fun hmx => ?_) (fun hmx => ?_)
            · repeat first | refine opsStep ?_ | refine codeStep ?_ | refine drawStep ?_
              exact finV (v' := .int .i64 3) (by kernel_rfl) (by
                obtain ⟨x, hx, h0⟩ := (maxL_ge _ l a).1 hmx
                rw [hbad (hbad2 x (by rw [hr]; exact hx) (by omega))])
            · repeat first | refine opsStep ?_ | refine codeStep ?_ | refine drawStep ?_
              have hok : rowOk d.tracks.length d.accept.length (d.next[i]).2 = true := by
                rw [rowOk, decide_eq_true hlen', Bool.true_and, List.all_eq_true]
                intro x hx
                rw [hr] at hx
                have c1 : ¬ x < 0 := fun k => hmn ((minL_lt l a).2 ⟨x, hx, k⟩)
                have c2 : ¬ (d.accept.length : Int) ≤ x := fun k => hmx ((maxL_ge _ l a).2 ⟨x, hx, k⟩)
                simp
                omega
              refine ⟨⟨i + 1, by omega, ?_⟩, (by show d.next.length - (i + 1) < d.next.length - i; omega), Ent.fr' ⟨(by kernel_rfl), (by kernel_rfl), (by kernel_rfl), (by kernel_rfl), inc_slot (i := i) (by omega), trivial⟩ (by kernel_rfl)⟩
              rw [List.take_succ_eq_append_getElem hia]
              intro r hr'
              rcases List.mem_append.1 hr' with hr' | hr'
              · exact hpre r hr'
              · rw [List.mem_singleton.1 hr']; exact hok
      · repeat first | refine opsStep ?_ | refine codeStep ?_ | refine drawStep ?_
        have : i = d.next.length := by simp at h; omega
        exact finV (v' := .int .i64 0) (by kernel_rfl) (by
          subst this
          rw [List.take_length] at hpre
          rw [rightE_ok (by rw [rightS, ht, decide_eq_true hn', List.all_eq_true.2 hpre]; simp)])

theorem r12_Right (d : Den) (hd : DenOk d) : Pure Try.prog 6 [aDen d] (.bool (rightS d)) := by
  have h1 := hd.tracks
  have h2 := hd.accept
  have h3 := hd.next
  refine Pure.of_sw 68 Try.func6 rfl Try.ntmps6 (by kernel_rfl) (Nat.le_of_ble_eq_true (by kernel_rfl)) (by simp [closeds, AV.closed, aSs_closed, aIs_closed, aBs_closed, aRs_closed, aDen_closed]) (by simp [AV.closed, closeds, aSs_closed, aIs_closed, aBs_closed, aRs_closed, aDen_closed]) ?_; refine SW.of_vc ?_
  repeat first | refine opsStep ?_ | refine codeStep ?_ | refine drawStep ?_
  refine callP (r12_Frame d.tk d.tracks d.accept.length (by omega) (fun s hs => by have := hd.names s hs; omega)) ?_
  repeat first | refine opsStep ?_ | refine codeStep ?_ | refine drawStep ?_
  refine decB_split (fun h => ?_) (fun h => ?_)
  · repeat first | refine opsStep ?_ | refine codeStep ?_ | refine drawStep ?_
    have ht : tracksS d.tracks d.accept.length = false := by simpa using h
    exact finB (b' := false) (by kernel_rfl) (by rw [rightS, ht]; simp)
  · repeat first | refine opsStep ?_ | refine codeStep ?_ | refine drawStep ?_
    have ht : tracksS d.tracks d.accept.length = true := by simpa using h
    have hk := tracksS_le ht
    have hpow : 2 ^ d.tracks.length ≤ 2 ^ 6 := Nat.pow_le_pow_right (by omega) hk
    refine decB_dec (fun hn => ?_) (fun hn => ?_)
    · repeat first | refine opsStep ?_ | refine codeStep ?_ | refine drawStep ?_
      exact finB (b' := false) (by kernel_rfl) (by rw [rightS, decide_eq_false (show ¬ d.next.length = d.accept.length by have := hn; omega)]; simp)
    · repeat first | refine opsStep ?_ | refine codeStep ?_ | refine drawStep ?_
      have hn' : d.next.length = d.accept.length := by have := hn; omega
      refine loopE_of (ι := {i : Nat // i ≤ d.next.length ∧ ∀ r ∈ d.next.take i, rowOk d.tracks.length d.accept.length r.2 = true})
        (fun i => (fr [(1, .ref 0 0 0), (3, .int .i64 d.accept.length), (4, .int .i64 i.1)], [.cells 0 d.cells])) (fun i => d.next.length - i.1) ⟨0, by omega, by simp⟩ (Ent.fr' ⟨(by kernel_rfl), (by kernel_rfl), (by kernel_rfl), trivial⟩ (by kernel_rfl)) ?_
      rintro ⟨i, hi, hpre⟩
      repeat first | refine opsStep ?_ | refine codeStep ?_ | refine drawStep ?_
      refine decB_dec (fun h => ?_) (fun h => ?_)
      · have hia : i < d.next.length := by have := h; simp at this; omega
        have hrow := hd.rows _ (List.getElem_mem hia)
        have hlet : lettersS d.tracks.length = ((2 ^ d.tracks.length : Nat) : Int) := by rw [lettersS_small (by omega)]; simp
        have hbad : rowOk d.tracks.length d.accept.length (d.next[i]).2 = false → rightS d = false := fun e => rightS_bad hia e
        have hbad2 : ∀ x ∈ (d.next[i]).2, ¬ (0 ≤ x ∧ x < d.accept.length) → rowOk d.tracks.length d.accept.length (d.next[i]).2 = false := fun x hx hn => by
          rw [rowOk, ← Bool.not_eq_true, Bool.and_eq_true, List.all_eq_true]
          rintro ⟨_, k⟩
          have := k x hx
          simp at this
          exact hn this
        repeat first | refine opsStep ?_ | refine codeStep ?_ | refine drawStep ?_
        refine SW.drawn rfl (by kernel_rfl) ?_
        repeat first | refine opsStep ?_ | refine codeStep ?_ | refine drawStep ?_
        refine guardE_of (by simp; omega) ?_
        repeat first | refine opsStep ?_ | refine codeStep ?_ | refine drawStep ?_
        refine optE_of (c := aIs (d.next[i]).1 (d.next[i]).2) (by simp [Value.cells, hia]) ?_
        repeat first | refine opsStep ?_ | refine codeStep ?_ | refine drawStep ?_
        refine .inl ⟨_, _, [], (r12_Letters d.tracks.length (by omega)), RdsN_refl _, .inr rfl, none_need, ?_⟩
        repeat first | refine opsStep ?_ | refine codeStep ?_ | refine drawStep ?_
        refine ⟨by kernel_rfl, ?_⟩
        repeat first | refine opsStep ?_ | refine codeStep ?_ | refine drawStep ?_
        refine decB_dec (fun hlen => ?_) (fun hlen => ?_)
        · repeat first | refine opsStep ?_ | refine codeStep ?_ | refine drawStep ?_
          exact finB (b' := false) (by kernel_rfl) (by rw [hbad (by rw [rowOk, decide_eq_false (fun e => hlen (by rw [hlet, ← e])), Bool.false_and])])
        · have hlen' : (d.next[i]).2.length = 2 ^ d.tracks.length := by
            have h5 := Decidable.of_not_not hlen
            rw [hlet] at h5
            exact Int.ofNat_inj.1 h5
          repeat first | refine opsStep ?_ | refine codeStep ?_ | refine drawStep ?_
          refine loopE_of (ι := {a : Nat // a ≤ (d.next[i]).2.length ∧ ∀ x ∈ (d.next[i]).2.take a, 0 ≤ x ∧ x < (d.accept.length : Int)})
            (fun a => (fr [(1, .ref 0 0 0), (3, .int .i64 d.accept.length), (4, .int .i64 i), (5, .int .i64 a.1)], [.cells 0 d.cells])) (fun a => (d.next[i]).2.length - a.1) ⟨0, by omega, by simp⟩ (Ent.fr' ⟨(by kernel_rfl), (by kernel_rfl), (by kernel_rfl), (by kernel_rfl), trivial⟩ (by kernel_rfl)) ?_
          rintro ⟨a, ha, hpa⟩
          repeat first | refine opsStep ?_ | refine codeStep ?_ | refine drawStep ?_
          refine guardE_of (by simp; omega) ?_
          repeat first | refine opsStep ?_ | refine codeStep ?_ | refine drawStep ?_
          refine optE_of (c := aIs (d.next[i]).1 (d.next[i]).2) (by simp [Value.cells, hia]) ?_
          repeat first | refine opsStep ?_ | refine codeStep ?_ | refine drawStep ?_
          refine decB_dec (fun hal => ?_) (fun hal => ?_)
          · have hal' : a < (d.next[i]).2.length := by have := hal; simp at this; omega
            repeat first | refine opsStep ?_ | refine codeStep ?_ | refine drawStep ?_
            refine guardE_of (by simp; omega) ?_
            repeat first | refine opsStep ?_ | refine codeStep ?_ | refine drawStep ?_
            refine optE_of (c := aIs (d.next[i]).1 (d.next[i]).2) (by simp [Value.cells, hia]) ?_
            repeat first | refine opsStep ?_ | refine codeStep ?_ | refine drawStep ?_
            refine guardE_of (by simp; omega) ?_
            repeat first | refine opsStep ?_ | refine codeStep ?_ | refine drawStep ?_
            refine optE_of (c := .int .i64 (d.next[i]).2[a]) (by simp [Value.cells, hal']) ?_
            repeat first | refine opsStep ?_ | refine codeStep ?_ | refine drawStep ?_
            refine decB_dec (fun hx0 => ?_) (fun hx0 => ?_)
            · repeat first | refine opsStep ?_ | refine codeStep ?_ | refine drawStep ?_
              exact finB (b' := false) (by kernel_rfl) (by rw [hbad (hbad2 _ (List.getElem_mem hal') (by omega))])
            · repeat first | refine opsStep ?_ | refine codeStep ?_ | refine drawStep ?_
              refine guardE_of (by simp; omega) ?_
              repeat first | refine opsStep ?_ | refine codeStep ?_ | refine drawStep ?_
              refine optE_of (c := aIs (d.next[i]).1 (d.next[i]).2) (by simp [Value.cells, hia]) ?_
              repeat first | refine opsStep ?_ | refine codeStep ?_ | refine drawStep ?_
              refine guardE_of (by simp; omega) ?_
              repeat first | refine opsStep ?_ | refine codeStep ?_ | refine drawStep ?_
              refine optE_of (c := .int .i64 (d.next[i]).2[a]) (by simp [Value.cells, hal']) ?_
              repeat first | refine opsStep ?_ | refine codeStep ?_ | refine drawStep ?_
              refine decB_dec (fun hx1 => ?_) (fun hx1 => ?_)
              · repeat first | refine opsStep ?_ | refine codeStep ?_ | refine drawStep ?_
                exact finB (b' := false) (by kernel_rfl) (by rw [hbad (hbad2 _ (List.getElem_mem hal') (by omega))])
              · repeat first | refine opsStep ?_ | refine codeStep ?_ | refine drawStep ?_
                refine ⟨⟨a + 1, by omega, ?_⟩, (by show (d.next[i]).2.length - (a + 1) < (d.next[i]).2.length - a; omega), Ent.fr' ⟨(by kernel_rfl), (by kernel_rfl), (by kernel_rfl), inc_slot (i := a) (by omega), trivial⟩ (by kernel_rfl)⟩
                rw [List.take_succ_eq_append_getElem hal']
                intro x hx
                rcases List.mem_append.1 hx with hx | hx
                · exact hpa x hx
                · rw [List.mem_singleton.1 hx]; omega
          · repeat first | refine opsStep ?_ | refine codeStep ?_ | refine drawStep ?_
            have : a = (d.next[i]).2.length := by have := hal; simp at this; omega
            refine ⟨⟨i + 1, by omega, ?_⟩, (by show d.next.length - (i + 1) < d.next.length - i; omega), Ent.fr' ⟨(by kernel_rfl), (by kernel_rfl), inc_slot (i := i) (by omega), trivial⟩ (by kernel_rfl)⟩
            rw [List.take_succ_eq_append_getElem hia]
            intro r hr'
            rcases List.mem_append.1 hr' with hr' | hr'
            · exact hpre r hr'
            · rw [List.mem_singleton.1 hr', rowOk, decide_eq_true hlen', Bool.true_and, List.all_eq_true]
              intro x hx
              rw [this, List.take_length] at hpa
              have := hpa x hx
              simp
              omega
      · repeat first | refine opsStep ?_ | refine codeStep ?_ | refine drawStep ?_
        have : i = d.next.length := by have := h; simp at this; omega
        exact finB (b' := true) (by kernel_rfl) (by
          subst this
          rw [List.take_length] at hpre
          rw [rightS, ht, decide_eq_true hn', List.all_eq_true.2 hpre]; simp)

end Tab
