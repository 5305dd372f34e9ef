/- Lemmas for this claim: part 14. No condition. -/
import Derived.Test.YtgadapklmphliaaZ9
import Derived.Test.YtgadapklmphliaaZ10
import Derived.Test.YtgadapklmphliaaZ11
import Derived.Test.YtgadapklmphliaaZ12
import Derived.Test.YtgadapklmphliaaZ13
/- Layer 15: words over fewer tracks; the law TrackMeans. -/
namespace Tab
open Go Go.Proofs
set_option maxRecDepth 10000
set_option linter.unusedVariables false
set_option linter.unusedSimpArgs false
set_option linter.unusedSectionVars false

def wordB (k : Nat) (v : List Int) : Bool := v.all fun x => decide (0 ≤ x) && decide (x < ((2 ^ k : Nat) : Int))
theorem wordB_iff {k v} : wordB k v = true ↔ ∀ x ∈ v, 0 ≤ x ∧ x < ((2 ^ k : Nat) : Int) := by simp [wordB]
theorem wordB_nat {k : Nat} {v : List Int} (h : wordB k v = true) : ∃ w : List Nat, v = w.map (fun a : Nat => (a : Int)) ∧ Lets k w := by
  have h := wordB_iff.1 h
  refine ⟨v.map Int.toNat, ?_, fun a ha => ?_⟩
  · rw [List.map_map]
    refine (List.map_id' v).symm.trans (List.map_congr_left fun x hx => ?_)
    have := h x hx
    simp only [Function.comp_apply]; omega
  · obtain ⟨x, hx, rfl⟩ := List.mem_map.1 ha
    have := h x hx
    omega
theorem wordB_bad {k : Nat} {v : List Int} {i : Nat} (hi : i < v.length) (h : v[i] < 0 ∨ ((2 ^ k : Nat) : Int) ≤ v[i]) : wordB k v = false := by
  rw [← Bool.not_eq_true]
  intro k
  have := wordB_iff.1 k _ (List.getElem_mem hi)
  omega

theorem r12_Word (kv : SK) (v : List Int) (k : Nat) (hv : v.length < 2^60) (hk : k ≤ 60) : Pure Try.prog 28 [aIs kv v, .int .i64 k] (.bool (wordB k v)) := by
  have hL := r12_Letters k (by omega)
  have hlet : lettersS k = ((2 ^ k : Nat) : Int) := by rw [lettersS_small (by omega)]; simp
  rw [hlet] at hL
  have hb := fun i (hi : i < v.length) => wordB_bad (k := k) hi
  have hok : (∀ x ∈ v, 0 ≤ x ∧ x < ((2 ^ k : Nat) : Int)) → wordB k v = true := wordB_iff.2
  generalize 2 ^ k = K at *
  generalize wordB k v = wb at *
  refine Pure.of_sw 26 Try.func28 rfl Try.ntmps28 (by kernel_rfl) (Nat.le_of_ble_eq_true (by kernel_rfl)) (by simp [closeds, AV.closed, aSs_closed, aIs_closed, aBs_closed, aRs_closed, aDen_closed]) (by simp [AV.closed, closeds, aSs_closed, aIs_closed, aBs_closed, aRs_closed, aDen_closed]) ?_; refine SW.of_vc ?_
  repeat first | refine opsStep ?_ | refine codeStep ?_ | refine drawStep ?_
  refine loopE_of (ι := {i : Nat // i ≤ v.length ∧ ∀ x ∈ v.take i, 0 ≤ x ∧ x < (K : Int)}) (fun i => (fr [(0, aIs kv v), (1, .int .i64 k), (5, .int .i64 i.1)], [])) (fun i => v.length - i.1) ⟨0, by omega, by simp⟩ (Ent.fr' ⟨(by kernel_rfl), (by kernel_rfl), (by kernel_rfl), trivial⟩ (by kernel_rfl)) ?_
  rintro ⟨i, hi, hpre⟩
  repeat first | refine opsStep ?_ | refine codeStep ?_ | refine drawStep ?_
  refine decB_dec (fun h => ?_) (fun h => ?_)
  · have hia : i < v.length := by have := h; simp at this; omega
    repeat first | refine opsStep ?_ | refine codeStep ?_ | refine drawStep ?_
    refine SW.drawn rfl (by kernel_rfl) ?_
    repeat first | refine opsStep ?_ | refine codeStep ?_ | refine drawStep ?_
    refine guardE_of (by simp; omega) ?_
    repeat first | refine opsStep ?_ | refine codeStep ?_ | refine drawStep ?_
    refine optE_of (c := .int .i64 v[i]) (by simp [Value.cells, hia]) ?_
    repeat first | refine opsStep ?_ | refine codeStep ?_ | refine drawStep ?_
    refine decB_dec (fun h1 => ?_) (fun h1 => ?_)
    · repeat first | refine opsStep ?_ | refine codeStep ?_ | refine drawStep ?_
      refine ⟨by kernel_rfl, ?_⟩
      repeat first | refine opsStep ?_ | refine codeStep ?_ | refine drawStep ?_
      exact finB (b' := false) (by kernel_rfl) (hb i hia (.inl h1)).symm
    · repeat first | refine opsStep ?_ | refine codeStep ?_ | refine drawStep ?_
      refine guardE_of (by simp; omega) ?_
      repeat first | refine opsStep ?_ | refine codeStep ?_ | refine drawStep ?_
      refine optE_of (c := .int .i64 v[i]) (by simp [Value.cells, hia]) ?_
      repeat first | refine opsStep ?_ | refine codeStep ?_ | refine drawStep ?_
      refine .inl ⟨_, _, [], hL, RdsN_refl _, .inr rfl, none_need, ?_⟩
      repeat first | refine opsStep ?_ | refine codeStep ?_ | refine drawStep ?_
      refine ⟨by kernel_rfl, ?_⟩
      repeat first | refine opsStep ?_ | refine codeStep ?_ | refine drawStep ?_
      refine decB_dec (fun h2 => ?_) (fun h2 => ?_)
      · repeat first | refine opsStep ?_ | refine codeStep ?_ | refine drawStep ?_
        exact finB (b' := false) (by kernel_rfl) (hb i hia (.inr h2)).symm
      · repeat first | refine opsStep ?_ | refine codeStep ?_ | refine drawStep ?_
        refine ⟨⟨i + 1, by omega, ?_⟩, (by show v.length - (i + 1) < v.length - i; omega), Ent.fr' ⟨(by kernel_rfl), (by kernel_rfl), inc_slot (i := i) (by omega), trivial⟩ (by kernel_rfl)⟩
        rw [List.take_succ_eq_append_getElem hia]
        intro x hx
        rcases List.mem_append.1 hx with hx | hx
        · exact hpre x hx
        · rw [List.mem_singleton.1 hx]; omega
  · have hia : i = v.length := by have := h; simp at this; omega
    repeat first | refine opsStep ?_ | refine codeStep ?_ | refine drawStep ?_
    refine finB (b' := true) (by kernel_rfl) (hok ?_).symm
    rw [hia, List.take_length] at hpre
    exact hpre

theorem or_bit (x a p t : Nat) (hx : x < 2 ^ t) (ha : a < 2 ^ 62) (hp : p ≤ 60) (ht : t ≤ 60) :
    IntKind.wrap .i64 ((BitVec.ofInt 64 (x : Int) ||| BitVec.ofInt 64 (IntKind.wrap .i64 (IntKind.wrap .i64 ((BitVec.ofInt 64 ((a : Int).fdiv (2 ^ (min (IntKind.wrap .u64 (p : Int)).toNat 64))) &&& BitVec.ofInt 64 1).toNat) * 2 ^ (min (IntKind.wrap .u64 (t : Int)).toNat 64)))).toNat) = ((x + a / 2 ^ p % 2 * 2 ^ t : Nat) : Int) := by
  have u : ∀ y : Nat, y ≤ 60 → IntKind.wrap .u64 (y : Int) = (y : Int) := fun y hy => by
    simp only [IntKind.wrap, IntKind.signed, IntKind.bits]
    simp; omega
  have e1 : (a : Int).fdiv (2 ^ (min (p : Int).toNat 64)) = ((a / 2 ^ p : Nat) : Int) := by
    rw [show min (p : Int).toNat 64 = p by simp; omega, show (2 : Int) ^ p = ((2 ^ p : Nat) : Int) by simp]
    rw [Int.fdiv_eq_ediv_of_nonneg _ (Int.natCast_nonneg _)]
    rfl
  rw [u p hp, u t ht, e1, and_one _ (Nat.lt_of_le_of_lt (Nat.div_le_self _ _) (by omega))]
  exact or_shift x (a / 2 ^ p % 2) t hx (by omega) ht

theorem places_snoc {called names : List (List UInt8)} {t : Nat} (h : t < called.length) : placesOf (called.take (t + 1)) names = placesOf (called.take t) names ++ [names.idxOf called[t]] := by
  rw [List.take_succ_eq_append_getElem h, placesOf, List.map_append]; rfl
theorem map_snoc {α β : Type} (f : α → β) {l : List α} {i : Nat} (h : i < l.length) : (l.take (i + 1)).map f = (l.take i).map f ++ [f l[i]] := by
  rw [List.take_succ_eq_append_getElem h, List.map_append]; rfl

theorem wid_step {d : Den} (hr : rightS d = true) {n : Nat} {P : List Nat} (hP : P.length = d.tracks.length) {q a : Nat} (hq : q < d.accept.length) (ha : a < 2 ^ n) :
    stepN (d.rows.map (ovRow n P)) q a = stepN d.rows q (gatN a P) := by
  have hl := rows_length hr
  have hq' : q < d.rows.length := by omega
  simp [stepN, List.getD_eq_getElem?_getD, hq', ovRow, ha]
theorem wid_run {d : Den} (hr : rightS d = true) {n : Nat} {P : List Nat} (hP : P.length = d.tracks.length) : ∀ (w : List Nat) {q : Nat}, q < d.accept.length → Lets n w →
    runN (d.rows.map (ovRow n P)) q w = runN d.rows q (w.map fun a => gatN a P)
  | [], q, _, _ => rfl
  | a :: w, q, hq, hw => by
    have hg := gatN_lt a P
    rw [hP] at hg
    obtain ⟨_, _, _, h4⟩ := stepN_ok hr hq hg
    show runN _ (stepN _ q a) w = runN _ (stepN _ q (gatN a P)) _
    rw [wid_step hr hP hq (hw a (by simp))]
    exact wid_run hr hP w h4 fun b hb => hw b (by simp [hb])

theorem gat_onto {n : Nat} {P : List Nat} (hn : P.Nodup) (hp : ∀ p ∈ P, p < n) {b : Nat} (hb : b < 2 ^ P.length) : ∃ a, a < 2 ^ n ∧ gatN a P = b := by
  refine ⟨gatN b ((List.range n).map fun j => P.idxOf j), by have := gatN_lt b ((List.range n).map fun j => P.idxOf j); simpa using this, ?_⟩
  rw [gat_comp b _ P fun p h => by simpa using hp p h]
  have e : P.map (fun p => ((List.range n).map fun j => P.idxOf j).getD p 0) = List.range P.length := by
    refine List.ext_getElem (by simp) fun i h1 h2 => ?_
    have hi : i < P.length := by simpa using h2
    have hpi := hp _ (List.getElem_mem hi)
    have hix : P.idxOf P[i] = i := by
      have hm := List.idxOf_lt_length_of_mem (List.getElem_mem hi)
      have e := List.getElem_idxOf hm
      rcases Nat.lt_trichotomy (P.idxOf P[i]) i with h1 | h1 | h1
      · exact absurd e (List.pairwise_iff_getElem.1 hn _ _ hm hi h1)
      · exact h1
      · exact absurd e.symm (List.pairwise_iff_getElem.1 hn _ _ hi hm h1)
    simp [List.getD_eq_getElem?_getD, hpi, hix]
  rw [e, gat_range hb]
theorem gat_onto_word {n : Nat} {P : List Nat} (hn : P.Nodup) (hp : ∀ p ∈ P, p < n) : ∀ (u : List Nat), Lets P.length u → ∃ v, Lets n v ∧ v.map (fun a => gatN a P) = u
  | [], _ => ⟨[], fun a ha => absurd ha (by simp), rfl⟩
  | b :: u, h => by
    obtain ⟨a, ha, e⟩ := gat_onto (n := n) hn hp (h b (by simp))
    obtain ⟨v, hv, e'⟩ := gat_onto_word hn hp u fun x hx => h x (by simp [hx])
    exact ⟨a :: v, fun x hx => by
      rcases List.mem_cons.1 hx with rfl | hx
      · exact ha
      · exact hv x hx, by rw [List.map_cons, e, e']⟩

theorem lets_gat {n : Nat} {P : List Nat} (v : List Nat) : Lets P.length (v.map fun a => gatN a P) := fun b hb => by
  obtain ⟨a, _, rfl⟩ := List.mem_map.1 hb
  exact gatN_lt a P
theorem lets_append {k : Nat} {u v : List Nat} (hu : Lets k u) (hv : Lets k v) : Lets k (u ++ v) := fun a ha => by
  rcases List.mem_append.1 ha with ha | ha
  · exact hu a ha
  · exact hv a ha

structure WidOk (d : Den) (names : List (List UInt8)) : Prop where
  right : rightS d = true
  names6 : names.length ≤ 6
  len : (placesOf d.tracks names).length = d.tracks.length
  nodup : (placesOf d.tracks names).Nodup
  lt : ∀ p ∈ placesOf d.tracks names, p < names.length
  wright : rightS (widenR d names) = true
  tracks : (widenR d names).tracks = names
  mem : ∀ s ∈ d.tracks, s ∈ names
theorem wid_ok {d : Den} {names : List (List UInt8)} (h : widenE d names = 0) : WidOk d names := by
  obtain ⟨hr, h2, h3, h4⟩ := widenE_of_ok h
  obtain ⟨k2, k3, _, _⟩ := tracksS_parts (rightS_parts hr).1
  have hin := inAll_iff.1 h4
  have hnd := strict_nodup (rises_strict k3)
  refine ⟨hr, h3, by simp [placesOf], ?_, ?_, ?_, by rw [widenR_ok h]; rfl, hin⟩
  · refine List.pairwise_iff_getElem.2 fun i j hi hj hij e => ?_
    have hi' : i < d.tracks.length := by simpa [placesOf] using hi
    have hj' : j < d.tracks.length := by simpa [placesOf] using hj
    simp only [placesOf, List.getElem_map] at e
    have := idx_inj' (hin _ (List.getElem_mem hi')) (hin _ (List.getElem_mem hj')) e
    exact List.pairwise_iff_getElem.1 hnd i j hi' hj' hij this
  · intro p hp
    obtain ⟨s, hs, rfl⟩ := List.mem_map.1 hp
    exact List.idxOf_lt_length_of_mem (hin s hs)
  · rw [widenR_ok h, widenD_ov]
    exact ovD_right hr h3 h2 (by simp [placesOf])

theorem wid_lang {d : Den} {names : List (List UInt8)} (h : widenE d names = 0) {v : List Nat} (hv : Lets names.length v) : lang (widenR d names) v = lang d (v.map fun a => gatN a (placesOf d.tracks names)) := by
  have ok := wid_ok h
  have hl := lets_gat (n := names.length) (P := placesOf d.tracks names) v
  rw [ok.len] at hl
  rw [lang, langR_let (by rw [ok.tracks]; exact hv), lang, langR_let hl, widenR_ok h]
  have e : (widenD d names).rows = d.rows.map (ovRow names.length (placesOf d.tracks names)) := by simp [widenD, Den.rows, Function.comp_def]
  rw [e, wid_run ok.right ok.len v (right_pos ok.right) hv]
  rfl
theorem wid_sound {d : Den} {names : List (List UInt8)} (h : widenE d names = 0) : soundD (widenR d names) = soundD d := by
  have ok := wid_ok h
  have hiff : SoundL names.length (lang (widenR d names)) ↔ SoundL d.tracks.length (lang d) := by
    have one : ∀ {a}, a < 2 ^ names.length → Lets names.length [a] := fun {a} ha x hx => by simp at hx; omega
    have two : ∀ {a}, a < 2 ^ names.length → Lets names.length [a, a] := fun {a} ha x hx => by simp at hx; omega
    constructor
    · rintro ⟨h1, h2⟩
      refine ⟨by rw [wid_lang h (fun a ha => absurd ha (by simp))] at h1; exact h1, fun u b hu hb => ?_⟩
      rw [← ok.len] at hu hb
      obtain ⟨a, ha, ea⟩ := gat_onto (n := names.length) ok.nodup ok.lt hb
      obtain ⟨v, hv, ev⟩ := gat_onto_word (n := names.length) ok.nodup ok.lt u hu
      have := h2 v a hv ha
      rw [wid_lang h (lets_append hv (one ha)), wid_lang h (lets_append hv (two ha)), List.map_append, List.map_append, ev] at this
      simpa [ea] using this
    · rintro ⟨h1, h2⟩
      refine ⟨by rw [wid_lang h (fun a ha => absurd ha (by simp))]; exact h1, fun v a hv ha => ?_⟩
      rw [wid_lang h (lets_append hv (one ha)), wid_lang h (lets_append hv (two ha)), List.map_append, List.map_append]
      have hl := lets_gat (n := names.length) (P := placesOf d.tracks names) v
      rw [ok.len] at hl
      have hg := gatN_lt a (placesOf d.tracks names)
      rw [ok.len] at hg
      exact h2 _ _ hl hg
  have e1 := soundD_iff ok.wright
  rw [ok.tracks, hiff, ← soundD_iff ok.right] at e1
  cases h1 : soundD (widenR d names) <;> cases h2 : soundD d <;> simp_all

end Tab

/- tabardref16.grow. -/
namespace Tab
open Go Go.Proofs
set_option maxRecDepth 10000
set_option linter.unusedVariables false
set_option linter.unusedSimpArgs false
set_option linter.unusedSectionVars false

/-! ### What the product is, as a value -/

def holdsS (op : Int) (a b : Bool) : Bool := if op = 3 then a && b else if op = 4 then a || b else if op = 5 then !a || b else if op = 6 then a == b else !a
def prdM (cn : Bool → Bool → Bool) (names : List (List UInt8)) (d e : Den) (L : List Pr) : Den := ⟨.any, names, .any, L.map (accP cn d e), .any, L.map fun p => (.any, rowX (pf d e) L p)⟩
@[irreducible] def prdV (cn : Bool → Bool → Bool) (names : List (List UInt8)) (d e : Den) : Den := match prdR d e with | some L => prdM cn names d e L | none => den0
@[irreducible] def prdE (d e : Den) : Int := match prdR d e with | some _ => 0 | none => 140
theorem prd_some {cn names d e L} (h : prdR d e = some L) : prdV cn names d e = prdM cn names d e L ∧ prdE d e = 0 := by
  unfold prdV prdE; rw [h]; exact ⟨rfl, rfl⟩
theorem prd_none {cn names d e} (h : prdR d e = none) : prdV cn names d e = den0 ∧ prdE d e = 140 := by
  unfold prdV prdE; rw [h]; exact ⟨rfl, rfl⟩

def gN (n : Nat) (p : Pr) : Nat := if p = stP then 0 else (p.1 * n + p.2 + 1).toNat
theorem gN_st (n) : gN n stP = 0 := if_pos rfl
theorem gN_ok {d e : Den} {p : Pr} (h : okS d e p) : (gN e.accept.length p : Int) = p.1 * e.accept.length + p.2 + 1 ∧ gN e.accept.length p < d.accept.length * e.accept.length + 1 := by
  obtain ⟨h1, h2, h3, h4⟩ := h
  have hne : p ≠ stP := fun e => by rw [e] at h1; simp at h1
  have hm : 0 ≤ p.1 * (e.accept.length : Int) := Int.mul_nonneg h1 (by omega)
  have e1 : (gN e.accept.length p : Int) = p.1 * e.accept.length + p.2 + 1 := by rw [gN, if_neg hne]; omega
  refine ⟨e1, ?_⟩
  have : (p.1 + 1) * (e.accept.length : Int) ≤ d.accept.length * e.accept.length := Int.mul_le_mul_of_nonneg_right (by omega) (by omega)
  rw [Int.add_mul, Int.one_mul] at this
  have e2 : ((d.accept.length * e.accept.length : Nat) : Int) = d.accept.length * e.accept.length := by simp
  omega
theorem gN_inj {d e : Den} {p q : Pr} (hp : p = stP ∨ okS d e p) (hq : q = stP ∨ okS d e q) (h : gN e.accept.length p = gN e.accept.length q) : p = q := by
  have pos : ∀ {x : Pr}, okS d e x → gN e.accept.length x ≠ 0 := fun {x} hx => by
    have := (gN_ok hx).1
    obtain ⟨h1, h2, h3, h4⟩ := hx
    have hm : 0 ≤ x.1 * (e.accept.length : Int) := Int.mul_nonneg h1 (by omega)
    omega
  rcases hp with rfl | hp
  · rcases hq with rfl | hq
    · rfl
    · rw [gN_st] at h; exact absurd h.symm (pos hq)
  · rcases hq with rfl | hq
    · rw [gN_st] at h; exact absurd h (pos hp)
    · have e1 := (gN_ok hp).1
      have e2 := (gN_ok hq).1
      obtain ⟨a1, a2, a3, a4⟩ := hp
      obtain ⟨b1, b2, b3, b4⟩ := hq
      have h0 : p.1 * (e.accept.length : Int) + p.2 = q.1 * e.accept.length + q.2 := by omega
      have q1 : (p.1 * (e.accept.length : Int) + p.2) / e.accept.length = p.1 := by
        rw [Int.add_comm, Int.add_mul_ediv_right _ _ (by omega), Int.ediv_eq_zero_of_lt a3 a4]; omega
      have q2 : (q.1 * (e.accept.length : Int) + q.2) / e.accept.length = q.1 := by
        rw [Int.add_comm, Int.add_mul_ediv_right _ _ (by omega), Int.ediv_eq_zero_of_lt b3 b4]; omega
      have e3 : p.1 = q.1 := by rw [← q1, ← q2, h0]
      refine Prod.ext e3 ?_
      rw [e3] at h0; omega

theorem gN_arith {d e : Den} {p : Pr} {n : Nat} (h : okS d e p) (hn : e.accept.length = n) (hd : d.accept.length ≤ 256) (he : n ≤ 256) :
    IntKind.wrap .i64 ((gN n p : Int) - 1) = p.1 * n + p.2 ∧ (n : Int) ≠ 0 ∧ (p.1 * (n : Int) + p.2).tdiv n = p.1 ∧ (p.1 * (n : Int) + p.2).tmod n = p.2 ∧ IntKind.wrap .i64 p.1 = p.1 ∧ 0 ≤ p.1 ∧ p.1 < d.accept.length ∧ 0 ≤ p.2 ∧ p.2 < n := by
  have q1 := (gN_ok h).1
  obtain ⟨a1, a2, a3, a4⟩ := h
  rw [hn] at a4 q1
  have hm0 : 0 ≤ p.1 * (n : Int) := Int.mul_nonneg a1 (by omega)
  have hm1 : p.1 * (n : Int) ≤ 256 * 256 := Int.mul_le_mul (by omega) (by omega) (by omega) (by omega)
  refine ⟨by rw [IntWalk.i64_in _ (by omega)]; omega, by omega, ?_, ?_, IntWalk.i64_in _ (by omega), a1, a2, a3, a4⟩
  · rw [Int.tdiv_eq_ediv_of_nonneg (by omega), Int.add_comm, Int.add_mul_ediv_right _ _ (by omega), Int.ediv_eq_zero_of_lt a3 a4]; omega
  · rw [Int.tmod_eq_emod_of_nonneg (by omega), Int.add_comm, Int.add_mul_emod_self_right, Int.emod_eq_of_lt a3 a4]
theorem gN_wrap {d e : Den} {c1 c2 n : Nat} (h1 : c1 < d.accept.length) (h2 : c2 < e.accept.length) (hn : e.accept.length = n) (hd : d.accept.length ≤ 256) (he : n ≤ 256) :
    IntKind.wrap .i64 (IntKind.wrap .i64 (IntKind.wrap .i64 ((c1 : Int) * n) + c2) + 1) = (gN n ((c1 : Int), (c2 : Int)) : Int) ∧ okS d e ((c1 : Int), (c2 : Int)) := by
  have hok : okS d e ((c1 : Int), (c2 : Int)) := ⟨by simp, by simpa using h1, by simp, by simpa using h2⟩
  have q1 := (gN_ok hok).1
  rw [hn] at q1
  simp only at q1
  have hm0 : 0 ≤ (c1 : Int) * (n : Int) := Int.mul_nonneg (by omega) (by omega)
  have hm1 : (c1 : Int) * (n : Int) ≤ 256 * 256 := Int.mul_le_mul (by omega) (by omega) (by omega) (by omega)
  refine ⟨?_, hok⟩
  rw [IntWalk.i64_in ((c1 : Int) * n) (by omega), IntWalk.i64_in ((c1 : Int) * n + c2) (by omega), IntWalk.i64_in _ (by omega), q1]
def numZ (n : Nat) (L : List Nat) : List Int := (List.range n).map fun j => if j ∈ L then (ixOf L j : Int) else 0
theorem numZ_length (n L) : (numZ n L).length = n := by simp [numZ]
theorem numZ_get {n L j} (h : j < n) : (numZ n L)[j]? = some (if j ∈ L then (ixOf L j : Int) else 0) := by simp [numZ, h]
theorem numZ_set {n : Nat} {L : List Nat} {x : Nat} (hx : x ∉ L) : (numZ n L).set x (L.length : Int) = numZ n (L ++ [x]) := by
  refine List.ext_getElem (by simp [numZ]) fun j h1 h2 => ?_
  simp only [numZ, ixOf, List.getElem_set, List.getElem_map, List.getElem_range, List.mem_append, List.mem_singleton, List.idxOf_append]
  by_cases e : x = j
  · subst e; simp [hx]
  · have e' : ¬ j = x := fun k => e k.symm
    rw [if_neg e]
    by_cases hj : j ∈ L
    · simp [hj]
    · simp [hj, e']
/-- The place of a pair's number is the pair's. -/
theorem nums_ix {d e : Den} {M : List Pr} {t : Pr} (hM : ∀ p ∈ M, p = stP ∨ okS d e p) (ht : t = stP ∨ okS d e t) : (gN e.accept.length t ∈ M.map (gN e.accept.length) ↔ t ∈ M) ∧ ixOf (M.map (gN e.accept.length)) (gN e.accept.length t) = ixOf M t := by
  constructor
  · constructor
    · intro h
      obtain ⟨y, hy, e1⟩ := List.mem_map.1 h
      exact gN_inj (hM y hy) ht e1 ▸ hy
    · exact fun h => List.mem_map.2 ⟨t, h, rfl⟩
  · exact idxOf_map (gN e.accept.length) fun y hy e1 => gN_inj (hM y hy) ht e1

end Tab

/- prod.Not. -/
namespace Tab
open Go Go.Proofs
set_option maxRecDepth 10000
set_option linter.unusedVariables false
set_option linter.unusedSimpArgs false
set_option linter.unusedSectionVars false

def notS (a _b : Bool) : Bool := !a
theorem pf_congr {d e d' e' : Den} (h1 : d'.rows = d.rows) (h2 : e'.rows = e.rows) (h3 : d'.tracks.length = d.tracks.length) : pf d' e' = pf d e := by
  funext p; rw [pf, pf, h1, h2, h3]
theorem prdR_congr {d e d' e' : Den} (h1 : d'.rows = d.rows) (h2 : e'.rows = e.rows) (h3 : d'.tracks.length = d.tracks.length) : prdR d' e' = prdR d e := by
  rw [prdR, prdR, pf_congr h1 h2 h3]
theorem widenD_rows (d names) : (widenD d names).rows = d.rows.map (ovRow names.length (placesOf d.tracks names)) := by
  simp [widenD, Den.rows, Function.comp_def]
theorem widenD_own {d : Den} (h : rightS d = true) : widenE d d.tracks = 0 ∧ (widenD d d.tracks).rows = d.rows ∧ rightS (widenD d d.tracks) = true := by
  obtain ⟨h1, h2⟩ := widen_self h
  have hr : (widenD d d.tracks).rows = d.rows := by
    have k3 := (widenE_of_ok h1).2.1
    rw [widenD_rows, places_self (strict_nodup (rises_strict k3)), rows_id h]
  refine ⟨h1, hr, ?_⟩
  obtain ⟨g1, g2, g3⟩ := rightS_parts h
  have g4 : ∀ r ∈ (widenD d d.tracks).next, rowOk d.tracks.length d.accept.length r.2 = true := fun r hr' => by
    have : r.2 ∈ (widenD d d.tracks).rows := List.mem_map.2 ⟨r, hr', rfl⟩
    rw [hr] at this
    obtain ⟨x, hx, e⟩ := List.mem_map.1 this
    rw [← e]; exact g3 x hx
  have g5 : (widenD d d.tracks).next.length = d.accept.length := by rw [← g2]; simp [widenD, Den.rows]
  simp only [rightS, Bool.and_eq_true, decide_eq_true_eq, List.all_eq_true]
  exact ⟨⟨g1, g5⟩, g4⟩

@[irreducible] def notE (d : Den) : Int := if rightS d = true then prdE d d else 3

end Tab

/- The union of two machines' names, and a machine widened to it. -/
namespace Tab
open Go Go.Proofs
set_option maxRecDepth 10000
set_option linter.unusedVariables false
set_option linter.unusedSimpArgs false
set_option linter.unusedSectionVars false

def unN (d e : Den) : List (List UInt8) := togS (d.tracks ++ e.tracks)
theorem unN_rises {d e : Den} (h1 : rightS d = true) (h2 : rightS e = true) : risesS (unN d e) = true := by
  obtain ⟨_, a2, _, _⟩ := tracksS_parts (rightS_parts h1).1
  obtain ⟨_, b2, _, _⟩ := tracksS_parts (rightS_parts h2).1
  refine strict_rises (tog_strict _) fun s hs => ?_
  rcases List.mem_append.1 ((tog_mem _ _).1 hs) with h | h
  · exact rises_names a2 s h
  · exact rises_names b2 s h
theorem unN_in {d e : Den} : inAll d.tracks (unN d e) = true ∧ inAll e.tracks (unN d e) = true :=
  ⟨inAll_iff.2 fun s hs => (tog_mem _ _).2 (List.mem_append_left _ hs), inAll_iff.2 fun s hs => (tog_mem _ _).2 (List.mem_append_right _ hs)⟩
theorem unN_len {d e : Den} (h1 : rightS d = true) (h2 : rightS e = true) : (unN d e).length ≤ 12 := by
  obtain ⟨a1, _, _, _⟩ := tracksS_parts (rightS_parts h1).1
  obtain ⟨b1, _, _, _⟩ := tracksS_parts (rightS_parts h2).1
  have := tog_len (d.tracks ++ e.tracks)
  rw [List.length_append] at this
  rw [unN]; omega
theorem unN_sizes {d e : Den} (hd : DenOk d) (he : DenOk e) : ∀ s ∈ unN d e, s.length ≤ 140737488351232 := fun s hs => by
  rcases List.mem_append.1 ((tog_mem _ _).1 hs) with h | h
  · exact hd.names s h
  · exact he.names s h
theorem widenD_right {d : Den} {names : List (List UInt8)} (h : rightS d = true) (h1 : names.length ≤ 6) (h2 : risesS names = true) : rightS (widenD d names) = true := by
  rw [widenD_ov]; exact ovD_right h h1 h2 (by simp [placesOf])
theorem widenD_den {d : Den} {names : List (List UInt8)} (hd : DenOk d) (hn : names.length * 16 ≤ 140737488351232) (hns : ∀ s ∈ names, s.length ≤ 140737488351232) (w0 : widenE d names = 0) : DenOk (widenD d names) := by
  have := widenR_ok_den (d := d) (names := names) hd hn hns
  rwa [widenR_ok w0] at this


end Tab

/- prod.Join. -/
namespace Tab
open Go Go.Proofs
set_option maxRecDepth 10000
set_option linter.unusedVariables false
set_option linter.unusedSimpArgs false
set_option linter.unusedSectionVars false

theorem prod_con1 (a b : Bool) : Pure Try.prog 147 [.bool a, .bool b] (.bool (holdsS 3 a b)) := by
  refine Pure.of_sw 9 Try.func147 rfl Try.ntmps147 (by kernel_rfl) (Nat.le_of_ble_eq_true (by kernel_rfl)) (by simp [closeds, AV.closed, aSs_closed, aIs_closed, aBs_closed, aRs_closed, aDen_closed]) (by simp [AV.closed, closeds, aSs_closed, aIs_closed, aBs_closed, aRs_closed, aDen_closed]) ?_; refine SW.of_vc ?_
  repeat first | refine opsStep ?_ | refine codeStep ?_ | refine drawStep ?_
  refine decB_split (fun h => ?_) (fun h => ?_)
  · subst h
    repeat first | refine opsStep ?_ | refine codeStep ?_ | refine drawStep ?_
    exact finV (v' := .bool b) (by kernel_rfl) (by simp [holdsS])
  · repeat first | refine opsStep ?_ | refine codeStep ?_ | refine drawStep ?_
    exact finV (v' := .bool false) (by kernel_rfl) (by simp [holdsS, h])
theorem prod_con2 (a b : Bool) : Pure Try.prog 148 [.bool a, .bool b] (.bool (holdsS 4 a b)) := by
  refine Pure.of_sw 9 Try.func148 rfl Try.ntmps148 (by kernel_rfl) (Nat.le_of_ble_eq_true (by kernel_rfl)) (by simp [closeds, AV.closed, aSs_closed, aIs_closed, aBs_closed, aRs_closed, aDen_closed]) (by simp [AV.closed, closeds, aSs_closed, aIs_closed, aBs_closed, aRs_closed, aDen_closed]) ?_; refine SW.of_vc ?_
  repeat first | refine opsStep ?_ | refine codeStep ?_ | refine drawStep ?_
  refine decB_split (fun h => ?_) (fun h => ?_)
  · repeat first | refine opsStep ?_ | refine codeStep ?_ | refine drawStep ?_
    exact finV (v' := .bool true) (by kernel_rfl) (by simp [holdsS, h])
  · repeat first | refine opsStep ?_ | refine codeStep ?_ | refine drawStep ?_
    exact finV (v' := .bool b) (by kernel_rfl) (by simp [holdsS, h])
theorem prod_con3 (a b : Bool) : Pure Try.prog 149 [.bool a, .bool b] (.bool (holdsS 5 a b)) := by
  refine Pure.of_sw 10 Try.func149 rfl Try.ntmps149 (by kernel_rfl) (Nat.le_of_ble_eq_true (by kernel_rfl)) (by simp [closeds, AV.closed, aSs_closed, aIs_closed, aBs_closed, aRs_closed, aDen_closed]) (by simp [AV.closed, closeds, aSs_closed, aIs_closed, aBs_closed, aRs_closed, aDen_closed]) ?_; refine SW.of_vc ?_
  repeat first | refine opsStep ?_ | refine codeStep ?_ | refine drawStep ?_
  refine decB_split (fun h => ?_) (fun h => ?_)
  · repeat first | refine opsStep ?_ | refine codeStep ?_ | refine drawStep ?_
    exact finV (v' := .bool true) (by kernel_rfl) (by simp [holdsS, h])
  · repeat first | refine opsStep ?_ | refine codeStep ?_ | refine drawStep ?_
    exact finV (v' := .bool b) (by kernel_rfl) (by simp [holdsS, h])
theorem prod_con4 (a b : Bool) : Pure Try.prog 150 [.bool a, .bool b] (.bool (holdsS 6 a b)) := by
  refine Pure.of_sw 8 Try.func150 rfl Try.ntmps150 (by kernel_rfl) (Nat.le_of_ble_eq_true (by kernel_rfl)) (by simp [closeds, AV.closed, aSs_closed, aIs_closed, aBs_closed, aRs_closed, aDen_closed]) (by simp [AV.closed, closeds, aSs_closed, aIs_closed, aBs_closed, aRs_closed, aDen_closed]) ?_; refine SW.of_vc ?_
  repeat first | refine opsStep ?_ | refine codeStep ?_ | refine drawStep ?_
  exact finV (v' := .bool (a == b)) (by kernel_rfl) rfl

def conF (op : Int) : Option FuncId := if op = 3 then some 147 else if op = 4 then some 148 else if op = 5 then some 149 else if op = 6 then some 150 else none
def conV (op : Int) : AV := match conF op with | some f => .fn (.func f) [] [] | none => .nilf
theorem conF_some {op : Int} (h : 3 ≤ op ∧ op ≤ 6) : ∃ f, conF op = some f ∧ ∀ a b, Pure Try.prog f [.bool a, .bool b] (.bool (holdsS op a b)) := by
  have : op = 3 ∨ op = 4 ∨ op = 5 ∨ op = 6 := by omega
  rcases this with rfl | rfl | rfl | rfl
  · exact ⟨_, rfl, prod_con1⟩
  · exact ⟨_, rfl, prod_con2⟩
  · exact ⟨_, rfl, prod_con3⟩
  · exact ⟨_, rfl, prod_con4⟩
theorem conF_none {op : Int} (h : ¬ (3 ≤ op ∧ op ≤ 6)) : conF op = none := by
  rw [conF, if_neg (by omega), if_neg (by omega), if_neg (by omega), if_neg (by omega)]
@[simp] theorem conV_closed (op : Int) : (conV op).closed := by
  rw [conV]; split <;> simp [AV.closed, closeds]
theorem prod_connective (op : Int) : Pure Try.prog 115 [.int .i64 op] (conV op) := by
  refine Pure.of_sw 12 Try.func115 rfl Try.ntmps115 (by kernel_rfl) (Nat.le_of_ble_eq_true (by kernel_rfl)) (by simp [closeds, AV.closed, aSs_closed, aIs_closed, aBs_closed, aRs_closed, aDen_closed]) (by simp [AV.closed, closeds, aSs_closed, aIs_closed, aBs_closed, aRs_closed, aDen_closed]) ?_; refine SW.of_vc ?_
  repeat first | refine opsStep ?_ | refine codeStep ?_ | refine drawStep ?_
  refine decB_dec (fun h3 => ?_) (fun h3 => ?_)
  · repeat first | refine opsStep ?_ | refine codeStep ?_ | refine drawStep ?_
    exact finV (v' := .fn (.func 147) [] []) (by kernel_rfl) (by rw [conV, conF, if_pos h3])
  repeat first | refine opsStep ?_ | refine codeStep ?_ | refine drawStep ?_
  refine decB_dec (fun h4 => ?_) (fun h4 => ?_)
  · repeat first | refine opsStep ?_ | refine codeStep ?_ | refine drawStep ?_
    exact finV (v' := .fn (.func 148) [] []) (by kernel_rfl) (by rw [conV, conF, if_neg h3, if_pos h4])
  repeat first | refine opsStep ?_ | refine codeStep ?_ | refine drawStep ?_
  refine decB_dec (fun h5 => ?_) (fun h5 => ?_)
  · repeat first | refine opsStep ?_ | refine codeStep ?_ | refine drawStep ?_
    exact finV (v' := .fn (.func 149) [] []) (by kernel_rfl) (by rw [conV, conF, if_neg h3, if_neg h4, if_pos h5])
  repeat first | refine opsStep ?_ | refine codeStep ?_ | refine drawStep ?_
  refine decB_dec (fun h6 => ?_) (fun h6 => ?_)
  · repeat first | refine opsStep ?_ | refine codeStep ?_ | refine drawStep ?_
    exact finV (v' := .fn (.func 150) [] []) (by kernel_rfl) (by rw [conV, conF, if_neg h3, if_neg h4, if_neg h5, if_pos h6])
  repeat first | refine opsStep ?_ | refine codeStep ?_ | refine drawStep ?_
  exact finV (v' := .nilf) (by kernel_rfl) (by rw [conV, conF, if_neg h3, if_neg h4, if_neg h5, if_neg h6])

@[irreducible] def joinE (op : Int) (d e : Den) : Int := if (rightS d && rightS e) = true then (if 3 ≤ op ∧ op ≤ 6 then (if (unN d e).length ≤ 6 then prdE (widenD d (unN d e)) (widenD e (unN d e)) else 150) else 2) else 3
theorem joinE_shape {op d e} (h : (rightS d && rightS e) = false) : joinE op d e = 3 := by rw [joinE, h]; rfl
theorem joinE_range {op d e} (h : (rightS d && rightS e) = true) (h2 : ¬ (3 ≤ op ∧ op ≤ 6)) : joinE op d e = 2 := by rw [joinE, if_pos h, if_neg h2]
theorem joinE_wide {op d e} (h : (rightS d && rightS e) = true) (h2 : 3 ≤ op ∧ op ≤ 6) (h3 : ¬ (unN d e).length ≤ 6) : joinE op d e = 150 := by rw [joinE, if_pos h, if_pos h2, if_neg h3]
theorem joinE_made {op d e} (h : (rightS d && rightS e) = true) (h2 : 3 ≤ op ∧ op ≤ 6) (h3 : (unN d e).length ≤ 6) : joinE op d e = prdE (widenD d (unN d e)) (widenD e (unN d e)) := by rw [joinE, if_pos h, if_pos h2, if_pos h3]

theorem prod_Join (op : Int) (d e : Den) (hd : DenOk d) (he : DenOk e) : ACall Try.prog 79 [.int .i64 op, aDen d, aDen e] [] fun o H' => (joinE op d e ≠ 0 ∧ o = .ret (.tup [aDen den0, .int .i64 (joinE op d e)]) ∧ H' = []) ∨
    (joinE op d e = 0 ∧ (unN d e).length ≤ 6 ∧ ∃ L, prdR (widenD d (unN d e)) (widenD e (unN d e)) = some L ∧ o = .ret (.tup [ndV (unN d e).length L.length, .int .i64 0]) ∧ H' = ndH (unN d e) (L.map (accP (holdsS op) (widenD d (unN d e)) (widenD e (unN d e)))) (L.map (rowX (pf (widenD d (unN d e)) (widenD e (unN d e))) L)) (2 ^ (unN d e).length)) := by
  refine ACall.weak (R := fun o H' => (joinE op d e ≠ 0 ∧ o = .ret (.tup [aDen den0, .int .i64 (joinE op d e)])) ∨ (joinE op d e = 0 ∧ (unN d e).length ≤ 6 ∧ ∃ L, prdR (widenD d (unN d e)) (widenD e (unN d e)) = some L ∧ o = .ret (.tup [.agg [.hs 3 0 0 (unN d e).length 1, .hs 12 L.length 0 L.length 1, .hs 13 L.length 0 L.length 1], .int .i64 0]) ∧
      ∃ b0 b1 b2 b4 b5 b6 b7 b8 b9 b10 b11, H' = [b0, b1, b2, .cells 0 ((unN d e).map .str), b4, b5, b6, b7, b8, b9, b10, b11, .cells L.length ((L.map (accP (holdsS op) (widenD d (unN d e)) (widenD e (unN d e)))).map .bool), .cells L.length (pmHs 14 (2 ^ (unN d e).length) L.length)] ++ pmRows (L.map (rowX (pf (widenD d (unN d e)) (widenD e (unN d e))) L)))) ?_
    (fun H' h => by rcases h with ⟨_, h⟩ | ⟨_, _, L, _, h, _⟩ <;> cases h) ?_
  rotate_left
  · rintro v H' (⟨h, hv⟩ | ⟨h, h6, L, hL, hv, b0, b1, b2, b4, b5, b6, b7, b8, b9, b10, b11, rfl⟩)
    · have hv := Out.ret.inj hv
      subst hv
      exact ⟨.tup [aDen den0, .int .i64 (joinE op d e)], [], Ent.give rfl 0 (by simp [AV.closed, closeds, aDen_closed]) (.refl _), .inl ⟨h, rfl, rfl⟩⟩
    · have hv := Out.ret.inj hv
      subst hv
      refine ⟨_, _, Ent.newDen (a := 3) (b := 12) (c := 13) (base := 14) (N := (unN d e).length) (M := L.length) (names := unN d e) (acc := L.map (accP (holdsS op) (widenD d (unN d e)) (widenD e (unN d e)))) (rows := L.map (rowX (pf (widenD d (unN d e)) (widenD e (unN d e))) L)) 0 rfl rfl rfl ?_ (by simp) (by omega) (by omega) (by omega) (by omega) (by omega) (by omega), .inr ⟨h, h6, L, hL, rfl, rfl⟩⟩
      intro j r hj
      rw [List.getElem?_append_right (by simp)]
      simp only [List.length_cons, List.length_nil, pmRows]
      rw [show 14 + j - (0 + 1 + 1 + 1 + 1 + 1 + 1 + 1 + 1 + 1 + 1 + 1 + 1 + 1 + 1) = j by omega]
      rw [List.getElem?_map, hj]; rfl
  have h1 := hd.tracks
  have h2 := he.tracks
  have hrd := table_Right d hd
  have hre := table_Right e he
  have hbad : (rightS d && rightS e) = false → joinE op d e = 3 := joinE_shape
  refine ACall.of_sw 65 Try.func79 rfl Try.ntmps79 (by kernel_rfl) (Nat.le_of_ble_eq_true (by kernel_rfl)) ?_; refine SW.of_vc ?_
  repeat first | refine opsStep ?_ | refine codeStep ?_ | refine drawStep ?_
  refine callP hrd ?_
  repeat first | refine opsStep ?_ | refine codeStep ?_ | refine drawStep ?_
  refine decB_dec (fun hr1 => ?_) (fun hr1 => ?_)
  · have hr' : rightS d = false := by cases h : rightS d with | true => exact absurd (rightE_ok h) hr1 | false => rfl
    have hb := hbad (by rw [hr']; rfl)
    repeat first | refine opsStep ?_ | refine codeStep ?_ | refine drawStep ?_
    refine finR (l := [(6, .ref 2 0 0), (7, .int .i64 3)]) (H₁ := [.cells 0 d.cells, .cells 0 e.cells, .cells 0 den0.cells]) (v := .tup [aDen den0, .int .i64 3]) ⟨(by kernel_rfl), (by kernel_rfl), trivial⟩ (by kernel_rfl) (Ent.refl _ _ _) (by kernel_rfl) ?_
    rw [hb]
    exact .inl ⟨by decide, rfl⟩
  have hr1' : rightS d = true := by cases h : rightS d with | true => rfl | false => exact absurd (fun e => by rw [rightE_bad h] at e; omega) hr1
  repeat first | refine opsStep ?_ | refine codeStep ?_ | refine drawStep ?_
  refine callP hre ?_
  repeat first | refine opsStep ?_ | refine codeStep ?_ | refine drawStep ?_
  refine decB_dec (fun hr2 => ?_) (fun hr2 => ?_)
  · have hr' : rightS e = false := by cases h : rightS e with | true => exact absurd (rightE_ok h) hr2 | false => rfl
    have hb := hbad (by rw [hr']; simp)
    repeat first | refine opsStep ?_ | refine codeStep ?_ | refine drawStep ?_
    refine finR (l := [(6, .ref 2 0 0), (7, .int .i64 3)]) (H₁ := [.cells 0 d.cells, .cells 0 e.cells, .cells 0 den0.cells]) (v := .tup [aDen den0, .int .i64 3]) ⟨(by kernel_rfl), (by kernel_rfl), trivial⟩ (by kernel_rfl) (Ent.refl _ _ _) (by kernel_rfl) ?_
    rw [hb]
    exact .inl ⟨by decide, rfl⟩
  have hr2' : rightS e = true := by cases h : rightS e with | true => rfl | false => exact absurd (fun e => by rw [rightE_bad h] at e; omega) hr2
  have hrr : (rightS d && rightS e) = true := by rw [hr1', hr2']; rfl
  have hcn := prod_connective op
  repeat first | refine opsStep ?_ | refine codeStep ?_ | refine drawStep ?_
  by_cases hop : 3 ≤ op ∧ op ≤ 6
  rotate_left
  · have hb := joinE_range hrr hop
    rw [conV, conF_none hop] at hcn
    refine callP hcn ?_
    repeat first | refine opsStep ?_ | refine codeStep ?_ | refine drawStep ?_
    refine finR (l := [(6, .ref 2 0 0), (7, .int .i64 2)]) (H₁ := [.cells 0 d.cells, .cells 0 e.cells, .cells 0 den0.cells]) (v := .tup [aDen den0, .int .i64 2]) ⟨(by kernel_rfl), (by kernel_rfl), trivial⟩ (by kernel_rfl) (Ent.refl _ _ _) (by kernel_rfl) ?_
    rw [hb]
    exact .inl ⟨by decide, rfl⟩
  obtain ⟨f, hf, hfp⟩ := conF_some hop
  rw [conV, hf] at hcn
  obtain ⟨jd1, jd2, jd3, jd4⟩ := tracksS_parts (rightS_parts hr1').1
  obtain ⟨je1, je2, je3, je4⟩ := tracksS_parts (rightS_parts hr2').1
  have hun := glyph_Union d.tk e.tk d.tracks e.tracks (by omega) (fun s hs => by have := hd.names s hs; omega) (fun s hs => by have := he.names s hs; omega) jd2 je2
  have hur := unN_rises hr1' hr2'
  obtain ⟨hi1, hi2⟩ := unN_in (d := d) (e := e)
  have hul := unN_len hr1' hr2'
  have hus := unN_sizes hd he
  have hwide := joinE_wide hrr hop
  have hmade := joinE_made hrr hop
  rw [← unN] at hun
  generalize unN d e = names at *
  refine callP hcn ?_
  repeat first | refine opsStep ?_ | refine codeStep ?_ | refine drawStep ?_
  refine callP hun ?_
  have hwd := track_WidenK .any d names hd (by omega) hus
  have hwe := track_Widen_pure .any e names he (by omega) hus
  have hcl : closeds [aDen d, aSs .any names] := by simp [closeds, aDen_closed, aSs_closed]
  by_cases h6 : names.length ≤ 6
  rotate_left
  · have hb := hwide h6
    have hw0 := widenE_wide hr1' hur h6
    repeat first | refine opsStep ?_ | refine codeStep ?_ | refine drawStep ?_
    refine callS hcl hwd (fun X h => by rcases h with ⟨_, h, _⟩ | ⟨_, h, _⟩ <;> cases h) ?_
    rintro v X (⟨hne, hv, rfl⟩ | ⟨h0, hv, rfl⟩)
    · have hv := Out.ret.inj hv
      subst hv
      rw [hw0]
      iterate 7 refine opsStep ?_
      refine VCode.ent (Ent.fr' (l := [(0, .int .i64 op), (4, .ref 0 0 0), (5, .ref 1 0 0), (6, .ref 2 0 0), (10, .int .i64 150)]) (H' := [.cells 0 d.cells, .cells 0 e.cells, .cells 0 den0.cells, .cells 0 den0.cells]) ⟨(by kernel_rfl), (by kernel_rfl), (by kernel_rfl), (by kernel_rfl), (by kernel_rfl), trivial⟩ (by kernel_rfl)) ?_
      repeat first | refine opsStep ?_ | refine codeStep ?_ | refine drawStep ?_
      refine finR (l := [(6, .ref 2 0 0), (7, .int .i64 150)]) (H₁ := [.cells 0 d.cells, .cells 0 e.cells, .cells 0 den0.cells, .cells 0 den0.cells]) (v := .tup [aDen den0, .int .i64 150]) ⟨(by kernel_rfl), (by kernel_rfl), trivial⟩ (by kernel_rfl) (Ent.refl _ _ _) (by kernel_rfl) ?_
      rw [hb]
      exact .inl ⟨by decide, rfl⟩
    · omega
  have hb := hmade h6
  have w0 := widenE_ok hr1' hur h6 hi1
  have v0 := widenE_ok hr2' hur h6 hi2
  have wr := widenD_right hr1' h6 hur
  have vr := widenD_right hr2' h6 hur
  have wk := widenD_den hd (by omega) hus w0
  have vk := widenD_den he (by omega) hus v0
  rw [widenR_ok v0, v0] at hwe
  have hmd := prod_made names (widenD d names) (widenD e names) (aSs (widenD e names).tk (widenD e names).tracks) (holdsS op) f wk vk wr vr rfl (aSs_bel _ _ _) hfp (2 ^ names.length) rfl
  have hma : (widenD d names).ak = .any := rfl
  have hmn : (widenD d names).nk = .any := rfl
  rw [hma, hmn] at hmd
  generalize hgd : widenD d names = wd at *
  generalize hge : widenD e names = we at *
  repeat first | refine opsStep ?_ | refine codeStep ?_ | refine drawStep ?_
  refine callS hcl hwd (fun X h => by rcases h with ⟨_, h, _⟩ | ⟨_, h, _⟩ <;> cases h) ?_
  rintro v X (⟨hne, hv, rfl⟩ | ⟨h0, hv, rfl⟩)
  · exact absurd w0 hne
  have hv := Out.ret.inj hv
  subst hv
  iterate 7 refine opsStep ?_
  refine VCode.ent (Ent.fr' (l := [(0, .int .i64 op), (4, .ref 0 0 0), (5, .ref 1 0 0), (6, .ref 2 0 0), (8, .fn (.func f) [] []), (9, aSs .any names), (10, .int .i64 0), (11, .ref 4 0 0)]) (H' := [.cells 0 d.cells, .cells 0 e.cells, .cells 0 den0.cells, .cells 0 (names.map .str), .cells 0 [.hs 3 0 0 names.length 1, aBs .any wd.accept, aRs .any wd.next]]) ⟨(by kernel_rfl), (by kernel_rfl), (by kernel_rfl), (by kernel_rfl), (by kernel_rfl), (by kernel_rfl), (by kernel_rfl), (by kernel_rfl), trivial⟩ ?_) ?_
  · refine Eq.trans (b := [.cells 0 d.cells, .cells 0 e.cells, .cells 0 den0.cells, Blk.sh 3 (.cells 0 (names.map .str)), .cells 0 [.hs 3 0 0 names.length 1, (aBs .any wd.accept).sh 3, (aRs .any wd.next).sh 3]]) (by kernel_rfl) ?_
    rw [Blk.sh, strs_sh, AV.closed_sh _ (aBs_closed _ _), AV.closed_sh _ (aRs_closed _ _)]
  repeat first | refine opsStep ?_ | refine codeStep ?_ | refine drawStep ?_
  refine callP hwe ?_
  iterate 7 refine opsStep ?_
  refine VCode.ent (Ent.fr' (l := [(6, .ref 2 0 0), (8, .fn (.func f) [] []), (10, .int .i64 0), (11, .ref 4 0 0), (12, .ref 5 0 0)]) (H' := [.cells 0 d.cells, .cells 0 e.cells, .cells 0 den0.cells, .cells 0 (names.map .str), .cells 0 [.hs 3 0 0 names.length 1, aBs .any wd.accept, aRs .any wd.next], .cells 0 [aSs we.tk we.tracks, aBs we.ak we.accept, aRs we.nk we.next]]) ⟨(by kernel_rfl), (by kernel_rfl), (by kernel_rfl), (by kernel_rfl), (by kernel_rfl), trivial⟩ (by kernel_rfl)) ?_
  repeat first | refine opsStep ?_ | refine codeStep ?_ | refine drawStep ?_
  refine callF [3] hmd (by simp) (by intro b hb; simp at hb; subst hb; exact (by decide : 3 < 6)) rfl ?_ ?_ ?_ ?_ ?_
  · show [some (Blk.cells 0 (names.map .str))] = [some (Blk.cells 0 (rns _ (names.map .str)))]
    rw [strs_rn]
  · simp [bels, AV.bel, aBs_bel, aRs_bel, aSs_bel]
  · simp [blksBel, Blk.bel, bels_map, AV.bel]
  · show [AV.agg [.hs 3 0 0 names.length 1, aBs .any wd.accept, aRs .any wd.next], AV.agg [aSs we.tk we.tracks, aBs we.ak we.accept, aRs we.nk we.next], _] = _
    rw [rns, rns, rns, rns, AV.rn, AV.rn, AV.rn, rns, rns, rns, rns, rns, rns, rns, rns, AV.closed_rn _ (aBs_closed _ _), AV.closed_rn _ (aRs_closed _ _), AV.closed_rn _ (aBs_closed _ _), AV.closed_rn _ (aRs_closed _ _), AV.closed_rn _ (aSs_closed _ _)]
    rfl
  · rintro o H' (⟨L, hL, rfl, b1, b2, b3, b4, b5, b6, rfl⟩ | ⟨hL, rfl, X, rfl⟩)
    · have hpe := (prd_some (cn := holdsS op) (names := names) hL).2
      obtain ⟨F, hF⟩ : ∃ F, rnB [3] 6 = F := ⟨_, rfl⟩
      have hF9 : ∀ j, F (9 + j) = 14 + j := fun j => by rw [← hF, rnB_ge (φ := [3]) (show 1 ≤ 9 + j by omega)]; show 6 + (9 + j - 1) = _; omega
      repeat first | refine opsStep ?_ | refine codeStep ?_ | refine drawStep ?_
      refine finR (l := [(6, .ref 2 0 0), (7, .int .i64 0)]) (H₁ := [.cells 0 d.cells, .cells 0 e.cells, .cells 0 [.hs 3 0 0 names.length 1, .hs 12 L.length 0 L.length 1, .hs 13 L.length 0 L.length 1], .cells 0 (rns (rnB [3] 6) (names.map .str)), .cells 0 [.hs 3 0 0 names.length 1, aBs .any wd.accept, aRs .any wd.next], .cells 0 [aSs we.tk we.tracks, aBs we.ak we.accept, aRs we.nk we.next],
        b1.rn (rnB [3] 6), b2.rn (rnB [3] 6), b3.rn (rnB [3] 6), b4.rn (rnB [3] 6), b5.rn (rnB [3] 6), b6.rn (rnB [3] 6), .cells L.length (rns (rnB [3] 6) ((L.map (accP (holdsS op) wd we)).map .bool)), .cells L.length (rns (rnB [3] 6) (pmHs 9 (2 ^ names.length) L.length))] ++ (pmRows (L.map (rowX (pf wd we) L))).map (Blk.rn (rnB [3] 6)))
        (v := .tup [.agg [.hs 3 0 0 names.length 1, .hs 12 L.length 0 L.length 1, .hs 13 L.length 0 L.length 1], .int .i64 0]) ⟨(by kernel_rfl), (by kernel_rfl), trivial⟩ (by kernel_rfl) (Ent.refl _ _ _) (by kernel_rfl) ?_
      rw [hF, strs_rn, bools_rn, pmHs_rn F 9 14 _ hF9, pmRows_rn]
      exact .inr ⟨by rw [hb, hpe], h6, L, hL, rfl, _, _, _, _, _, _, _, _, _, _, _, rfl⟩
    · have hpe := (prd_none (cn := holdsS op) (names := names) hL).2
      repeat first | refine opsStep ?_ | refine codeStep ?_ | refine drawStep ?_
      refine finR (l := [(6, .ref 2 0 0), (7, .int .i64 140)]) (H₁ := place (rnB [3] 6) [3] [.cells 0 d.cells, .cells 0 e.cells, .cells 0 den0.cells, .cells 0 (names.map .str), .cells 0 [.hs 3 0 0 names.length 1, aBs .any wd.accept, aRs .any wd.next], .cells 0 [aSs we.tk we.tracks, aBs we.ak we.accept, aRs we.nk we.next]] (.cells 0 (names.map .str) :: X)) (v := .tup [aDen den0, .int .i64 140]) ⟨(by kernel_rfl), (by kernel_rfl), trivial⟩ (by kernel_rfl) (Ent.refl _ _ _) (by kernel_rfl) ?_
      rw [hb, hpe]
      exact .inl ⟨by decide, rfl⟩

end Tab

/- tabardref16.Not, tabardref16.Join; prod's answers as values. -/
namespace Tab
open Go Go.Proofs
set_option maxRecDepth 10000
set_option linter.unusedVariables false
set_option linter.unusedSimpArgs false
set_option linter.unusedSectionVars false

/-! ### Along the diagonal -/

def oneD : Den := ⟨.nil, [], .any, [false], .any, [(.any, [0])]⟩
theorem oneD_ok : DenOk oneD := ⟨by decide, by simp [oneD], by decide, by decide, by simp [oneD, Den.rows]⟩
theorem oneD_right : rightS oneD = true := by decide

def dgP (p : Pr) : Pr := if p = stP then stP else (p.1, p.1)
theorem dgP_st : dgP stP = stP := if_pos rfl
theorem ok_ne {d e : Den} {p : Pr} (h : okS d e p) : p ≠ stP := fun e => by have := h.1; rw [e] at this; simp at this
theorem dgP_ok {d s : Den} {p : Pr} (h : okS d s p) : dgP p = (p.1, p.1) := if_neg (ok_ne h)

section
variable {d s : Den} (hd : rightS d = true) (hs : rightS s = true) (hk : d.tracks.length = s.tracks.length) (h1 : s.accept.length = 1)
include hd hs hk h1
theorem dg_f (x : Pr) (hx : x = stP ∨ okS d s x) : (pf d s x).map dgP = pf d d (dgP x) := by
  have hst : (pst (dgP x)).1 = (pst x).1 ∧ (pst (dgP x)).2 = (pst x).1 := by
    rcases hx with rfl | hx
    · exact ⟨rfl, rfl⟩
    · rw [dgP_ok hx, pst, pst, if_neg (ok_ne hx), if_neg (by intro e; have := hx.1; simp at e; omega)]
      exact ⟨rfl, rfl⟩
  rw [pf, pf, List.map_map, hst.1, hst.2]
  refine List.map_congr_left fun a ha => ?_
  show dgP _ = _
  rw [dgP, if_neg (by simp)]
theorem dg_inj (x y : Pr) (hx : x = stP ∨ okS d s x) (hy : y = stP ∨ okS d s y) (h : dgP x = dgP y) : x = y := by
  rcases hx with rfl | hx
  · rcases hy with rfl | hy
    · rfl
    · rw [dgP_st, dgP_ok hy] at h
      have := congrArg Prod.fst h; have := hy.1; simp at *; omega
  · rcases hy with rfl | hy
    · rw [dgP_st, dgP_ok hx] at h
      have := congrArg Prod.fst h; have := hx.1; simp at *; omega
    · rw [dgP_ok hx, dgP_ok hy] at h
      have e1 := congrArg Prod.fst h
      obtain ⟨_, _, a, b⟩ := hx
      obtain ⟨_, _, a', b'⟩ := hy
      exact Prod.ext e1 (by omega)
theorem dg_prd : (prdR d s).map (List.map dgP) = prdR d d := by
  rw [prdR, prdR]
  have hQ : ∀ x : Pr, (x = stP ∨ okS d s x) → ∀ t ∈ pf d s x, (t = stP ∨ okS d s t) := fun x hx t ht => .inr (pf_ok hd hs hk hx t ht)
  exact explO_map (f := pf d s) (f' := pf d d) dgP (cap := 256) (Q := fun x => x = stP ∨ okS d s x) hQ (dg_inj hd hs hk h1) (dg_f hd hs hk h1) 300 0 [stP] (by simp)
theorem prd_q {L : List Pr} (h : prdR d s = some L) : ∀ x ∈ L, x = stP ∨ okS d s x :=
  fun x hx => by
    rw [← (explO_some h).1] at hx
    exact expl_all (f := pf d s) (Q := fun x => x = stP ∨ okS d s x) (fun y hy t ht => .inr (pf_ok hd hs hk hy t ht)) 300 0 [stP] (by simp) x hx
theorem dg_eq (names : List (List UInt8)) : prdV (holdsS 2) names d s = prdV notS names d d ∧ prdE d s = prdE d d := by
  have hm := dg_prd hd hs hk h1
  cases h : prdR d s with
  | none =>
    rw [h] at hm
    have hm : prdR d d = none := hm.symm
    obtain ⟨a1, a2⟩ := prd_none (cn := holdsS 2) (names := names) h
    obtain ⟨b1, b2⟩ := prd_none (cn := notS) (names := names) hm
    rw [a1, a2, b1, b2]; exact ⟨rfl, rfl⟩
  | some L =>
    rw [h] at hm
    have hm : prdR d d = some (L.map dgP) := hm.symm
    obtain ⟨a1, a2⟩ := prd_some (cn := holdsS 2) (names := names) h
    obtain ⟨b1, b2⟩ := prd_some (cn := notS) (names := names) hm
    have hq := prd_q hd hs hk h1 h
    rw [a1, a2, b1, b2]
    refine ⟨?_, rfl⟩
    rw [prdM, prdM, List.map_map, List.map_map]
    have e1 : L.map (accP (holdsS 2) d s) = L.map (accP notS d d ∘ dgP) := List.map_congr_left fun p hp => by
      rcases hq p hp with rfl | hx
      · rfl
      · rw [Function.comp_apply, dgP_ok hx, accP, accP, if_neg (ok_ne hx), if_neg (by intro e; have := hx.1; simp at e; omega)]
        rfl
    have e2 : L.map (fun p => (SK.any, rowX (pf d s) L p)) = L.map ((fun p => (SK.any, rowX (pf d d) (L.map dgP) p)) ∘ dgP) := List.map_congr_left fun p hp => by
      rw [Function.comp_apply, rowX_map dgP (dg_f hd hs hk h1 p (hq p hp)) fun x hx y hy e => dg_inj hd hs hk h1 _ _ (hq y hy) (.inr (pf_ok hd hs hk (hq p hp) x hx)) e]
    rw [e1, e2]
end

/-! ### As values -/

@[irreducible] def notV (d : Den) : Den := if rightS d = true then prdV notS d.tracks d d else den0
@[irreducible] def joinV (op : Int) (d e : Den) : Den := if (rightS d && rightS e) = true then (if 3 ≤ op ∧ op ≤ 6 then (if (unN d e).length ≤ 6 then prdV (holdsS op) (unN d e) (widenD d (unN d e)) (widenD e (unN d e)) else den0) else den0) else den0

theorem prd_zero {d e : Den} (h : prdE d e = 0) : ∃ L, prdR d e = some L := by
  cases hR : prdR d e with
  | some L => exact ⟨L, rfl⟩
  | none => have := (prd_none (cn := notS) (names := []) hR).2; omega
theorem notV_bad {d : Den} (h : notE d ≠ 0) : notV d = den0 := by
  rw [notV]
  split
  · rename_i hr
    rw [notE, if_pos hr] at h
    cases hR : prdR d d with
    | some L => exact absurd (prd_some (cn := notS) (names := d.tracks) hR).2 h
    | none => exact (prd_none (cn := notS) (names := d.tracks) hR).1
  · rfl
theorem notV_ok {d : Den} {L} (h : notE d = 0) (hL : prdR d d = some L) : notV d = prdM notS d.tracks d d L := by
  have hr : rightS d = true := by
    cases hr : rightS d with
    | true => rfl
    | false => rw [notE, hr] at h; exact absurd h (by simp)
  rw [notV, if_pos hr]
  exact (prd_some hL).1
theorem joinV_bad {op d e} (h : joinE op d e ≠ 0) : joinV op d e = den0 := by
  rw [joinV]
  split
  · rename_i hr
    split
    · rename_i ho
      split
      · rename_i h6
        rw [joinE_made hr ho h6] at h
        cases hR : prdR (widenD d (unN d e)) (widenD e (unN d e)) with
        | some L => exact absurd (prd_some (cn := notS) (names := d.tracks) hR).2 h
        | none => exact (prd_none hR).1
      · rfl
    · rfl
  · rfl
theorem joinE_ok {op d e} (h : joinE op d e = 0) : (rightS d && rightS e) = true ∧ (3 ≤ op ∧ op ≤ 6) ∧ (unN d e).length ≤ 6 := by
  by_cases h1 : (rightS d && rightS e) = true
  · by_cases h2 : 3 ≤ op ∧ op ≤ 6
    · by_cases h3 : (unN d e).length ≤ 6
      · exact ⟨h1, h2, h3⟩
      · rw [joinE_wide h1 h2 h3] at h; omega
    · rw [joinE_range h1 h2] at h; omega
  · rw [joinE_shape (by simpa using h1)] at h; omega
theorem joinV_ok {op d e L} (h : joinE op d e = 0) (hL : prdR (widenD d (unN d e)) (widenD e (unN d e)) = some L) : joinV op d e = prdM (holdsS op) (unN d e) (widenD d (unN d e)) (widenD e (unN d e)) L := by
  obtain ⟨h1, h2, h3⟩ := joinE_ok h
  rw [joinV, if_pos h1, if_pos h2, if_pos h3]
  exact (prd_some hL).1

theorem prd_read {N : Nat} (cn : Bool → Bool → Bool) (names : List (List UInt8)) (d e : Den) (L : List Pr) (hN : N = names.length) :
    Rd (ndH names (L.map (accP cn d e)) (L.map (rowX (pf d e) L)) (2 ^ d.tracks.length)) (ndV N L.length) (aDen (prdM cn names d e L)) := by
  have := ndH_read (N := N) (K := 2 ^ d.tracks.length) (names := names) (acc := L.map (accP cn d e)) (rows := L.map (rowX (pf d e) L)) hN (by simp) (fun r hr => by
    obtain ⟨p, _, rfl⟩ := List.mem_map.1 hr
    simp [rowX, pf_length])
  rw [List.length_map, List.map_map] at this
  exact this

theorem prod_JoinV (op : Int) (d e : Den) (hd : DenOk d) (he : DenOk e) : Pure Try.prog 79 [.int .i64 op, aDen d, aDen e] (.tup [aDen (joinV op d e), .int .i64 (joinE op d e)]) := by
  refine Pure.of_read (by simp [AV.closed, closeds, aDen_closed]) (by simp [AV.closed, closeds, aDen_closed]) (prod_Join op d e hd he) ?_
  rintro o H' (⟨h, rfl, rfl⟩ | ⟨h, h6, L, hL, rfl, rfl⟩)
  · exact ⟨_, rfl, by rw [joinV_bad h]; exact .refl _⟩
  · refine ⟨_, rfl, ?_⟩
    rw [joinV_ok h hL, h]
    exact Rd.tup (.cons (prd_read (holdsS op) (unN d e) (widenD d (unN d e)) (widenD e (unN d e)) L rfl) (.cons (.refl _) .nil))

end Tab

/- tabardlaw16: even, fixed, spoil. -/
namespace Tab
open Go Go.Proofs
set_option maxRecDepth 10000
set_option linter.unusedVariables false
set_option linter.unusedSimpArgs false
set_option linter.unusedSectionVars false

def RowsOf (n kk : Nat) (rb : List Blk) : Prop := rb.length = kk ∧ ∀ (j : Nat) (h : j < rb.length), ∃ r, rb[j] = .cells 0 r ∧ r.length = n
theorem RowsOf.set {n kk j : Nat} {rb : List Blk} {r : List AV} (h : RowsOf n kk rb) (hr : r.length = n) : RowsOf n kk (rb.set j (.cells 0 r)) := by
  refine ⟨by rw [List.length_set]; exact h.1, fun i hi => ?_⟩
  rw [List.getElem_set]
  split
  · exact ⟨r, rfl, hr⟩
  · exact h.2 i (by simpa using hi)
theorem over_len {cs xs : List AV} {o : Nat} (h : o + xs.length ≤ cs.length) : (over cs o xs).length = cs.length := by simp [over]; omega
theorem rowsOf_pm {n : Nat} {rows : List (List Int)} (h : ∀ r ∈ rows, r.length = n) : RowsOf n rows.length (pmRows rows) :=
  ⟨by simp [pmRows], fun j hj => ⟨(rows[j]'(by simpa [pmRows] using hj)).map (.int .i64), by simp [pmRows], by rw [List.length_map]; exact h _ (List.getElem_mem _)⟩⟩

/-- The machine that is written over, behind it the copy of its headers. -/
def slB (tr : List AV) (acc : List Bool) (M K : Nat) : List Blk := [.cells 0 tr, .cells M (acc.map .bool), .cells M (pmHs 3 K M)]
def slH (tr : List AV) (acc : List Bool) (M K : Nat) (rb : List Blk) : List Blk := slB tr acc M K ++ rb
theorem sl_get {tr acc M K rb z} {j : Nat} (h : j < rb.length) : (slH tr acc M K rb ++ [z])[3 + j]? = some rb[j] := by
  rw [slH, slB, List.append_assoc, List.getElem?_append_right (by simp)]
  simp only [List.length_cons, List.length_nil]
  rw [show 3 + j - (0 + 1 + 1 + 1) = j by omega, List.getElem?_append_left h, List.getElem?_eq_getElem h]
theorem sl_set {tr acc M K rb z y} {j : Nat} (h : j < rb.length) : (slH tr acc M K rb ++ [z]).set (3 + j) y = slH tr acc M K (rb.set j y) ++ [z] := by
  rw [slH, slH, slB, List.append_assoc, List.append_assoc, List.set_append_right _ _ (by simp)]
  simp only [List.length_cons, List.length_nil]
  rw [show 3 + j - (0 + 1 + 1 + 1) = j by omega, List.set_append_left _ _ h]
theorem slH_length (tr acc M K rb) : (slH tr acc M K rb).length = 3 + rb.length := by simp [slH, slB]; omega
theorem sl_last {tr acc M K rb x} (h : rb.length = M) : (slH tr acc M K rb ++ [x])[3 + M]? = some x := by rw [← h, ← slH_length tr acc M K rb]; exact get_last _ _

end Tab

/- tabardlaw16: even, fixed. -/
namespace Tab
open Go Go.Proofs
set_option maxRecDepth 10000
set_option linter.unusedVariables false
set_option linter.unusedSimpArgs false
set_option linter.unusedSectionVars false

def oddD : Den := ⟨.any, [[120]], .any, [false, false, true], .any, [(.any, [1, 2]), (.any, [1, 1]), (.any, [2, 2])]⟩
theorem oddD_ok : DenOk oddD := ⟨by decide, by decide, by decide, by decide, by decide⟩
theorem evenD_right : rightS evenD = true := by kernel_rfl
theorem even_L : prdR evenD evenD = some [(-1, -1), (1, 1), (2, 2)] := by kernel_rfl
theorem even_notE : notE evenD = 0 := by rw [notE, if_pos evenD_right]; exact (prd_some (cn := notS) (names := []) even_L).2
theorem even_notV : sameD (notV evenD) oddD = true := by
  rw [notV_ok even_notE even_L, sameD_eq]
  kernel_rfl
theorem prdM_ok {cn names d e L} (hn : names.length * 16 ≤ 140737488351232) (hns : ∀ s ∈ names, s.length ≤ 140737488351232) (hL : L.length ≤ 256) (hk : d.tracks.length ≤ 6) : DenOk (prdM cn names d e L) := by
  have hp : 2 ^ d.tracks.length ≤ 2 ^ 6 := Nat.pow_le_pow_right (by omega) hk
  refine ⟨hn, hns, by simp only [prdM, List.length_map]; omega, by simp only [prdM, List.length_map]; omega, fun r hr => ?_⟩
  simp only [prdM, List.mem_map] at hr
  obtain ⟨p, _, rfl⟩ := hr
  simp only [rowX, List.length_map, pf_length]
  omega
theorem prdR_len {d e L} (h : prdR d e = some L) : L.length ≤ 256 := (explO_some h).2 (by simp)
theorem notV_den {d : Den} (hd : DenOk d) : DenOk (notV d) := by
  rw [notV]
  split
  · rename_i hr
    obtain ⟨g1, _, _⟩ := rightS_parts hr
    obtain ⟨j1, _, _, _⟩ := tracksS_parts g1
    cases hR : prdR d d with
    | some L => rw [(prd_some hR).1]; exact prdM_ok hd.tracks hd.names (prdR_len hR) j1
    | none => rw [(prd_none hR).1]; exact den0_ok
  · exact den0_ok
theorem joinV_den {op} {d e : Den} (hd : DenOk d) (he : DenOk e) : DenOk (joinV op d e) := by
  rw [joinV]
  split
  · split
    · split
      · rename_i h6
        cases hR : prdR (widenD d (unN d e)) (widenD e (unN d e)) with
        | some L => rw [(prd_some hR).1]; exact prdM_ok (by omega) (unN_sizes hd he) (prdR_len hR) h6
        | none => rw [(prd_none hR).1]; exact den0_ok
      · exact den0_ok
    · exact den0_ok
  · exact den0_ok

end Tab

/- New machines among other blocks. -/
namespace Tab
open Go Go.Proofs
set_option maxRecDepth 10000
set_option linter.unusedVariables false
set_option linter.unusedSimpArgs false
set_option linter.unusedSectionVars false

theorem ndH_sh {names acc rows K} (b : Nat) : (ndH names acc rows K).map (Blk.sh b) = ndB names acc rows.length K (3 + b) ++ pmRows rows := by
  have e : (pmRows rows).map (Blk.sh b) = pmRows rows := by
    rw [pmRows, List.map_map]
    refine List.map_congr_left fun r _ => ?_
    simp only [Function.comp, Blk.sh]
    rw [closeds_sh]
    exact closeds_iff.2 fun a ha => by obtain ⟨x, _, rfl⟩ := List.mem_map.1 ha; simp only [AV.closed]
  have e2 : shs b (pmHs 3 K rows.length) = pmHs (3 + b) K rows.length := by
    rw [pmHs, pmHs, shs_map, List.map_map]
    exact List.map_congr_left fun j _ => by simp only [Function.comp, AV.sh]; congr 1; omega
  rw [ndH, ndB, List.map_append, e]
  simp only [List.map_cons, List.map_nil, Blk.sh, strs_sh, bools_sh, e2, ndB]
theorem ndB_length (names acc M K b) : (ndB names acc M K b).length = 3 := rfl
theorem ndB_bel {names acc M K b n} (h : b + M ≤ n) : blksBel n (ndB names acc M K b) := by
  have := pmHs_bel (K := K) h
  simp only [ndB, blksBel, Blk.bel, bels_map, AV.bel, implies_true, this, and_self]
theorem ndB_rn {names acc M K b c} {f : Nat → Nat} (h : ∀ j, j < M → f (b + j) = c + j) : (ndB names acc M K b).map (Blk.rn f) = ndB names acc M K c := by
  simp only [ndB, List.map_cons, List.map_nil, Blk.rn, strs_rn, bools_rn, pmHs_rn' f b c K M h]

/-- A block made behind the machine is moved ahead of it. -/
theorem Ent.ndIn {nt : Fr} {s : Slots} {H : List Blk} {l : List (Nat × AV)} (pre : List Blk) (x : Blk) {b : Nat} {names : List (List UInt8)} {acc : List Bool} {M K : Nat} {rows : List (List Int)} (hb : pre.length = b) (hk : nt.k ≤ b) (hM : rows.length = M)
    (hs : frOk s (l.map fun q => (q.1, q.2.rn (insF b (M + 3))))) (hH : H = pre.map (Blk.rn (insF b (M + 3))) ++ (ndB names acc M K (b + 3) ++ pmRows rows) ++ [x.rn (insF b (M + 3))])
    (bl : frBel (b + (M + 3) + 1) l) (bp : blksBel (b + (M + 3) + 1) pre) (bx : x.bel (b + (M + 3) + 1)) : Ent nt s H (Tab.fr l) (pre ++ x :: (ndB names acc M K (b + 4) ++ pmRows rows)) := by
  have hq : (ndB names acc M K (b + 4) ++ pmRows rows).length = M + 3 := by simp [ndB_length, pmRows, hM]; omega
  refine Ent.insMid pre (ndB names acc M K (b + 4) ++ pmRows rows) x (by omega) (by rw [hb, hq]; exact frOk_rn hs) ?_ (by rw [hb, hq]; exact bl) ?_
  · rw [hb, hq, hH, List.map_append, pmRows_rn, ndB_rn (c := b + 3) fun j hj => ?_]
    rw [insF, if_neg (by omega), if_neg (by omega)]; omega
  · rw [hb, hq, blksBel_append]
    exact ⟨bp, bx, blksBel_append.2 ⟨ndB_bel (by omega), pmRows_bel _ _⟩⟩

theorem place_take {f} {φ : List Nat} {H H₁ : List Blk} {n : Nat} (hn : n ≤ H.length) (h : ∀ b ∈ φ, n ≤ b) : ∃ Y, place f φ H H₁ = H.take n ++ Y := by
  refine ⟨(place f φ H H₁).drop n, ?_⟩
  have : (place f φ H H₁).take n = H.take n := by
    refine List.ext_getElem? fun i => ?_
    rw [List.getElem?_take, List.getElem?_take]
    split
    · rename_i hi
      exact place_out (by omega) fun hm => by have := h i hm; omega
    · rfl
  rw [← this, List.take_append_drop]

/-- A function that is handed the machine, and of which only the end is known. -/
theorem callNd {P : Program} {f : FuncId} {u : AV} {X : Out → List Blk → Prop} (pre : List Blk) {b : Nat} {names : List (List UInt8)} {acc : List Bool} {M K N : Nat} {rows : List (List Int)} (hb : pre.length = b) (hM : rows.length = M)
    (h : ACall P f [ndV N M] (ndH names acc rows K) fun o _ => o = .ret u) (hu : u.closed) (k : ∀ Y, X (.ret u) (pre ++ Y)) :
    ∃ R : Out → List Blk → Prop, ACall P f [.agg [.hs b 0 0 N 1, .hs (b + 1) M 0 M 1, .hs (b + 2) M 0 M 1]] (pre ++ (ndB names acc M K (b + 3) ++ pmRows rows)) R ∧ ∀ o H', R o H' → X o H' := by
  obtain ⟨W, hW⟩ : ∃ W, pre ++ (ndB names acc M K (b + 3) ++ pmRows rows) = W := ⟨_, rfl⟩
  have hWl : W.length = b + (M + 3) := by rw [← hW]; simp [ndB_length, pmRows, hM, hb]; omega
  have hWg : ∀ j, W[b + j]? = (ndB names acc M K (b + 3) ++ pmRows rows)[j]? := fun j => by
    rw [← hW, List.getElem?_append_right (by omega), hb]; congr 1; omega
  have hWt : W.take b = pre := by rw [← hW, ← hb, List.take_left]
  have hφm : ∀ x ∈ (List.range (M + 3)).map (b + ·), b ≤ x ∧ x < b + (M + 3) := fun x hx => by
    obtain ⟨j, hj, rfl⟩ := List.mem_map.1 hx
    have := List.mem_range.1 hj
    omega
  obtain ⟨F, hF⟩ : ∃ F, rnB ((List.range (M + 3)).map (b + ·)) W.length = F := ⟨_, rfl⟩
  have f1 : ∀ j, j < M + 3 → F j = b + j := fun j hj => by
    rw [← hF]
    refine rnB_lt ?_
    rw [List.getElem?_map, List.getElem?_range hj]; rfl
  have hrn : (ndH names acc rows K).map (Blk.rn F) = ndB names acc M K (b + 3) ++ pmRows rows := by
    rw [ndH, hM, List.map_append, pmRows_rn, ndB_rn (c := b + 3) fun j hj => by rw [f1 _ (by omega)]; omega]
  rw [hW]
  refine callF ((List.range (M + 3)).map (b + ·)) h ?_ ?_ ?_ ?_ ?_ ?_ ?_ ?_
  · exact List.pairwise_map.2 (List.nodup_range.imp fun {x y} h e => h (by omega))
  · intro x hx; have := hφm x hx; omega
  · simp [ndH, ndB_length, pmRows, hM]; omega
  · rw [hF, List.map_map, show (ndH names acc rows K).map (fun x => some (Blk.rn F x)) = ((ndH names acc rows K).map (Blk.rn F)).map some by rw [List.map_map]; rfl, hrn]
    refine List.ext_getElem? fun i => ?_
    rw [List.getElem?_map, List.getElem?_map]
    by_cases hi : i < M + 3
    · rw [List.getElem?_range hi]
      simp only [Option.map_some, Function.comp_apply]
      rw [hWg]
      cases hx : (ndB names acc M K (b + 3) ++ pmRows rows)[i]? with
      | none =>
        have := List.getElem?_eq_none_iff.1 hx
        simp [ndB_length, pmRows, hM] at this
        omega
      | some y => rfl
    · rw [List.getElem?_eq_none (by simp; omega), List.getElem?_eq_none (by simp [ndB_length, pmRows, hM]; omega)]
      rfl
  · simp [ndV, bels, AV.bel]
  · rw [List.length_map, List.length_range, ndH, hM, blksBel_append]
    exact ⟨ndB_bel (by omega), pmRows_bel _ _⟩
  · rw [hF, rns, rns, ndV, AV.rn, rns, rns, rns, rns, AV.rn, AV.rn, AV.rn, f1 0 (by omega), f1 1 (by omega), f1 2 (by omega)]
    rfl
  · rintro o H₁ rfl
    obtain ⟨Y, hY⟩ := place_take (f := rnB ((List.range (M + 3)).map (b + ·)) W.length) (φ := (List.range (M + 3)).map (b + ·)) (H := W) (H₁ := H₁) (n := b) (by omega) fun x hx => (hφm x hx).1
    rw [hY, hWt]
    have := k Y
    rwa [Out.rn, AV.closed_rn _ hu]

end Tab

/- Layer 16: the law ProdNots. -/
namespace Tab
open Go Go.Proofs
set_option maxRecDepth 10000
set_option linter.unusedVariables false
set_option linter.unusedSimpArgs false
set_option linter.unusedSectionVars false

theorem prdM_congr {cn names d e d' e' L} (h1 : d'.rows = d.rows) (h2 : e'.rows = e.rows) (h3 : d'.tracks.length = d.tracks.length) (h4 : d'.accept = d.accept) (h5 : e'.accept = e.accept) : prdM cn names d' e' L = prdM cn names d e L := by
  have : accP cn d' e' = accP cn d e := by funext p; rw [accP, accP, h4, h5]
  rw [prdM, prdM, this, pf_congr h1 h2 h3]
theorem prdV_congr {cn names d e d' e'} (h1 : d'.rows = d.rows) (h2 : e'.rows = e.rows) (h3 : d'.tracks.length = d.tracks.length) (h4 : d'.accept = d.accept) (h5 : e'.accept = e.accept) : prdV cn names d' e' = prdV cn names d e ∧ prdE d' e' = prdE d e := by
  have hR := prdR_congr h1 h2 h3
  cases h : prdR d e with
  | some L =>
    rw [h] at hR
    rw [(prd_some hR).1, (prd_some h).1, (prd_some (cn := cn) (names := names) hR).2, (prd_some (cn := cn) (names := names) h).2, prdM_congr h1 h2 h3 h4 h5]; exact ⟨rfl, rfl⟩
  | none =>
    rw [h] at hR
    rw [(prd_none hR).1, (prd_none h).1, (prd_none (cn := cn) (names := names) hR).2, (prd_none (cn := cn) (names := names) h).2]; exact ⟨rfl, rfl⟩
theorem notV_copy (d : Den) : notV (copyD d) = notV d ∧ notE (copyD d) = notE d := by
  obtain ⟨h1, h2⟩ := prdV_congr (cn := notS) (names := d.tracks) (d := d) (e := d) (d' := copyD d) (e' := copyD d) (copyD_rows d) (copyD_rows d) rfl rfl rfl
  constructor
  · rw [notV, notV, copyD_right, show (copyD d).tracks = d.tracks from rfl, h1]
  · rw [notE, notE, copyD_right, h2]

end Tab

/- The product's language. -/
namespace Tab
open Go Go.Proofs
set_option maxRecDepth 10000
set_option linter.unusedVariables false
set_option linter.unusedSimpArgs false
set_option linter.unusedSectionVars false

theorem ix_lt {α : Type} [DecidableEq α] {l : List α} {x : α} (h : x ∈ l) : ∃ hl : ixOf l x < l.length, l[ixOf l x] = x :=
  ⟨List.idxOf_lt_length_of_mem h, List.getElem_idxOf _⟩
theorem rowX_ix {α : Type} [DecidableEq α] (f : α → List α) (L : List α) (s : α) : rowX f L s = (f s).map fun t => (ixOf L t : Int) := rfl

def prodL (cn : Bool → Bool → Bool) (k : Nat) (K J : Lang) : Lang := fun w => letB k w && (!w.isEmpty && cn (K w) (J w))

section
variable {cn : Bool → Bool → Bool} {names : List (List UInt8)} {d e : Den} {L : List Pr} (hd : rightS d = true) (he : rightS e = true) (hk : d.tracks.length = e.tracks.length) (hn : risesS names = true) (hnk : names.length = d.tracks.length) (hL : prdR d e = some L)
include hd he hk hL
theorem prd_mem : ∀ x ∈ L, x = stP ∨ okS d e x := fun x hx => by
  rw [← (explO_some hL).1] at hx
  exact expl_all (f := pf d e) (Q := fun x => x = stP ∨ okS d e x) (fun y hy t ht => .inr (pf_ok hd he hk hy t ht)) 300 0 [stP] (by simp) x hx
omit hd he hk in
theorem prd_nodup : L.Nodup := by
  rw [← (explO_some hL).1]; exact expl_nodup 300 0 [stP] (by simp)
omit hd he hk in
theorem prd_closed : ∀ s ∈ L, ∀ t ∈ pf d e s, t ∈ L := by
  have h1 := (explO_some hL).1
  have h2 := prdR_len hL
  intro s hs t ht
  have := expl_closed (f := pf d e) 300 0 [stP] (fun i hi => by omega) (by rw [h1]; omega) s (by rw [h1]; exact hs) t ht
  rwa [h1] at this
omit hd he hk in
theorem prd_zero' : L[0]? = some stP := by
  obtain ⟨r, h⟩ := expl_prefix (f := pf d e) 300 0 [stP]
  rw [← (explO_some hL).1, h]; rfl

include hn hnk in
theorem prd_right : rightS (prdM cn names d e L) = true := by
  obtain ⟨k1, k2, k3, k4⟩ := tracksS_parts (rightS_parts hd).1
  have hl := prdR_len hL
  have hpos : 0 < L.length := (List.getElem?_eq_some_iff.1 (prd_zero' hL)).1
  have ha : (prdM cn names d e L).accept.length = L.length := by simp [prdM]
  rw [rightS, show (prdM cn names d e L).tracks = names from rfl, ha, tracksS_mk (by omega) hn (by omega) (by omega), decide_eq_true (by simp [prdM] : (prdM cn names d e L).next.length = L.length)]
  simp only [Bool.true_and, List.all_eq_true]
  intro r hr
  simp only [prdM, List.mem_map] at hr
  obtain ⟨q, hq, rfl⟩ := hr
  rw [rowOk, decide_eq_true (by rw [rowX, List.length_map, pf_length, hnk]), Bool.true_and, List.all_eq_true]
  intro x hx
  rw [rowX_ix] at hx
  obtain ⟨t, ht, rfl⟩ := List.mem_map.1 hx
  obtain ⟨this, _⟩ := ix_lt (prd_closed hL q hq t ht)
  simp
  omega

omit hd he hk in
theorem prd_step {i a : Nat} (hi : i < L.length) (ha : a < 2 ^ d.tracks.length) :
    ∃ h : stepN (prdM cn names d e L).rows i a < L.length, L[stepN (prdM cn names d e L).rows i a] = ((stepN d.rows (pst L[i]).1.toNat a : Int), (stepN e.rows (pst L[i]).2.toNat a : Int)) := by
  have hg := pf_get (d := d) (e := e) (p := L[i]) ha
  have hm := prd_closed hL _ (List.getElem_mem hi) _ (List.mem_of_getElem? hg)
  obtain ⟨hlt, hix⟩ := ix_lt hm
  have e1 : (prdM cn names d e L).rows.getD i [] = rowX (pf d e) L L[i] := by
    simp [prdM, Den.rows, List.getD_eq_getElem?_getD, hi]
  have e : stepN (prdM cn names d e L).rows i a = ixOf L ((stepN d.rows (pst L[i]).1.toNat a : Int), (stepN e.rows (pst L[i]).2.toNat a : Int)) := by
    rw [stepN, e1, rowX_ix, List.getD_eq_getElem?_getD, List.getElem?_map, hg]; rfl
  refine ⟨by rw [e]; exact hlt, ?_⟩
  simp only [e]
  exact hix
omit hd he hk in
theorem prd_run : ∀ (w : List Nat) {i : Nat} (hi : i < L.length), Lets d.tracks.length w →
    ∃ h : runN (prdM cn names d e L).rows i w < L.length, w ≠ [] → L[runN (prdM cn names d e L).rows i w] = ((runN d.rows (pst L[i]).1.toNat w : Int), (runN e.rows (pst L[i]).2.toNat w : Int))
  | [], i, hi, _ => ⟨hi, fun h => absurd rfl h⟩
  | a :: w, i, hi, hw => by
    obtain ⟨h1, h2⟩ := prd_step (cn := cn) (names := names) hL hi (hw a (by simp))
    obtain ⟨h3, h4⟩ := prd_run w h1 fun b hb => hw b (by simp [hb])
    refine ⟨h3, fun _ => ?_⟩
    show L[runN (prdM cn names d e L).rows (stepN (prdM cn names d e L).rows i a) w] = ((runN d.rows (stepN d.rows (pst L[i]).1.toNat a) w : Int), (runN e.rows (stepN e.rows (pst L[i]).2.toNat a) w : Int))
    have hp : pst ((stepN d.rows (pst L[i]).1.toNat a : Int), (stepN e.rows (pst L[i]).2.toNat a : Int)) = ((stepN d.rows (pst L[i]).1.toNat a : Int), (stepN e.rows (pst L[i]).2.toNat a : Int)) := by
      rw [pst, if_neg]; simp
    cases w with
    | nil => exact h2
    | cons b w =>
      have := h4 (by simp)
      rw [h2, hp] at this
      exact this
omit hd he in
include hnk in
theorem prd_lang : lang (prdM cn names d e L) = prodL cn d.tracks.length (lang d) (lang e) := by
  obtain ⟨hz, ez⟩ := List.getElem?_eq_some_iff.1 (prd_zero' hL)
  funext w
  rw [lang, langR, prodL, show (prdM cn names d e L).tracks = names from rfl, hnk]
  cases hw : letB d.tracks.length w with
  | false => rfl
  | true =>
    have hw := letB_iff.1 hw
    rw [Bool.true_and, Bool.true_and]
    obtain ⟨h1, h2⟩ := prd_run (cn := cn) (names := names) hL w hz hw
    have ea : accN (prdM cn names d e L).accept (runN (prdM cn names d e L).rows 0 w) = accP cn d e L[runN (prdM cn names d e L).rows 0 w] := by
      generalize runN (prdM cn names d e L).rows 0 w = i at *
      simp [accN, prdM, List.getD_eq_getElem?_getD, List.getElem?_map, h1]
    rw [ea]
    cases w with
    | nil =>
      have : L[runN (prdM cn names d e L).rows 0 []] = stP := ez
      rw [this]; rfl
    | cons a w =>
      rw [h2 (by simp), ez]
      rw [accP, if_neg (by simp)]
      show cn (accN d.accept (runN d.rows 0 (a :: w))) (accN e.accept (runN e.rows 0 (a :: w))) = (!false && cn (lang d (a :: w)) (lang e (a :: w)))
      rw [lang, lang, langR_let hw, langR_let (by rw [← hk]; exact hw)]; rfl
end

theorem prodL_sound {cn k K J} (hK : SoundL k K) (hJ : SoundL k J) : SoundL k (prodL cn k K J) := by
  refine ⟨by simp [prodL], fun w a hw ha => ?_⟩
  have l1 : letB k (w ++ [a]) = true := letB_iff.2 fun b hb => by
    rcases List.mem_append.1 hb with h | h
    · exact hw b h
    · simp at h; omega
  have l2 : letB k (w ++ [a, a]) = true := letB_iff.2 fun b hb => by
    rcases List.mem_append.1 hb with h | h
    · exact hw b h
    · simp at h; omega
  rw [prodL, prodL, l1, l2, hK.2 w a hw ha, hJ.2 w a hw ha]
  cases w <;> simp

/-! ### Not -/

theorem notE_ok {d : Den} (h : notE d = 0) : rightS d = true ∧ ∃ L, prdR d d = some L ∧ notV d = prdM notS d.tracks d d L := by
  have hr : rightS d = true := by
    cases hr : rightS d with
    | true => rfl
    | false => rw [notE, hr] at h; simp at h
  have h' := h
  rw [notE, if_pos hr] at h'
  obtain ⟨L, hL⟩ := prd_zero h'
  exact ⟨hr, L, hL, notV_ok h hL⟩
theorem notE_right {d : Den} (hr : rightS d = true) (h : notE d ≠ 0) : notE d = 140 := by
  rw [notE, if_pos hr] at h ⊢
  cases hR : prdR d d with
  | some L => exact absurd (prd_some (cn := notS) (names := []) hR).2 h
  | none => exact (prd_none (cn := notS) (names := []) hR).2
theorem not_right {d : Den} (h : notE d = 0) : rightS (notV d) = true ∧ (notV d).tracks = d.tracks ∧ lang (notV d) = prodL notS d.tracks.length (lang d) (lang d) := by
  obtain ⟨hr, L, hL, e⟩ := notE_ok h
  obtain ⟨_, h2, _, _⟩ := tracksS_parts (rightS_parts hr).1
  rw [e]
  exact ⟨prd_right hr hr rfl h2 rfl hL, rfl, prd_lang rfl rfl hL⟩
theorem lang_false {d : Den} {w : List Nat} (h : ¬ Lets d.tracks.length w) : lang d w = false := by
  cases e : letB d.tracks.length w with
  | false => rw [lang, langR, e]; rfl
  | true => exact absurd (letB_iff.1 e) h
theorem lang_nil (d : Den) : lang d [] = accN d.accept 0 := by rw [lang, langR_let (fun a ha => absurd ha (by simp))]; rfl
theorem notL_notL {d : Den} (h : lang d [] = false) : prodL notS d.tracks.length (prodL notS d.tracks.length (lang d) (lang d)) (prodL notS d.tracks.length (lang d) (lang d)) = lang d := by
  funext w
  cases w with
  | nil => rw [h]; rfl
  | cons a w =>
    simp only [prodL, notS]
    cases e : letB d.tracks.length (a :: w) with
    | false => rw [lang_false (fun k => by rw [letB_iff.2 k] at e; simp at e)]; rfl
    | true => simp

theorem not_sound {d : Den} (h : notE d = 0) (hs : soundD d = true) : soundD (notV d) = true := by
  obtain ⟨hr, _⟩ := notE_ok h
  obtain ⟨h1, h2, h3⟩ := not_right h
  rw [soundD_iff hr] at hs
  rw [soundD_iff h1, h2, h3]
  exact prodL_sound hs hs
theorem not_nil {d : Den} (h : notE d = 0) : ∃ l, (notV d).accept = false :: l := by
  obtain ⟨hr, L, hL, e⟩ := notE_ok h
  obtain ⟨r, hr⟩ := expl_prefix (f := pf d d) 300 0 [stP]
  rw [(explO_some hL).1] at hr
  rw [e, prdM, hr]
  exact ⟨_, rfl⟩
theorem not_takes {d : Den} (h : notE d = 0) {w : List Nat} (hw : Lets d.tracks.length w) (hne : w ≠ []) : lang (notV d) w = !lang d w := by
  obtain ⟨_, _, h3⟩ := not_right h
  rw [h3, prodL, letB_iff.2 hw]
  cases w with
  | nil => exact absurd rfl hne
  | cons a w => simp [notS]
theorem lang_copy (d : Den) : lang (copyD d) = lang d := by
  funext w
  rw [lang, lang, langR, langR, copyD_rows]; rfl
theorem not_not {d : Den} (h : notE d = 0) (h2 : notE (notV d) = 0) (hn : lang d [] = false) : sameD (minD (copyD d)) (minD (notV (notV d))) = true := by
  obtain ⟨hr, _⟩ := notE_ok h
  obtain ⟨a1, a2, a3⟩ := not_right h
  obtain ⟨b1, b2, b3⟩ := not_right h2
  refine minD_same (by rw [copyD_right]; exact hr) b1 (by rw [b2, a2]; rfl) ?_
  rw [lang_copy, b3, a2, a3]
  exact (notL_notL hn).symm

end Tab

/- Layer 16: the law ProdJoins. -/
namespace Tab
open Go Go.Proofs
set_option maxRecDepth 10000
set_option linter.unusedVariables false
set_option linter.unusedSimpArgs false
set_option linter.unusedSectionVars false

theorem unN_copy (d e : Den) : unN (copyD d) (copyD e) = unN d e := rfl
theorem widenD_copy (d : Den) (names) : widenD (copyD d) names = widenD d names := by
  rw [widenD, widenD, copyD_rows]; rfl
theorem joinV_copy (op : Int) (d e : Den) : joinV op (copyD d) (copyD e) = joinV op d e ∧ joinE op (copyD d) (copyD e) = joinE op d e := by
  constructor
  · rw [joinV, joinV, copyD_right, copyD_right, unN_copy, widenD_copy, widenD_copy]
  · rw [joinE, joinE, copyD_right, copyD_right, unN_copy, widenD_copy, widenD_copy]

end Tab

/- The language of what Join answers. -/
namespace Tab
open Go Go.Proofs
set_option maxRecDepth 10000
set_option linter.unusedVariables false
set_option linter.unusedSimpArgs false
set_option linter.unusedSectionVars false

theorem join_made {op : Int} {d e : Den} (h : joinE op d e = 0) : rightS d = true ∧ rightS e = true ∧ (3 ≤ op ∧ op ≤ 6) ∧ (unN d e).length ≤ 6 ∧ widenE d (unN d e) = 0 ∧ widenE e (unN d e) = 0 ∧ risesS (unN d e) = true ∧
    rightS (widenD d (unN d e)) = true ∧ rightS (widenD e (unN d e)) = true ∧ ∃ L, prdR (widenD d (unN d e)) (widenD e (unN d e)) = some L ∧ joinV op d e = prdM (holdsS op) (unN d e) (widenD d (unN d e)) (widenD e (unN d e)) L := by
  obtain ⟨h1, h2, h6⟩ := joinE_ok h
  have h' := h
  rw [joinE_made h1 h2 h6] at h'
  obtain ⟨hd, he⟩ := Bool.and_eq_true_iff.1 h1
  obtain ⟨L, hL⟩ := prd_zero h'
  have hu := unN_rises hd he
  obtain ⟨i1, i2⟩ := unN_in (d := d) (e := e)
  exact ⟨hd, he, h2, h6, widenE_ok hd hu h6 i1, widenE_ok he hu h6 i2, hu, widenD_right hd h6 hu, widenD_right he h6 hu, L, hL, joinV_ok h hL⟩
theorem join_right {op : Int} {d e : Den} (h : joinE op d e = 0) : rightS (joinV op d e) = true ∧ (joinV op d e).tracks = unN d e ∧
    lang (joinV op d e) = prodL (holdsS op) (unN d e).length (lang (widenD d (unN d e))) (lang (widenD e (unN d e))) := by
  obtain ⟨hd, he, h2, h6, w0, v0, hu, wr, vr, L, hL, hv⟩ := join_made h
  rw [hv]
  exact ⟨prd_right wr vr rfl hu rfl hL, rfl, prd_lang (hk := rfl) (hnk := rfl) (hL := hL)⟩
theorem join_sound {op : Int} {d e : Den} (h : joinE op d e = 0) (h1 : soundD d = true) (h2 : soundD e = true) : soundD (joinV op d e) = true := by
  obtain ⟨hd, he, _, h6, w0, v0, hu, wr, vr, L, hL, _⟩ := join_made h
  obtain ⟨g1, g2, g3⟩ := join_right h
  have s1 := wid_sound w0
  have s2 := wid_sound v0
  rw [widenR_ok w0, h1] at s1
  rw [widenR_ok v0, h2] at s2
  rw [soundD_iff wr] at s1
  rw [soundD_iff vr] at s2
  rw [soundD_iff g1, g2, g3]
  exact prodL_sound s1 s2
theorem join_nil {op : Int} {d e : Den} (h : joinE op d e = 0) : ∃ l, (joinV op d e).accept = false :: l := by
  obtain ⟨hd, he, _, h6, w0, v0, hu, wr, vr, L, hL, hv⟩ := join_made h
  obtain ⟨r, hr⟩ := expl_prefix (f := pf (widenD d (unN d e)) (widenD e (unN d e))) 300 0 [stP]
  rw [(explO_some hL).1] at hr
  rw [hv, prdM, hr]
  exact ⟨_, rfl⟩
theorem join_takes {op : Int} {d e : Den} (h : joinE op d e = 0) {w : List Nat} (hw : Lets (unN d e).length w) (hne : w ≠ []) : lang (joinV op d e) w = holdsS op (lang (widenD d (unN d e)) w) (lang (widenD e (unN d e)) w) := by
  obtain ⟨_, _, h3⟩ := join_right h
  rw [h3, prodL, letB_iff.2 hw]
  cases w with
  | nil => exact absurd rfl hne
  | cons a w => simp

end Tab

/- Laws of products: the canonical machines. -/
namespace Tab
open Go Go.Proofs
set_option maxRecDepth 10000
set_option linter.unusedVariables false
set_option linter.unusedSimpArgs false
set_option linter.unusedSectionVars false

/-- A language without the empty word, over k tracks. -/
def cutL (k : Nat) (K : Lang) : Lang := fun w => letB k w && (!w.isEmpty && K w)
theorem cutL_congr {k : Nat} {K J : Lang} (h : ∀ w, Lets k w → w ≠ [] → K w = J w) : cutL k K = cutL k J := by
  funext w
  rw [cutL, cutL]
  cases e : letB k w with
  | false => rfl
  | true =>
    cases w with
    | nil => rfl
    | cons a w => rw [h _ (letB_iff.1 e) (by simp)]
theorem cutL_at {k : Nat} {K : Lang} {w : List Nat} (h : Lets k w) (hne : w ≠ []) : cutL k K w = K w := by
  rw [cutL, letB_iff.2 h]
  cases w with
  | nil => exact absurd rfl hne
  | cons a w => simp

@[irreducible] def jV (op : Int) (d e : Den) : Den := if joinE op d e = 0 then minD (joinV op d e) else den0
@[irreducible] def nV (d : Den) : Den := if notE d = 0 then minD (notV d) else den0
def extL (U : List (List UInt8)) (x : Den) : Lang := lang (widenD x U)

def Can (v : Den) (U : List (List UInt8)) (K : Lang) : Prop := ∃ X, v = minD X ∧ rightS X = true ∧ X.tracks = U ∧ lang X = cutL U.length K
theorem Can.same {v v' : Den} {U : List (List UInt8)} {K K' : Lang} (h1 : Can v U K) (h2 : Can v' U K') (h : ∀ w, Lets U.length w → w ≠ [] → K w = K' w) : sameD v v' = true := by
  obtain ⟨X, rfl, a1, a2, a3⟩ := h1
  obtain ⟨Y, rfl, b1, b2, b3⟩ := h2
  exact minD_same a1 b1 (by rw [a2, b2]) (by rw [a3, b3]; exact cutL_congr h)
theorem Can.right {v : Den} {U : List (List UInt8)} {K : Lang} (h : Can v U K) : rightS v = true := by
  obtain ⟨X, rfl, a1, _⟩ := h; exact min_right a1
theorem Can.tracks {v : Den} {U : List (List UInt8)} {K : Lang} (h : Can v U K) : v.tracks = U := by
  obtain ⟨X, rfl, _, a2, _⟩ := h; exact a2
theorem Can.at {v : Den} {U : List (List UInt8)} {K : Lang} (h : Can v U K) {w : List Nat} (hw : Lets U.length w) (hne : w ≠ []) : lang v w = K w := by
  obtain ⟨X, rfl, a1, a2, a3⟩ := h
  rw [min_lang a1, a3, cutL_at hw hne]
theorem jV_can {op : Int} {d e : Den} (h : joinE op d e = 0) : Can (jV op d e) (unN d e) fun w => holdsS op (extL (unN d e) d w) (extL (unN d e) e w) := by
  obtain ⟨a1, a2, a3⟩ := join_right h
  exact ⟨joinV op d e, by rw [jV, if_pos h], a1, a2, a3⟩
theorem nV_can {d : Den} (h : notE d = 0) : Can (nV d) d.tracks fun w => !lang d w := by
  obtain ⟨a1, a2, a3⟩ := not_right h
  exact ⟨notV d, by rw [nV, if_pos h], a1, a2, a3⟩
theorem ext_at {x : Den} {U : List (List UInt8)} (h : widenE x U = 0) {w : List Nat} (hw : Lets U.length w) : extL U x w = lang x (w.map fun a => gatN a (placesOf x.tracks U)) := by
  have := wid_lang h hw
  rwa [widenR_ok h] at this
theorem ext_can {v : Den} {V U : List (List UInt8)} {K : Lang} (h : Can v V K) (hU : widenE v U = 0) {w : List Nat} (hw : Lets U.length w) (hne : w ≠ []) : extL U v w = K (w.map fun a => gatN a (placesOf V U)) := by
  have hl := lets_gat (n := U.length) (P := placesOf V U) w
  have hk := (wid_ok hU).len
  rw [h.tracks] at hk
  rw [hk] at hl
  rw [ext_at hU hw, h.tracks]
  exact h.at hl (by simpa using hne)
theorem ext_not {d : Den} {U : List (List UInt8)} (h : notE d = 0) (hU : widenE d U = 0) (hn : widenE (nV d) U = 0) {w : List Nat} (hw : Lets U.length w) (hne : w ≠ []) : extL U (nV d) w = !extL U d w := by
  rw [ext_can (nV_can h) hn hw hne, ext_at hU hw]
theorem ext_own {d : Den} (h : rightS d = true) : extL d.tracks d = lang d := by
  obtain ⟨_, h2, _⟩ := widenD_own h
  funext w
  rw [extL, lang, lang, langR, langR, h2]
  rfl
theorem ext_own' {v : Den} {U : List (List UInt8)} {K : Lang} (h : Can v U K) {w : List Nat} (hw : Lets U.length w) (hne : w ≠ []) : extL U v w = K w := by
  have h' := h.at hw hne
  have e := ext_own h.right
  rw [h.tracks] at e
  rw [e]; exact h'

theorem unN_comm (d e : Den) : unN d e = unN e d := strict_eq (tog_strict _) (tog_strict _) fun x => by rw [unN, unN, tog_mem, tog_mem, List.mem_append, List.mem_append]; exact or_comm
theorem unN_eq {d e : Den} {U V : List (List UInt8)} (h1 : d.tracks = U) (h2 : e.tracks = V) : unN d e = togS (U ++ V) := by rw [unN, h1, h2]
theorem tog_twice {U : List (List UInt8)} (h : Strict U) : togS (U ++ U) = U := strict_eq (tog_strict _) h fun x => by rw [tog_mem, List.mem_append, or_self]

section
variable {d e : Den}
theorem pl_comm {op : Int} (hc : ∀ a b, holdsS op a b = holdsS op b a) (h : joinE op d e = 0) (h' : joinE op e d = 0) : sameD (jV op d e) (jV op e d) = true := by
  have h2 := jV_can h'
  rw [unN_comm e d] at h2
  exact (jV_can h).same h2 fun w _ _ => hc _ _
theorem pl_morgan (h : joinE 3 d e = 0) (hl : notE d = 0) (hm : notE e = 0) (ha : notE (jV 3 d e) = 0) (hb : joinE 4 (nV d) (nV e) = 0) : sameD (nV (jV 3 d e)) (jV 4 (nV d) (nV e)) = true := by
  have c0 := jV_can h
  have c1 := nV_can ha
  rw [c0.tracks] at c1
  have c2 := jV_can hb
  obtain ⟨_, _, _, _, w0, v0, _⟩ := join_made h
  obtain ⟨_, _, _, _, p0, q0, _⟩ := join_made hb
  have hu : unN (nV d) (nV e) = unN d e := by rw [unN_eq (nV_can hl).tracks (nV_can hm).tracks, unN]
  rw [hu] at c2 p0 q0
  refine c1.same c2 fun w hw hne => ?_
  rw [c0.at hw hne, ext_not hl w0 p0 hw hne, ext_not hm v0 q0 hw hne]
  cases extL (unN d e) d w <;> cases extL (unN d e) e w <;> rfl
theorem pl_implies (h : joinE 5 d e = 0) (hl : notE d = 0) (hb : joinE 4 (nV d) e = 0) : sameD (jV 5 d e) (jV 4 (nV d) e) = true := by
  have c0 := jV_can h
  have c2 := jV_can hb
  obtain ⟨_, _, _, _, w0, v0, _⟩ := join_made h
  obtain ⟨_, _, _, _, p0, q0, _⟩ := join_made hb
  have hu : unN (nV d) e = unN d e := by rw [unN_eq (nV_can hl).tracks rfl, unN]
  rw [hu] at c2 p0 q0
  refine c0.same c2 fun w hw hne => ?_
  rw [ext_not hl w0 p0 hw hne]
  cases extL (unN d e) d w <;> cases extL (unN d e) e w <;> rfl
theorem pl_iff (h : joinE 6 d e = 0) (hj : joinE 5 d e = 0) (hk : joinE 5 e d = 0) (hb : joinE 3 (jV 5 d e) (jV 5 e d) = 0) : sameD (jV 6 d e) (jV 3 (jV 5 d e) (jV 5 e d)) = true := by
  have c0 := jV_can h
  have cj := jV_can hj
  have ck := jV_can hk
  have c2 := jV_can hb
  rw [unN_comm e d] at ck
  have hu : unN (jV 5 d e) (jV 5 e d) = unN d e := by rw [unN_eq cj.tracks ck.tracks]; exact tog_twice (tog_strict _)
  rw [hu] at c2
  refine c0.same c2 fun w hw hne => ?_
  rw [ext_own' cj hw hne, ext_own' ck hw hne]
  cases extL (unN d e) d w <;> cases extL (unN d e) e w <;> rfl
theorem pl_self (h : joinE 3 d d = 0) (hl : notE d = 0) (hb : notE (nV d) = 0) : sameD (jV 3 d d) (nV (nV d)) = true := by
  have c0 := jV_can h
  obtain ⟨hr, _, _, _, w0, _⟩ := join_made h
  obtain ⟨_, hs, _, _⟩ := tracksS_parts (rightS_parts hr).1
  have hu : unN d d = d.tracks := tog_twice (rises_strict hs)
  rw [hu] at c0
  have cl := nV_can hl
  have cb := nV_can hb
  rw [cl.tracks] at cb
  refine c0.same cb fun w hw hne => ?_
  rw [cl.at hw hne, ext_own hr]
  cases lang d w <;> rfl
end

theorem jV_den {op : Int} {d e : Den} (hd : DenOk d) (he : DenOk e) : DenOk (jV op d e) := by
  rw [jV]
  split
  · rename_i h; exact minD_ok (joinV_den hd he) (join_right h).1
  · exact den0_ok
theorem nV_den {d : Den} (hd : DenOk d) : DenOk (nV d) := by
  rw [nV]
  split
  · rename_i h; exact minD_ok (notV_den hd) (not_right h).1
  · exact den0_ok

end Tab

/- What two machines take together and what both take: counted. Plain. -/
namespace Tab
open Go
set_option maxRecDepth 10000
set_option linter.unusedVariables false
set_option linter.unusedSimpArgs false
set_option linter.unusedSectionVars false

def i1 (b : Bool) : Nat := if b = true then 1 else 0
/-- Four machines' states: of each further word as many of the first two take it as of the last two. -/
def Same4 (g h x y : Gr) (p q r s : Nat) : Prop := ∀ w : List Nat, w ≠ [] → (∀ a ∈ w, a < g.K) → i1 (g.ac (w.foldl g.st p)) + i1 (h.ac (w.foldl h.st q)) = i1 (x.ac (w.foldl x.st r)) + i1 (y.ac (w.foldl y.st s))
section
variable {g h x y : Gr}
theorem Same4.step {p q r s a : Nat} (k : Same4 g h x y p q r s) (ha : a < g.K) : Same4 g h x y (g.st p a) (h.st q a) (x.st r a) (y.st s a) ∧ i1 (g.ac (g.st p a)) + i1 (h.ac (h.st q a)) = i1 (x.ac (x.st r a)) + i1 (y.ac (y.st s a)) := by
  refine ⟨fun w hw hl => ?_, ?_⟩
  · exact k (a :: w) (by simp) fun b hb => by
      rcases List.mem_cons.1 hb with rfl | hb
      · exact ha
      · exact hl b hb
  · exact k [a] (by simp) fun b hb => by rw [List.mem_singleton.1 hb]; exact ha
theorem Same4.yesTo {p q r s : Nat} (k : Same4 g h x y p q r s) : ∀ j, j ≤ g.K → yesTo g p j + yesTo h q j = yesTo x r j + yesTo y s j
  | 0, _ => rfl
  | j + 1, hj => by
    have h1 := Same4.yesTo k j (by omega)
    have h2 := (k.step (a := j) (by omega)).2
    simp only [i1] at h2
    rw [yesTo_succ, yesTo_succ, yesTo_succ, yesTo_succ]
    omega
theorem endsN_add (g : Gr) {q a : Nat} (ha : a < g.K) : endsN g q a + i1 (g.ac (g.st q a)) = yesN g q := by
  rw [endsN, i1]
  split
  · rename_i h
    have := yes_pos g ha h
    omega
  · omega
theorem Same4.yesN {p q r s : Nat} (k : Same4 g h x y p q r s) (eh : h.K = g.K) (ex : x.K = g.K) (ey : y.K = g.K) : yesN g p + yesN h q = yesN x r + yesN y s := by
  have := k.yesTo g.K (Nat.le_refl _)
  rw [Tab.yesN, Tab.yesN, Tab.yesN, Tab.yesN, eh, ex, ey]
  exact this
theorem Same4.endsN {p q r s a : Nat} (k : Same4 g h x y p q r s) (eh : h.K = g.K) (ex : x.K = g.K) (ey : y.K = g.K) (ha : a < g.K) : endsN g p a + endsN h q a = endsN x r a + endsN y s a := by
  have h1 := k.yesN eh ex ey
  have h2 := (k.step ha).2
  have e1 := endsN_add g (q := p) ha
  have e2 := endsN_add h (q := q) (a := a) (by omega)
  have e3 := endsN_add x (q := r) (a := a) (by omega)
  have e4 := endsN_add y (q := s) (a := a) (by omega)
  omega
theorem Same4.wordsN (eh : h.K = g.K) (ex : x.K = g.K) (ey : y.K = g.K) : ∀ (n : Nat) {p q r s : Nat}, Same4 g h x y p q r s → wordsN g n p + wordsN h n q = wordsN x n r + wordsN y n s
  | 0, p, q, r, s, k => by
    rw [Tab.wordsN, Tab.wordsN, Tab.wordsN, Tab.wordsN, eh, ex, ey, ← sumTo_add, ← sumTo_add]
    exact sumTo_congr fun a ha => (k.step ha).1.endsN eh ex ey ha
  | n + 1, p, q, r, s, k => by
    rw [Tab.wordsN, Tab.wordsN, Tab.wordsN, Tab.wordsN, eh, ex, ey, ← sumTo_add, ← sumTo_add]
    exact sumTo_congr fun a ha => Same4.wordsN eh ex ey n (k.step ha).1
theorem Same4.upto (eh : h.K = g.K) (ex : x.K = g.K) (ey : y.K = g.K) (k : Same4 g h x y 0 0 0 0) (n : Nat) : uptoN g n + uptoN h n = uptoN x n + uptoN y n := by
  have h1 := k.yesN eh ex ey
  have h2 : ∀ m, sumTo (fun j => Tab.wordsN g j 0) m + sumTo (fun j => Tab.wordsN h j 0) m = sumTo (fun j => Tab.wordsN x j 0) m + sumTo (fun j => Tab.wordsN y j 0) m := fun m => by
    rw [← sumTo_add, ← sumTo_add]
    exact sumTo_congr fun a _ => Same4.wordsN eh ex ey a k
  have h3 := h2 (n - 1)
  simp only [uptoN]
  omega
end

end Tab

/- tabardlaw20.joined, as a value. -/
namespace Tab
open Go Go.Proofs
set_option maxRecDepth 10000
set_option linter.unusedVariables false
set_option linter.unusedSimpArgs false
set_option linter.unusedSectionVars false

@[irreducible] def jdB (op : Int) (a b : Aut) : Bool := checkS a && checkS b && decide (joinE op (unpD a) (unpD b) = 0) && decide (packE (joinV op (unpD a) (unpD b)) = 0)
@[irreducible] def jdT (op : Int) (a b : Aut) : Aut := if checkS a = true ∧ checkS b = true ∧ joinE op (unpD a) (unpD b) = 0 then packV (joinV op (unpD a) (unpD b)) else aut0
theorem jd_bad {op a b} (h : ¬ (checkS a = true ∧ checkS b = true ∧ joinE op (unpD a) (unpD b) = 0)) : jdB op a b = false ∧ jdT op a b = aut0 := by
  rw [jdB, jdT, if_neg h]
  refine ⟨?_, rfl⟩
  rw [← Bool.not_eq_true]
  simp only [Bool.and_eq_true, decide_eq_true_eq]
  exact fun ⟨⟨⟨h1, h2⟩, h3⟩, _⟩ => h ⟨h1, h2, h3⟩
theorem jd_ok {op a b} (h1 : checkS a = true) (h2 : checkS b = true) (h3 : joinE op (unpD a) (unpD b) = 0) : jdB op a b = decide (packE (joinV op (unpD a) (unpD b)) = 0) ∧ jdT op a b = packV (joinV op (unpD a) (unpD b)) := by
  rw [jdB, jdT, if_pos ⟨h1, h2, h3⟩, h1, h2, decide_eq_true h3]
  exact ⟨rfl, rfl⟩
theorem jd_parts {op a b} (h : jdB op a b = true) : checkS a = true ∧ checkS b = true ∧ joinE op (unpD a) (unpD b) = 0 ∧ packE (joinV op (unpD a) (unpD b)) = 0 ∧ jdT op a b = packA (joinV op (unpD a) (unpD b)) := by
  have h' := h
  rw [jdB] at h
  simp only [Bool.and_eq_true, decide_eq_true_eq] at h
  obtain ⟨⟨⟨h1, h2⟩, h3⟩, h4⟩ := h
  obtain ⟨h5, h6⟩ := packE_zero h4
  exact ⟨h1, h2, h3, h4, by rw [(jd_ok h1 h2 h3).2, (packE_ok h5 h6).2]⟩

theorem unp_den {a : Aut} (ha : AutOk a) : DenOk (unpD a) := by
  rw [unpD]
  split
  · rename_i h
    obtain ⟨hr, _, _⟩ := unpD_right h
    rw [unpD_ok h] at hr
    obtain ⟨k6, _, _, k256⟩ := tracksS_parts (rightS_parts hr).1
    have hp : 2 ^ a.tracks.length ≤ 2 ^ 6 := Nat.pow_le_pow_right (by omega) k6
    refine ⟨ha.tracks, ha.names, ha.accept, ?_, fun r hr => ?_⟩
    · simp only [List.length_map, List.length_range]
      have : (a.accept.length : Int) ≤ 256 := k256
      omega
    · simp only [Den.rows, List.map_map, List.mem_map, List.mem_range] at hr
      obtain ⟨q, _, rfl⟩ := hr
      simp only [Function.comp_apply, rowC_length]
      omega
  · exact den0_ok
theorem jd_walk1 (op : Int) (a b a' b' : Aut) (d f : Den) (e e' : Int) (hca : Pure Try.prog 11 [aAut a] (aAut a')) (hcb : Pure Try.prog 11 [aAut b] (aAut b'))
    (hua : Pure Try.prog 31 [aAut a'] (.tup [aDen d, .int .i64 e])) (hub : Pure Try.prog 31 [aAut b'] (.tup [aDen f, .int .i64 e'])) (h : (e = 3 ∧ True) ∨ (e = 0 ∧ e' = 3)) : Pure Try.prog 34 [.int .i64 op, aAut a, aAut b] (.tup [aAut aut0, .bool false]) := by
  rcases h with ⟨rfl, _⟩ | ⟨rfl, rfl⟩
  · refine Pure.of_sw 51 Try.func34 rfl Try.ntmps34 (by kernel_rfl) (Nat.le_of_ble_eq_true (by kernel_rfl)) (by simp [closeds, AV.closed, aSs_closed, aIs_closed, aBs_closed, aRs_closed, aDen_closed, aCs_closed, aAut_closed]) (by simp [AV.closed, closeds, aSs_closed, aIs_closed, aBs_closed, aRs_closed, aDen_closed, aCs_closed, aAut_closed]) ?_; refine SW.of_vc ?_
    repeat first | refine opsStep ?_ | refine codeStep ?_ | refine drawStep ?_
    refine callP hca ?_
    repeat first | refine opsStep ?_ | refine codeStep ?_ | refine drawStep ?_
    refine callP hua ?_
    repeat first | refine opsStep ?_ | refine codeStep ?_ | refine drawStep ?_
    refine callP hcb ?_
    repeat first | refine opsStep ?_ | refine codeStep ?_ | refine drawStep ?_
    refine callP hub ?_
    repeat first | refine opsStep ?_ | refine codeStep ?_ | refine drawStep ?_
    exact finV (v' := .tup [aAut aut0, .bool false]) (by kernel_rfl) rfl
  · refine Pure.of_sw 51 Try.func34 rfl Try.ntmps34 (by kernel_rfl) (Nat.le_of_ble_eq_true (by kernel_rfl)) (by simp [closeds, AV.closed, aSs_closed, aIs_closed, aBs_closed, aRs_closed, aDen_closed, aCs_closed, aAut_closed]) (by simp [AV.closed, closeds, aSs_closed, aIs_closed, aBs_closed, aRs_closed, aDen_closed, aCs_closed, aAut_closed]) ?_; refine SW.of_vc ?_
    repeat first | refine opsStep ?_ | refine codeStep ?_ | refine drawStep ?_
    refine callP hca ?_
    repeat first | refine opsStep ?_ | refine codeStep ?_ | refine drawStep ?_
    refine callP hua ?_
    repeat first | refine opsStep ?_ | refine codeStep ?_ | refine drawStep ?_
    refine callP hcb ?_
    repeat first | refine opsStep ?_ | refine codeStep ?_ | refine drawStep ?_
    refine callP hub ?_
    repeat first | refine opsStep ?_ | refine codeStep ?_ | refine drawStep ?_
    exact finV (v' := .tup [aAut aut0, .bool false]) (by kernel_rfl) rfl
theorem jd_walk2 (op : Int) (a b a' b' : Aut) (d f m : Den) (pv T : Aut) (B : Bool) (z pe : Int) (hca : Pure Try.prog 11 [aAut a] (aAut a')) (hcb : Pure Try.prog 11 [aAut b] (aAut b'))
    (hua : Pure Try.prog 31 [aAut a'] (.tup [aDen d, .int .i64 0])) (hub : Pure Try.prog 31 [aAut b'] (.tup [aDen f, .int .i64 0])) (hj : Pure Try.prog 79 [.int .i64 op, aDen d, aDen f] (.tup [aDen m, .int .i64 z])) (hp : Pure Try.prog 80 [aDen m] (.tup [aAut pv, .int .i64 pe]))
    (hno : z ≠ 0 → B = false ∧ T = aut0) (hyes : z = 0 → B = decide (pe = 0) ∧ T = pv) : Pure Try.prog 34 [.int .i64 op, aAut a, aAut b] (.tup [aAut T, .bool B]) := by
  refine Pure.of_sw 51 Try.func34 rfl Try.ntmps34 (by kernel_rfl) (Nat.le_of_ble_eq_true (by kernel_rfl)) (by simp [closeds, AV.closed, aSs_closed, aIs_closed, aBs_closed, aRs_closed, aDen_closed, aCs_closed, aAut_closed]) (by simp [AV.closed, closeds, aSs_closed, aIs_closed, aBs_closed, aRs_closed, aDen_closed, aCs_closed, aAut_closed]) ?_; refine SW.of_vc ?_
  repeat first | refine opsStep ?_ | refine codeStep ?_ | refine drawStep ?_
  refine callP hca ?_
  repeat first | refine opsStep ?_ | refine codeStep ?_ | refine drawStep ?_
  refine callP hua ?_
  repeat first | refine opsStep ?_ | refine codeStep ?_ | refine drawStep ?_
  refine callP hcb ?_
  repeat first | refine opsStep ?_ | refine codeStep ?_ | refine drawStep ?_
  refine callP hub ?_
  repeat first | refine opsStep ?_ | refine codeStep ?_ | refine drawStep ?_
  refine callP hj ?_
  repeat first | refine opsStep ?_ | refine codeStep ?_ | refine drawStep ?_
  refine decB_dec (fun hz => ?_) (fun hz => ?_)
  · have hz' : z ≠ 0 := hz
    have e1 := (hno hz').1
    have e2 := (hno hz').2
    refine VCode.ent (Ent.fr' (l := [(6, .ref 2 0 0)]) (H' := [.cells 0 a.cells, .cells 0 b.cells, .cells 0 aut0.cells, .cells 0 d.cells, .cells 0 f.cells, .cells 0 m.cells]) ⟨(by kernel_rfl), trivial⟩ (by kernel_rfl)) ?_
    repeat first | refine opsStep ?_ | refine codeStep ?_ | refine drawStep ?_
    exact finV (v' := .tup [aAut aut0, .bool false]) (by kernel_rfl) (by rw [e1, e2])
  · have hz' : z = 0 := Decidable.of_not_not hz
    have e1 := (hyes hz').1
    have e2 := (hyes hz').2
    refine VCode.ent (Ent.fr' (l := [(6, .ref 2 0 0), (12, .ref 5 0 0)]) (H' := [.cells 0 a.cells, .cells 0 b.cells, .cells 0 aut0.cells, .cells 0 d.cells, .cells 0 f.cells, .cells 0 m.cells]) ⟨(by kernel_rfl), (by kernel_rfl), trivial⟩ (by kernel_rfl)) ?_
    repeat first | refine opsStep ?_ | refine codeStep ?_ | refine drawStep ?_
    refine callP hp ?_
    repeat first | refine opsStep ?_ | refine codeStep ?_ | refine drawStep ?_
    exact finV (v' := .tup [aAut pv, .bool (decide (pe = 0))]) (by kernel_rfl) (by rw [e1, e2])
theorem law20_joined (op : Int) (a b : Aut) (ha : AutOk a) (hb : AutOk b) : Pure Try.prog 34 [.int .i64 op, aAut a, aAut b] (.tup [aAut (jdT op a b), .bool (jdB op a b)]) := by
  have hca := r12_Copy a ha
  have hcb := r12_Copy b hb
  have hua := table_Unpack (copyA a) (copyA_ok ha)
  have hub := table_Unpack (copyA b) (copyA_ok hb)
  rw [(copyA_unp a).1, (copyA_unp a).2] at hua
  rw [(copyA_unp b).1, (copyA_unp b).2] at hub
  cases h1 : checkS a with
  | false =>
    rw [(jd_bad (op := op) (a := a) (b := b) (by rw [h1]; simp)).1, (jd_bad (op := op) (a := a) (b := b) (by rw [h1]; simp)).2]
    exact jd_walk1 op a b _ _ _ _ _ _ hca hcb hua hub (.inl ⟨unpE_bad h1, trivial⟩)
  | true =>
    cases h2 : checkS b with
    | false =>
      rw [(jd_bad (op := op) (a := a) (b := b) (by rw [h2]; simp)).1, (jd_bad (op := op) (a := a) (b := b) (by rw [h2]; simp)).2]
      exact jd_walk1 op a b _ _ _ _ _ _ hca hcb hua hub (.inr ⟨unpE_zero.2 h1, unpE_bad h2⟩)
    | true =>
      rw [unpE_zero.2 h1] at hua
      rw [unpE_zero.2 h2] at hub
      exact jd_walk2 op a b _ _ _ _ _ _ _ _ _ _ hca hcb hua hub (prod_JoinV op (unpD a) (unpD b) (unp_den ha) (unp_den hb)) (table_Pack _ (joinV_den (unp_den ha) (unp_den hb)))
        (fun h => jd_bad fun k => h k.2.2) (fun h => jd_ok h1 h2 h)

end Tab

/- chk.Add, count.sum, count.capped. -/
namespace Tab
open Go Go.Proofs
set_option maxRecDepth 10000
set_option linter.unusedVariables false
set_option linter.unusedSimpArgs false
set_option linter.unusedSectionVars false

def addE (a b : Int) : Int := if -9223372036854775808 ≤ a + b ∧ a + b < 9223372036854775808 then 0 else 10
def addV (a b : Int) : Int := if -9223372036854775808 ≤ a + b ∧ a + b < 9223372036854775808 then a + b else 0
abbrev in63 (a : Int) : Prop := -9223372036854775808 ≤ a ∧ a < 9223372036854775808
theorem add_fit {a b : Int} (h : in63 (a + b)) : addV a b = IntKind.wrap .i64 (a + b) ∧ addE a b = 0 := by
  rw [addV, addE, if_pos h, if_pos h, IntWalk.i64_in _ (by omega)]; exact ⟨rfl, rfl⟩
theorem add_bad {a b : Int} (h : ¬ in63 (a + b)) : addV a b = 0 ∧ addE a b = 10 := by
  rw [addV, addE, if_neg h, if_neg h]; exact ⟨rfl, rfl⟩
theorem add_out {a b : Int} (ha : in63 a) (hb : in63 b) (h : ¬ in63 (a + b)) : ((0 ≤ a) ↔ (0 ≤ b)) ∧ (0 ≤ IntKind.wrap .i64 (a + b) ↔ ¬ 0 ≤ a) := by
  rw [IntKind.wrap_i64]; omega
theorem add_in {a b : Int} (ha : in63 a) (hb : in63 b) (h1 : (0 ≤ a) ↔ (0 ≤ b)) (h : in63 (a + b)) : (0 ≤ IntKind.wrap .i64 (a + b) ↔ 0 ≤ a) := by
  rw [IntWalk.i64_in _ (by omega)]; omega
theorem chk_Add (a b : Int) (ha : in63 a) (hb : in63 b) :
    Pure Try.prog 95 [.int .i64 a, .int .i64 b] (.tup [.int .i64 (addV a b), .int .i64 (addE a b)]) := by
  have hin := add_in ha hb
  have hout := add_out ha hb
  have hfit := add_fit (a := a) (b := b)
  have hbad := add_bad (a := a) (b := b)
  generalize addV a b = v at *
  generalize addE a b = e at *
  refine Pure.of_sw 23 Try.func95 rfl Try.ntmps95 (by kernel_rfl) (Nat.le_of_ble_eq_true (by kernel_rfl)) (by simp [closeds, AV.closed, aSs_closed, aIs_closed, aBs_closed, aRs_closed, aDen_closed]) (by simp [AV.closed, closeds, aSs_closed, aIs_closed, aBs_closed, aRs_closed, aDen_closed]) ?_; refine SW.of_vc ?_
  by_cases h1 : (0 ≤ a) ↔ (0 ≤ b)
  · repeat first | refine opsStep ?_ | refine codeStep ?_ | refine drawStep ?_
    refine decB_true (b := (decide (a ≥ 0) == decide (b ≥ 0))) (by rw [beq_iff_eq]; exact decide_eq_decide.2 h1) ?_
    by_cases h2 : in63 (a + b)
    · have h3 := hin h1 h2
      obtain ⟨rfl, rfl⟩ := hfit h2
      repeat first | refine opsStep ?_ | refine codeStep ?_ | refine drawStep ?_
      refine decB_false (b := !(decide (IntKind.wrap .i64 (a + b) ≥ 0) == decide (a ≥ 0))) (by by_cases h4 : 0 ≤ a <;> simp [h3, h4]) ?_
      repeat first | refine opsStep ?_ | refine codeStep ?_ | refine drawStep ?_
      exact finV (v' := .tup [.int .i64 (IntKind.wrap .i64 (a + b)), .int .i64 0]) (by kernel_rfl) rfl
    · have h3 := (hout h2).2
      obtain ⟨rfl, rfl⟩ := hbad h2
      repeat first | refine opsStep ?_ | refine codeStep ?_ | refine drawStep ?_
      refine decB_true (b := !(decide (IntKind.wrap .i64 (a + b) ≥ 0) == decide (a ≥ 0))) (by by_cases h4 : 0 ≤ a <;> simp [h3, h4]) ?_
      repeat first | refine opsStep ?_ | refine codeStep ?_ | refine drawStep ?_
      exact finV (v' := .tup [.int .i64 0, .int .i64 10]) (by kernel_rfl) rfl
  · have h2 : in63 (a + b) := by
      refine Decidable.byContradiction fun h => h1 (hout h).1
    obtain ⟨rfl, rfl⟩ := hfit h2
    repeat first | refine opsStep ?_ | refine codeStep ?_ | refine drawStep ?_
    refine decB_false (b := (decide (a ≥ 0) == decide (b ≥ 0))) (by rw [beq_eq_false_iff_ne]; exact fun h => h1 (decide_eq_decide.1 h)) ?_
    repeat first | refine opsStep ?_ | refine codeStep ?_ | refine drawStep ?_
    exact finV (v' := .tup [.int .i64 (IntKind.wrap .i64 (a + b)), .int .i64 0]) (by kernel_rfl) rfl

/-- A number of 63 bits, or -1 where it is wider. -/
def capV (n : Nat) : Int := if n < 9223372036854775808 then n else -1
theorem capV_in (n) : in63 (capV n) := by rw [capV]; split <;> omega
theorem capV_fit {n : Nat} (h : n < 9223372036854775808) : capV n = n := if_pos h
theorem capV_wide {n : Nat} (h : ¬ n < 9223372036854775808) : capV n = -1 := if_neg h
theorem count_capped (m n : Nat) : Pure Try.prog 54 [.int .i64 (capV m), .int .i64 (capV n)] (.int .i64 (capV (m + n))) := by
  have had := chk_Add (capV m) (capV n) (capV_in m) (capV_in n)
  by_cases h1 : m < 9223372036854775808
  · by_cases h2 : n < 9223372036854775808
    · rw [capV_fit h1, capV_fit h2] at had
      rw [capV_fit h1, capV_fit h2]
      by_cases h3 : m + n < 9223372036854775808
      · rw [(add_fit (show in63 ((m : Int) + n) by omega)).1, (add_fit (show in63 ((m : Int) + n) by omega)).2, IntWalk.i64_in _ (by omega)] at had
        rw [capV_fit h3]
        refine Pure.of_sw 24 Try.func54 rfl Try.ntmps54 (by kernel_rfl) (Nat.le_of_ble_eq_true (by kernel_rfl)) (by simp [closeds, AV.closed, aSs_closed, aIs_closed, aBs_closed, aRs_closed, aDen_closed]) (by simp [AV.closed, closeds, aSs_closed, aIs_closed, aBs_closed, aRs_closed, aDen_closed]) ?_; refine SW.of_vc ?_
        repeat first | refine opsStep ?_ | refine codeStep ?_ | refine drawStep ?_
        refine callP had ?_
        repeat first | refine opsStep ?_ | refine codeStep ?_ | refine drawStep ?_
        exact finV (v' := .int .i64 ((m : Int) + n)) (by kernel_rfl) (by rw [Int.natCast_add])
      · rw [(add_bad (show ¬ in63 ((m : Int) + n) by omega)).1, (add_bad (show ¬ in63 ((m : Int) + n) by omega)).2] at had
        rw [capV_wide h3]
        refine Pure.of_sw 24 Try.func54 rfl Try.ntmps54 (by kernel_rfl) (Nat.le_of_ble_eq_true (by kernel_rfl)) (by simp [closeds, AV.closed, aSs_closed, aIs_closed, aBs_closed, aRs_closed, aDen_closed]) (by simp [AV.closed, closeds, aSs_closed, aIs_closed, aBs_closed, aRs_closed, aDen_closed]) ?_; refine SW.of_vc ?_
        repeat first | refine opsStep ?_ | refine codeStep ?_ | refine drawStep ?_
        refine callP had ?_
        repeat first | refine opsStep ?_ | refine codeStep ?_ | refine drawStep ?_
        exact finV (v' := .int .i64 (-1)) (by kernel_rfl) rfl
    · rw [capV_fit h1, capV_wide h2] at had
      rw [capV_fit h1, capV_wide h2, capV_wide (n := m + n) (by omega)]
      generalize addV m (-1) = v at *
      generalize addE m (-1) = e at *
      refine Pure.of_sw 24 Try.func54 rfl Try.ntmps54 (by kernel_rfl) (Nat.le_of_ble_eq_true (by kernel_rfl)) (by simp [closeds, AV.closed, aSs_closed, aIs_closed, aBs_closed, aRs_closed, aDen_closed]) (by simp [AV.closed, closeds, aSs_closed, aIs_closed, aBs_closed, aRs_closed, aDen_closed]) ?_; refine SW.of_vc ?_
      repeat first | refine opsStep ?_ | refine codeStep ?_ | refine drawStep ?_
      refine callP had ?_
      repeat first | refine opsStep ?_ | refine codeStep ?_ | refine drawStep ?_
      exact finV (v' := .int .i64 (-1)) (by kernel_rfl) rfl
  · rw [capV_wide h1] at had
    rw [capV_wide h1, capV_wide (n := m + n) (by omega)]
    generalize addV (-1) (capV n) = v at *
    generalize addE (-1) (capV n) = e at *
    generalize capV n = c at *
    refine Pure.of_sw 24 Try.func54 rfl Try.ntmps54 (by kernel_rfl) (Nat.le_of_ble_eq_true (by kernel_rfl)) (by simp [closeds, AV.closed, aSs_closed, aIs_closed, aBs_closed, aRs_closed, aDen_closed]) (by simp [AV.closed, closeds, aSs_closed, aIs_closed, aBs_closed, aRs_closed, aDen_closed]) ?_; refine SW.of_vc ?_
    repeat first | refine opsStep ?_ | refine codeStep ?_ | refine drawStep ?_
    refine callP had ?_
    repeat first | refine opsStep ?_ | refine codeStep ?_ | refine drawStep ?_
    exact finV (v' := .int .i64 (-1)) (by kernel_rfl) rfl

theorem count_sum (m n : Nat) (h : m + n < 9223372036854775808) : Pure Try.prog 84 [.int .i64 (m : Nat), .int .i64 (n : Nat)] (.int .i64 (m + n : Nat)) := by
  have had := chk_Add (m : Nat) (n : Nat) ⟨by omega, by omega⟩ ⟨by omega, by omega⟩
  rw [(add_fit (show in63 ((m : Int) + n) by omega)).1, (add_fit (show in63 ((m : Int) + n) by omega)).2, IntWalk.i64_in _ (by omega), ← Int.natCast_add] at had
  generalize m + n = s at *
  refine Pure.of_sw 18 Try.func84 rfl Try.ntmps84 (by kernel_rfl) (Nat.le_of_ble_eq_true (by kernel_rfl)) (by simp [closeds, AV.closed, aSs_closed, aIs_closed, aBs_closed, aRs_closed, aDen_closed]) (by simp [AV.closed, closeds, aSs_closed, aIs_closed, aBs_closed, aRs_closed, aDen_closed]) ?_; refine SW.of_vc ?_
  repeat first | refine opsStep ?_ | refine codeStep ?_ | refine drawStep ?_
  refine callP had ?_
  repeat first | refine opsStep ?_ | refine codeStep ?_ | refine drawStep ?_
  exact finV (v' := .int .i64 (s : Nat)) (by kernel_rfl) rfl
theorem count_sumPan (m n : Nat) (hm : m < 9223372036854775808) (hn : n < 9223372036854775808) (h : ¬ m + n < 9223372036854775808) (H : List Blk) :
    ACall Try.prog 84 [.int .i64 (m : Nat), .int .i64 (n : Nat)] H (fun o H' => o = .pan ∧ H' = H) := by
  have had := chk_Add (m : Nat) (n : Nat) ⟨by omega, by omega⟩ ⟨by omega, by omega⟩
  rw [(add_bad (show ¬ in63 ((m : Int) + n) by omega)).1, (add_bad (show ¬ in63 ((m : Int) + n) by omega)).2] at had
  refine ACall.of_sw 18 Try.func84 rfl Try.ntmps84 (by kernel_rfl) (Nat.le_of_ble_eq_true (by kernel_rfl)) ?_; refine SW.of_vc ?_
  repeat first | refine opsStep ?_ | refine codeStep ?_ | refine drawStep ?_
  refine callP had ?_
  repeat first | refine opsStep ?_ | refine codeStep ?_ | refine drawStep ?_
  exact ⟨_, _, Ent.refl _ _ _, rfl, rfl⟩

end Tab

/- count: ends, made, spread. -/
namespace Tab
open Go Go.Proofs
set_option maxRecDepth 10000
set_option linter.unusedVariables false
set_option linter.unusedSimpArgs false
set_option linter.unusedSectionVars false

theorem gr_row {d : Den} (hd : rightS d = true) {q : Nat} (hq : q < (grD d).n) : ∃ r, d.next[q]? = some r ∧ q < d.next.length ∧ r.2.length = (grD d).K ∧ ∀ a, a < (grD d).K → r.2[a]? = some ((grD d).st q a : Int) ∧ (grD d).st q a < (grD d).n := by
  obtain ⟨s1, _⟩ := stepN_ok hd hq (show 0 < 2 ^ d.tracks.length from Nat.two_pow_pos _)
  refine ⟨_, List.getElem?_eq_getElem s1, s1, (rowOk_parts ((rightS_parts hd).2.2 _ (List.getElem_mem s1))).1, fun a ha => ?_⟩
  obtain ⟨_, a1, a2, a3⟩ := stepN_ok hd hq ha
  exact ⟨by rw [List.getElem?_eq_getElem a1, a2]; rfl, a3⟩
theorem gr_acc {d : Den} {c : Nat} (h : c < (grD d).n) : d.accept[c]? = some ((grD d).ac c) := by
  show _ = some (accN d.accept c)
  rw [accN, List.getD_eq_getElem?_getD, List.getElem?_eq_getElem h]; rfl
def yL (g : Gr) (k : Nat) : List AV := (List.range k).map fun q => .int .i64 (yesN g q : Nat)
theorem yL_length (g k) : (yL g k).length = k := by simp [yL]
theorem yL_get {g : Gr} {k q : Nat} (h : q < k) : (yL g k)[q]? = some (.int .i64 (yesN g q : Nat)) := by simp [yL, h]
theorem yL_snoc (g k) : yL g (k + 1) = yL g k ++ [.int .i64 (yesN g k : Nat)] := by simp [yL, List.range_succ]
theorem yL_bel (m g k) : bels m (yL g k) := by rw [yL, bels_map]; intro x _; trivial
theorem yL_closed (g k) : closeds (yL g k) := by
  rw [closeds_iff]; intro a ha; obtain ⟨r, _, rfl⟩ := List.mem_map.1 ha; trivial
/-- The counter's cells. -/
def cnC (d : Den) (lv kn : AV) : Blk := .cells 0 (d.cells ++ [.sl .any (grD d).n (yL (grD d) (grD d).n), lv, kn])

theorem count_ends (d : Den) (hd : rightS d = true) (q a : Nat) (hq : q < (grD d).n) (ha : a < (grD d).K) (lv kn : AV) (X : List Blk) :
    ACall Try.prog 53 [.ref 0 0 0, .int .i64 (q : Nat), .int .i64 (a : Nat)] (cnC d lv kn :: X) (fun o H' => o = .ret (.int .i64 (endsN (grD d) q a : Nat)) ∧ H' = cnC d lv kn :: X) := by
  obtain ⟨r, g1, g2, g3, g4⟩ := gr_row hd hq
  obtain ⟨h1, h2⟩ := g4 a ha
  have h3 := gr_acc h2
  have h4 := (List.getElem?_eq_some_iff.1 h3).1
  have hy := yL_get (g := grD d) hq
  have hyl := yL_length (grD d) (grD d).n
  have hyk : yesN (grD d) q ≤ 64 := Nat.le_trans (yesTo_le _ _ _) (grD_ok hd).let'
  have hyp := yes_pos (grD d) (q := q) ha
  rw [endsN, cnC]
  generalize yesN (grD d) q = y at *
  generalize yL (grD d) (grD d).n = Y at *
  generalize hs : (grD d).st q a = c at *
  have hal : a < r.2.length := by omega
  refine ACall.of_sw 40 Try.func53 rfl Try.ntmps53 (by kernel_rfl) (Nat.le_of_ble_eq_true (by kernel_rfl)) ?_; refine SW.of_vc ?_
  repeat first | refine opsStep ?_ | refine codeStep ?_ | refine drawStep ?_
  refine SW.drawn rfl (by kernel_rfl) ?_
  repeat first | refine opsStep ?_ | refine codeStep ?_ | refine drawStep ?_
  refine guardE_of (by simp; omega) ?_
  repeat first | refine opsStep ?_ | refine codeStep ?_ | refine drawStep ?_
  refine optE_of (c := aIs r.1 r.2) (by simp [Value.cells, g1]) ?_
  repeat first | refine opsStep ?_ | refine codeStep ?_ | refine drawStep ?_
  refine guardE_of (by simp; omega) ?_
  repeat first | refine opsStep ?_ | refine codeStep ?_ | refine drawStep ?_
  refine optE_of (c := .int .i64 (c : Nat)) (by simp [Value.cells, h1]) ?_
  repeat first | refine opsStep ?_ | refine codeStep ?_ | refine drawStep ?_
  refine guardE_of (by simp; omega) ?_
  repeat first | refine opsStep ?_ | refine codeStep ?_ | refine drawStep ?_
  refine optE_of (c := .bool ((grD d).ac c)) (by simp [Value.cells, h3]) ?_
  repeat first | refine opsStep ?_ | refine codeStep ?_ | refine drawStep ?_
  refine ⟨by kernel_rfl, ?_⟩
  cases hc : (grD d).ac c with
  | true =>
    have hyp := hyp hc
    repeat first | refine opsStep ?_ | refine codeStep ?_ | refine drawStep ?_
    refine guardE_of (by simp; omega) ?_
    repeat first | refine opsStep ?_ | refine codeStep ?_ | refine drawStep ?_
    refine optE_of (c := .int .i64 (y : Nat)) (by simpa [Value.cells] using hy) ?_
    repeat first | refine opsStep ?_ | refine codeStep ?_ | refine drawStep ?_
    exact finR (l := [(6, .int .i64 (IntKind.wrap .i64 ((y : Int) - 1)))]) (v := .int .i64 (y - 1 : Nat)) ⟨(by kernel_rfl), trivial⟩ (by kernel_rfl) (Ent.refl _ _ _) (Eq.trans (b := some (.int .i64 (IntKind.wrap .i64 ((y : Int) - 1)))) (by kernel_rfl) (by rw [dec_slot (i := y) hyp (by omega)])) ⟨by rw [if_pos rfl], rfl⟩
  | false =>
    repeat first | refine opsStep ?_ | refine codeStep ?_ | refine drawStep ?_
    refine guardE_of (by simp; omega) ?_
    repeat first | refine opsStep ?_ | refine codeStep ?_ | refine drawStep ?_
    refine optE_of (c := .int .i64 (y : Nat)) (by simpa [Value.cells] using hy) ?_
    repeat first | refine opsStep ?_ | refine codeStep ?_ | refine drawStep ?_
    exact finR (l := [(6, .int .i64 (y : Nat))]) (v := .int .i64 (y : Nat)) ⟨(by kernel_rfl), trivial⟩ (by kernel_rfl) (Ent.refl _ _ _) (by kernel_rfl) ⟨by rw [if_neg (by simp)], rfl⟩

end Tab

/- count: spread. -/
namespace Tab
open Go Go.Proofs
set_option maxRecDepth 10000
set_option linter.unusedVariables false
set_option linter.unusedSimpArgs false
set_option linter.unusedSectionVars false

theorem callA {P : Program} {f : FuncId} {args : List AV} {H : List Blk} {R X : Out → List Blk → Prop} (h : ACall P f args H R) (k : ∀ o H', R o H' → X o H') : ∃ R : Out → List Blk → Prop, ACall P f args H R ∧ ∀ o H', R o H' → X o H' := ⟨R, h, k⟩

theorem callI2 {P : Program} {f : FuncId} {args : List AV} {H : List Blk} {α β : Type} {v : α → β → AV} {Hh : α → β → List Blk} {Q : α → β → Prop} {X : Out → List Blk → Prop} (h : ACall P f args H fun o H' => ∃ a b, o = .ret (v a b) ∧ H' = Hh a b ∧ Q a b)
    (k : ∀ a b, Q a b → X (.ret (v a b)) (Hh a b)) : ∃ R : Out → List Blk → Prop, ACall P f args H R ∧ ∀ o H', R o H' → X o H' :=
  ⟨_, h, by rintro _ _ ⟨a, b, rfl, rfl, hq⟩; exact k a b hq⟩

/-- What one pass leaves. -/
def SpPost (g : Gr) (L0 : List Bool) (b : Bool) (L : List Bool) : Prop := SpSound g L ∧ trues L0 ≤ trues L ∧ (b = true → trues L0 < trues L) ∧ (b = false → L = L0 ∧ ∀ q a, q < g.n → a < g.K → SpDone g L q a)

set_option maxHeartbeats 1000000 in
theorem count_spread (d : Den) (hd : rightS d = true) (g : Gr) (hgr : grD d = g) (gl : Nat) (kn : AV) (X : List Blk) (L0 : List Bool) (h0 : SpSound g L0) :
    ACall Try.prog 81 [.ref 0 0 0] (cnC d (.hs 1 gl 0 g.n 1) kn :: .cells gl ((L0).map .bool) :: X) (fun o H' => ∃ b L, o = .ret (.bool b) ∧ H' = cnC d (.hs 1 gl 0 g.n 1) kn :: .cells gl ((L).map .bool) :: X ∧ SpPost g L0 b L) := by
  have hends := fun q a hq ha (L : List Bool) => count_ends d hd q a hq ha (.hs 1 gl 0 g.n 1) kn (.cells gl (L.map .bool) :: X)
  have hrow := fun q hq => gr_row hd (q := q) hq
  have hnl : d.next.length = (grD d).n := (rightS_parts hd).2.1
  have hgo := grD_ok hd
  have hel : ∀ q a, endsN (grD d) q a ≤ 64 := fun q a => Nat.le_trans (endsN_le _ _ _) (Nat.le_trans (yesTo_le _ _ _) hgo.let')
  rw [hgr] at hends hrow hnl hgo hel
  have hstay := hgo.stay
  have hbig := hgo.big
  have hlet := hgo.let'
  refine ACall.of_sw 59 Try.func81 rfl Try.ntmps81 (by kernel_rfl) (Nat.le_of_ble_eq_true (by kernel_rfl)) ?_; refine SW.of_vc ?_
  repeat first | refine opsStep ?_ | refine codeStep ?_ | refine drawStep ?_
  refine loopE_of (ι := {x : Nat × List Bool × Bool // x.1 ≤ g.n ∧ SpSound g x.2.1 ∧ trues L0 ≤ trues x.2.1 ∧ (x.2.2 = true → trues L0 < trues x.2.1) ∧ (x.2.2 = false → x.2.1 = L0 ∧ ∀ q a, q < x.1 → a < g.K → SpDone g L0 q a)})
    (fun x => (fr [(0, .ref 0 0 0), (3, .bool x.1.2.2), (12, aRs d.nk d.next), (13, .int .i64 (g.n : Nat)), (14, .int .i64 (x.1.1 : Nat))], (cnC d (.hs 1 gl 0 g.n 1) kn :: .cells gl ((x.1.2.1).map .bool) :: X))) (fun x => g.n - x.1.1)
    ⟨(0, L0, false), Nat.zero_le _, h0, Nat.le_refl _, by simp, fun _ => ⟨rfl, fun q a hq => absurd hq (Nat.not_lt_zero _)⟩⟩ (Ent.fr' ⟨(by kernel_rfl), (by kernel_rfl), (by kernel_rfl), (Eq.trans (b := .int .i64 (d.next.length : Nat)) (by kernel_rfl) (by rw [hnl])), (by kernel_rfl), trivial⟩ (by kernel_rfl)) ?_
  rintro ⟨⟨q, L, b⟩, hq, hs, hle, hbt, hbf⟩
  simp only at hq hs hle hbt hbf
  repeat first | refine opsStep ?_ | refine codeStep ?_ | refine drawStep ?_
  refine decB_dec (fun hqc => ?_) (fun hqc => ?_)
  · have hql : q < g.n := by have := hqc; simp at this; omega
    obtain ⟨r, g1, g2, g3, g4⟩ := hrow q hql
    repeat first | refine opsStep ?_ | refine codeStep ?_ | refine drawStep ?_
    refine guardE_of (by simp; omega) ?_
    repeat first | refine opsStep ?_ | refine codeStep ?_ | refine drawStep ?_
    refine optE_of (c := aIs r.1 r.2) (by simp [Value.cells, g1]) ?_
    repeat first | refine opsStep ?_ | refine codeStep ?_ | refine drawStep ?_
    refine loopE_of (ι := {x : Nat × List Bool × Bool // x.1 ≤ g.K ∧ SpSound g x.2.1 ∧ trues L0 ≤ trues x.2.1 ∧ (x.2.2 = true → trues L0 < trues x.2.1) ∧ (x.2.2 = false → x.2.1 = L0 ∧ (∀ q' a, q' < q → a < g.K → SpDone g L0 q' a) ∧ ∀ a, a < x.1 → SpDone g L0 q a)})
      (fun x => (fr [(0, .ref 0 0 0), (3, .bool x.1.2.2), (4, .int .i64 (q : Nat)), (12, aRs d.nk d.next), (13, .int .i64 (g.n : Nat)), (14, .int .i64 (q : Nat)), (19, aIs r.1 r.2), (20, .int .i64 (r.2.length : Nat)), (21, .int .i64 (x.1.1 : Nat))], (cnC d (.hs 1 gl 0 g.n 1) kn :: .cells gl ((x.1.2.1).map .bool) :: X))) (fun x => g.K - x.1.1)
      ⟨(0, L, b), Nat.zero_le _, hs, hle, hbt, fun e => ⟨(hbf e).1, (hbf e).2, fun a ha => absurd ha (Nat.not_lt_zero _)⟩⟩ (Ent.fr' ⟨(by kernel_rfl), (by kernel_rfl), (by kernel_rfl), (by kernel_rfl), (by kernel_rfl), (by kernel_rfl), (by kernel_rfl), (by kernel_rfl), (by kernel_rfl), trivial⟩ (by kernel_rfl)) ?_
    rintro ⟨⟨a, L, b⟩, ha, hs, hle, hbt, hbf⟩
    simp only at ha hs hle hbt hbf
    repeat first | refine opsStep ?_ | refine codeStep ?_ | refine drawStep ?_
    refine decB_dec (fun hac => ?_) (fun hac => ?_)
    · have hal : a < g.K := by have := hac; simp at this; omega
      obtain ⟨g5, g6⟩ := g4 a hal
      have har : a < r.2.length := by omega
      have hll := hs.1
      obtain ⟨vq, hgq⟩ : ∃ v, L[q]? = some v := ⟨_, List.getElem?_eq_getElem (by omega)⟩
      obtain ⟨vt, hgt⟩ : ∃ v, L[g.st q a]? = some v := ⟨_, List.getElem?_eq_getElem (by omega)⟩
      have hset := fun hx => hs.set (q := q) (a := a) hal hx
      have htr := fun h => trues_set (L := L) (q := q) h
      have hen := hends (g.st q a) a g6 hal L
      have hel := hel (g.st q a) a
      have hdn : SpDone g L q a ↔ ((0 < endsN g (g.st q a) a ∨ L[g.st q a]? = some true) → L[q]? = some true) := Iff.rfl
      generalize endsN g (g.st q a) a = en at *
      generalize g.st q a = to at *
      repeat first | refine opsStep ?_ | refine codeStep ?_ | refine drawStep ?_
      refine guardE_of (by simp; omega) ?_
      repeat first | refine opsStep ?_ | refine codeStep ?_ | refine drawStep ?_
      refine optE_of (c := .int .i64 (to : Nat)) (by simp [Value.cells, g5]) ?_
      repeat first | refine opsStep ?_ | refine codeStep ?_ | refine drawStep ?_
      refine guardE_of (by simp; omega) ?_
      repeat first | refine opsStep ?_ | refine codeStep ?_ | refine drawStep ?_
      refine guardE_of rfl ?_
      refine optE_of rfl ?_
      refine optE_of (c := AV.bool vq) (by show (L.map AV.bool)[0 + q * 1]? = _; simp [hgq]) ?_
      cases vq with
      | true =>
        repeat first | refine opsStep ?_ | refine codeStep ?_ | refine drawStep ?_
        refine ⟨⟨(a + 1, L, b), hal, hs, hle, hbt, fun e => ⟨(hbf e).1, (hbf e).2.1, fun a' ha' => ?_⟩⟩, (by show g.K - (a + 1) < g.K - a; omega), Ent.fr' ⟨(by kernel_rfl), (by kernel_rfl), (by kernel_rfl), (by kernel_rfl), (by kernel_rfl), (by kernel_rfl), (by kernel_rfl), (by kernel_rfl), inc_slot (i := a) (by omega), trivial⟩ (by kernel_rfl)⟩
        by_cases e' : a' = a
        · subst e'; rw [← (hbf e).1]; exact hdn.2 fun _ => hgq
        · exact (hbf e).2.2 a' (by omega)
      | false =>
        have htr := htr hgq
        have hmap : (L.map AV.bool).set q (.bool true) = (L.set q true).map AV.bool := by rw [List.map_set]
        repeat first | refine opsStep ?_ | refine codeStep ?_ | refine drawStep ?_
        refine guardE_of (by simp; omega) ?_
        repeat first | refine opsStep ?_ | refine codeStep ?_ | refine drawStep ?_
        refine guardE_of rfl ?_
        refine optE_of rfl ?_
        refine optE_of (c := AV.bool vt) (by show (L.map AV.bool)[0 + to * 1]? = _; simp [hgt]) ?_
        cases vt with
        | true =>
          repeat first | refine opsStep ?_ | refine codeStep ?_ | refine drawStep ?_
          refine guardE_of (by simp; omega) ?_
          repeat first | refine opsStep ?_ | refine codeStep ?_ | refine drawStep ?_
          refine guardE_of rfl ?_
          refine optE_of rfl ?_
          refine optE_of rfl ?_
          refine guardE_of ⟨rfl, by decide, by show 0 + q * 1 + 1 ≤ (L.map AV.bool).length; rw [List.length_map]; omega⟩ ?_
          repeat first | refine opsStep ?_ | refine codeStep ?_ | refine drawStep ?_
          refine ⟨⟨(a + 1, L.set q true, true), hal, hset (.inr hgt), by simp only; omega, fun _ => by simp only; omega, by simp⟩, (by show g.K - (a + 1) < g.K - a; omega), Ent.fr' ⟨(by kernel_rfl), (by kernel_rfl), (by kernel_rfl), (by kernel_rfl), (by kernel_rfl), (by kernel_rfl), (by kernel_rfl), (by kernel_rfl), inc_slot (i := a) (by omega), trivial⟩ ?_⟩
          refine Eq.trans (b := cnC d (.hs 1 gl 0 g.n 1) kn :: .cells gl (over (L.map .bool) (0 + q * 1) [.bool true]) :: X) (by kernel_rfl) ?_
          rw [Nat.zero_add, Nat.mul_one, over_one (by rw [List.length_map]; omega), hmap]
        | false =>
          repeat first | refine opsStep ?_ | refine codeStep ?_ | refine drawStep ?_
          refine callH hen ?_
          repeat first | refine opsStep ?_ | refine codeStep ?_ | refine drawStep ?_
          refine decB_dec (fun hen0 => ?_) (fun hen0 => ?_)
          · have hen0 : (0 : Int) < ((en : Nat) : Int) := hen0
            repeat first | refine opsStep ?_ | refine codeStep ?_ | refine drawStep ?_
            refine guardE_of (by simp; omega) ?_
            repeat first | refine opsStep ?_ | refine codeStep ?_ | refine drawStep ?_
            refine guardE_of rfl ?_
            refine optE_of rfl ?_
            refine optE_of rfl ?_
            refine guardE_of ⟨rfl, by decide, by show 0 + q * 1 + 1 ≤ (L.map AV.bool).length; rw [List.length_map]; omega⟩ ?_
            repeat first | refine opsStep ?_ | refine codeStep ?_ | refine drawStep ?_
            refine ⟨⟨(a + 1, L.set q true, true), hal, hset (.inl (by omega)), by simp only; omega, fun _ => by simp only; omega, by simp⟩, (by show g.K - (a + 1) < g.K - a; omega), Ent.fr' ⟨(by kernel_rfl), (by kernel_rfl), (by kernel_rfl), (by kernel_rfl), (by kernel_rfl), (by kernel_rfl), (by kernel_rfl), (by kernel_rfl), inc_slot (i := a) (by omega), trivial⟩ ?_⟩
            refine Eq.trans (b := cnC d (.hs 1 gl 0 g.n 1) kn :: .cells gl (over (L.map .bool) (0 + q * 1) [.bool true]) :: X) (by kernel_rfl) ?_
            rw [Nat.zero_add, Nat.mul_one, over_one (by rw [List.length_map]; omega), hmap]
          · have hen0 : ¬ (0 : Int) < ((en : Nat) : Int) := hen0
            repeat first | refine opsStep ?_ | refine codeStep ?_ | refine drawStep ?_
            refine ⟨⟨(a + 1, L, b), hal, hs, hle, hbt, fun e => ⟨(hbf e).1, (hbf e).2.1, fun a' ha' => ?_⟩⟩, (by show g.K - (a + 1) < g.K - a; omega), Ent.fr' ⟨(by kernel_rfl), (by kernel_rfl), (by kernel_rfl), (by kernel_rfl), (by kernel_rfl), (by kernel_rfl), (by kernel_rfl), (by kernel_rfl), inc_slot (i := a) (by omega), trivial⟩ (by kernel_rfl)⟩
            by_cases e' : a' = a
            · subst e'
              rw [← (hbf e).1]
              refine hdn.2 fun h => ?_
              rcases h with h | h
              · omega
              · rw [hgt] at h; simp at h
            · exact (hbf e).2.2 a' (by omega)
    · have hae : a = g.K := by have := hac; simp at this; omega
      subst hae
      repeat first | refine opsStep ?_ | refine codeStep ?_ | refine drawStep ?_
      refine ⟨⟨(q + 1, L, b), hql, hs, hle, hbt, fun e => ⟨(hbf e).1, fun q' a' hq' ha' => ?_⟩⟩, (by show g.n - (q + 1) < g.n - q; omega), Ent.fr' ⟨(by kernel_rfl), (by kernel_rfl), (by kernel_rfl), (by kernel_rfl), inc_slot (i := q) (by omega), trivial⟩ (by kernel_rfl)⟩
      by_cases e' : q' = q
      · subst e'; exact (hbf e).2.2 a' ha'
      · exact (hbf e).2.1 q' a' (by omega) ha'
  · have hqe : q = g.n := by have := hqc; simp at this; omega
    subst hqe
    repeat first | refine opsStep ?_ | refine codeStep ?_ | refine drawStep ?_
    exact finR (l := [(2, .bool b)]) (v := .bool b) ⟨(by kernel_rfl), trivial⟩ (by kernel_rfl) (Ent.refl _ _ _) (by kernel_rfl) ⟨b, L, rfl, rfl, hs, hle, hbt, fun e => ⟨(hbf e).1, by rw [(hbf e).1]; exact (hbf e).2⟩⟩

end Tab

/- count: made. -/
namespace Tab
open Go Go.Proofs
set_option maxRecDepth 10000
set_option linter.unusedVariables false
set_option linter.unusedSimpArgs false
set_option linter.unusedSectionVars false

def fL (k : Nat) : List AV := List.replicate k (.bool false)
def mL (k : Nat) : List AV := List.replicate k (.int .i64 (-1))
theorem fL_length (k) : (fL k).length = k := by simp [fL]
theorem mL_length (k) : (mL k).length = k := by simp [mL]
theorem fL_snoc (k) : fL (k + 1) = fL k ++ [.bool false] := by simp [fL, List.replicate_succ']
theorem mL_snoc (k) : mL (k + 1) = mL k ++ [.int .i64 (-1)] := by simp [mL, List.replicate_succ']
theorem fL_bel (m k) : bels m (fL k) := bels_iff.2 fun a ha => by rw [List.eq_of_mem_replicate ha]; trivial
theorem mL_bel (m k) : bels m (mL k) := bels_iff.2 fun a ha => by rw [List.eq_of_mem_replicate ha]; trivial
theorem fL_map (k) : fL k = (List.replicate k false).map .bool := by simp [fL]
theorem ids_len {l : List AV} {n : Nat} (h : l.length = n) : (l.drop 0).take (n * 1) = l := by rw [List.drop_zero, Nat.mul_one, ← h, List.take_length]

theorem rns_app (f : Nat → Nat) (a b : List AV) : rns f (a ++ b) = rns f a ++ rns f b := by rw [rns_map, rns_map, rns_map, List.map_append]
theorem yL_rn (f g k) : rns f (yL g k) = yL g k := closeds_rn _ (yL_closed g k)
theorem fL_rn (f k) : rns f (fL k) = fL k := by rw [fL_map]; exact bools_rn f _
theorem mL_rn (f k) : rns f (mL k) = mL k := closeds_rn _ (closeds_iff.2 fun a ha => by rw [List.eq_of_mem_replicate ha]; simp only [AV.closed])
set_option maxHeartbeats 1000000 in
theorem count_made (d : Den) (hd : rightS d = true) (g : Gr) (hgr : grD d = g) :
    ACall Try.prog 35 [aDen d] [] (fun o H' => o = .ret (.ref 0 0 0) ∧ H' = [cnC d (.sl .any g.n ((liveL g).map .bool)) (.hs 1 g.n 0 g.n 1), .cells g.n (mL g.n)]) := by
  have hrow := fun q hq => gr_row hd (q := q) hq
  have hacc := fun c hc => gr_acc (d := d) (c := c) hc
  have hnl : d.next.length = (grD d).n := (rightS_parts hd).2.1
  have hal : d.accept.length = (grD d).n := rfl
  have hgo := grD_ok hd
  have hspr := fun (gl : Nat) (kn : AV) (X : List Blk) (L0 : List Bool) h0 => count_spread d hd g hgr gl kn X L0 h0
  have hcn : ∀ lv kn, cnC d lv kn = .cells 0 (d.cells ++ [.sl .any g.n (yL g g.n), lv, kn]) := fun lv kn => by rw [cnC, hgr]
  rw [hgr] at hrow hnl hgo hacc hal
  have hbig := hgo.big
  have hlet := hgo.let'
  refine ACall.of_sw 65 Try.func35 rfl Try.ntmps35 (by kernel_rfl) (Nat.le_of_ble_eq_true (by kernel_rfl)) ?_; refine SW.of_vc ?_
  repeat first | refine opsStep ?_ | refine codeStep ?_ | refine drawStep ?_
  refine loopE_of (ι := {i : Nat // i ≤ g.n}) (fun i => (fr [(1, .ref 0 0 0), (3, .ref 1 0 0), (13, aRs d.nk d.next), (14, .int .i64 (g.n : Nat)), (15, .int .i64 (i.1 : Nat))], [.cells 0 d.cells, .cells 0 (d.cells ++ [.hs 2 (i.1) 0 (i.1) 1, .hs 3 (i.1) 0 (i.1) 1, .hs 4 (i.1) 0 (i.1) 1]), .cells (i.1) (yL g (i.1)), .cells (i.1) (fL (i.1)), .cells (i.1) (mL (i.1))])) (fun i => g.n - i.1) ⟨0, Nat.zero_le _⟩ ?_ ?_
  · exact ((((Ent.fr' (l := [(1, .ref 0 0 0), (3, .ref 1 0 0), (13, aRs d.nk d.next), (14, .int .i64 (g.n : Nat)), (15, .int .i64 ((0 : Nat) : Nat))]) (H' := [.cells 0 d.cells, .cells 0 (d.cells ++ [.sl .nil 0 [], .sl .nil 0 [], .sl .nil 0 []])]) ⟨(by kernel_rfl), (by kernel_rfl), (by kernel_rfl), (Eq.trans (b := .int .i64 (d.next.length : Nat)) (by kernel_rfl) (by rw [hnl])), (by kernel_rfl), trivial⟩ (by kernel_rfl)).trans (Ent.nilCell 1 3 1 rfl rfl)).trans (Ent.nilCell 1 4 1 rfl rfl)).trans (Ent.nilCell 1 5 1 rfl rfl)).to rfl
  rintro ⟨i, hi⟩
  repeat first | refine opsStep ?_ | refine codeStep ?_ | refine drawStep ?_
  refine decB_dec (fun hic => ?_) (fun hic => ?_)
  · have hil : i < g.n := by have := hic; simp at this; omega
    obtain ⟨r, g1, g2, g3, g4⟩ := hrow i hil
    repeat first | refine opsStep ?_ | refine codeStep ?_ | refine drawStep ?_
    refine guardE_of (by simp; omega) ?_
    repeat first | refine opsStep ?_ | refine codeStep ?_ | refine drawStep ?_
    refine optE_of (c := aIs r.1 r.2) (by simp [Value.cells, g1]) ?_
    repeat first | refine opsStep ?_ | refine codeStep ?_ | refine drawStep ?_
    refine loopE_of (ι := {a : Nat // a ≤ g.K}) (fun a => (fr [(1, .ref 0 0 0), (3, .ref 1 0 0), (13, aRs d.nk d.next), (14, .int .i64 (g.n : Nat)), (15, .int .i64 (i : Nat)), (6, .int .i64 (yesTo g i a.1 : Nat)), (19, aIs r.1 r.2), (20, .int .i64 (r.2.length : Nat)), (21, .int .i64 (a.1 : Nat))], [.cells 0 d.cells, .cells 0 (d.cells ++ [.hs 2 (i) 0 (i) 1, .hs 3 (i) 0 (i) 1, .hs 4 (i) 0 (i) 1]), .cells (i) (yL g (i)), .cells (i) (fL (i)), .cells (i) (mL (i))])) (fun a => g.K - a.1) ⟨0, Nat.zero_le _⟩ (Ent.fr' ⟨(by kernel_rfl), (by kernel_rfl), (by kernel_rfl), (by kernel_rfl), (by kernel_rfl), (by kernel_rfl), (by kernel_rfl), (by kernel_rfl), (by kernel_rfl), trivial⟩ (by kernel_rfl)) ?_
    rintro ⟨a, ha⟩
    repeat first | refine opsStep ?_ | refine codeStep ?_ | refine drawStep ?_
    refine decB_dec (fun hac => ?_) (fun hac => ?_)
    · have hal2 : a < g.K := by have := hac; simp at this; omega
      obtain ⟨g5, g6⟩ := g4 a hal2
      have g7 := hacc _ g6
      have har : a < r.2.length := by omega
      have hys := yesTo_succ g i a
      have hyk := yesTo_le g i a
      generalize g.st i a = c at *
      generalize yesTo g i a = y at *
      repeat first | refine opsStep ?_ | refine codeStep ?_ | refine drawStep ?_
      refine guardE_of (by simp; omega) ?_
      repeat first | refine opsStep ?_ | refine codeStep ?_ | refine drawStep ?_
      refine optE_of (c := .int .i64 (c : Nat)) (by simp [Value.cells, g5]) ?_
      repeat first | refine opsStep ?_ | refine codeStep ?_ | refine drawStep ?_
      refine guardE_of (by simp; omega) ?_
      repeat first | refine opsStep ?_ | refine codeStep ?_ | refine drawStep ?_
      refine optE_of (c := .bool (g.ac c)) (by simp [Value.cells, g7]) ?_
      cases hc : g.ac c with
      | true =>
        rw [hc, if_pos rfl] at hys
        repeat first | refine opsStep ?_ | refine codeStep ?_ | refine drawStep ?_
        refine ⟨⟨a + 1, hal2⟩, (by show g.K - (a + 1) < g.K - a; omega), Ent.fr' ⟨(by kernel_rfl), (by kernel_rfl), (by kernel_rfl), (by kernel_rfl), (by kernel_rfl), ?_, (by kernel_rfl), (by kernel_rfl), inc_slot (i := a) (by omega), trivial⟩ (by kernel_rfl)⟩
        refine Eq.trans (b := .int .i64 (IntKind.wrap .i64 ((y : Int) + 1))) (by kernel_rfl) ?_
        rw [inc_slot (i := y) (by omega), hys]
      | false =>
        rw [hc, if_neg (by simp)] at hys
        repeat first | refine opsStep ?_ | refine codeStep ?_ | refine drawStep ?_
        refine ⟨⟨a + 1, hal2⟩, (by show g.K - (a + 1) < g.K - a; omega), Ent.fr' ⟨(by kernel_rfl), (by kernel_rfl), (by kernel_rfl), (by kernel_rfl), (by kernel_rfl), ?_, (by kernel_rfl), (by kernel_rfl), inc_slot (i := a) (by omega), trivial⟩ (by kernel_rfl)⟩
        refine Eq.trans (b := .int .i64 (y : Nat)) (by kernel_rfl) ?_
        rw [hys]; simp
    · have hae : a = g.K := by have := hac; simp at this; omega
      subst hae
      have hyl := yL_length g i
      have hfl := fL_length i
      have hml := mL_length i
      have hyn : yesTo g i g.K = yesN g i := rfl
      have hys := yL_snoc g i
      rw [hyn]
      generalize yesN g i = y at *
      repeat first | refine opsStep ?_ | refine codeStep ?_ | refine drawStep ?_
      refine guardE_of ⟨rfl, by simp [hyl]⟩ ?_
      refine guardE_of rfl ?_
      refine guardE_of ⟨by show i + 1 ≤ 9223372036854775807; omega, by show (i + 1) * 8 ≤ 140737488355328; omega⟩ ?_
      repeat first | refine opsStep ?_ | refine codeStep ?_ | refine drawStep ?_
      refine guardE_of ⟨rfl, by simp [hfl]⟩ ?_
      refine guardE_of rfl ?_
      refine guardE_of ⟨by show i + 1 ≤ 9223372036854775807; omega, by show (i + 1) * 1 ≤ 140737488355328; omega⟩ ?_
      repeat first | refine opsStep ?_ | refine codeStep ?_ | refine drawStep ?_
      refine guardE_of ⟨rfl, by simp [hml]⟩ ?_
      refine guardE_of rfl ?_
      refine guardE_of ⟨by show i + 1 ≤ 9223372036854775807; omega, by show (i + 1) * 8 ≤ 140737488355328; omega⟩ ?_
      repeat first | refine opsStep ?_ | refine codeStep ?_ | refine drawStep ?_
      refine ⟨⟨i + 1, hil⟩, (by show g.n - (i + 1) < g.n - i; omega), ?_⟩
      refine Ent.to (Ent.frT (H' := [.cells 0 d.cells, .cells 0 (d.cells ++ [.hs 2 (i + 1) 0 (i + 1) 1, .hs 3 (i + 1) 0 (i + 1) 1, .hs 4 (i + 1) 0 (i + 1) 1]), .cells (i + 1) (((yL g i).drop 0).take (i * 1) ++ [.int .i64 (y : Nat)]), .cells (i + 1) (((fL i).drop 0).take (i * 1) ++ [.bool false]), .cells (i + 1) (((mL i).drop 0).take (i * 1) ++ [.int .i64 (-1)])]) 5 ⟨(by kernel_rfl), (by kernel_rfl), (by kernel_rfl), (by kernel_rfl), inc_slot (i := i) (by omega), trivial⟩ (by kernel_rfl) (Nat.zero_le _) (by simp [frBel, AV.bel, bels, aRs_bel]) ?_) ?_
      · rw [ids_len hyl, ids_len hfl, ids_len hml]
        simp [blksBel, Blk.bel, bels_append, cells_bel, yL_bel, fL_bel, mL_bel, bels, AV.bel]
      · rw [ids_len hyl, ids_len hfl, ids_len hml, ← hys, ← fL_snoc, ← mL_snoc]
  · have hie : i = g.n := by have := hic; simp at this; omega
    subst hie
    clear hrow hacc hic
    have hyl := yL_length g g.n
    have hml := mL_length g.n
    repeat first | refine opsStep ?_ | refine codeStep ?_ | refine drawStep ?_
    have e0 : Ent (65 : Fr) (fr [(3, .ref 1 0 0)]) [.cells 0 d.cells, .cells 0 (d.cells ++ [.hs 2 (g.n) 0 (g.n) 1, .hs 3 (g.n) 0 (g.n) 1, .hs 4 (g.n) 0 (g.n) 1]), .cells (g.n) (yL g (g.n)), .cells (g.n) (fL (g.n)), .cells (g.n) (mL (g.n))] (fr [(3, .ref 0 0 0)]) [cnC d (.hs 1 g.n 0 g.n 1) (.hs 2 g.n 0 g.n 1), .cells g.n ((List.replicate g.n false).map .bool), .cells g.n (mL g.n)] := by
      rw [hcn, ← fL_map]
      refine (Ent.freezeCell (b := 2) (g := g.n) (n := g.n) (es := 1) (cs := yL g g.n) 1 3 rfl rfl rfl (by decide) (by omega)).trans ?_
      refine Ent.pick [1, 3, 4] (by decide) (by intro b hb; simp at hb; show b < 5; omega) (fun b hb => absurd hb (Nat.not_lt_zero _)) _ _ rfl (frOk_rn ⟨rfl, trivial⟩) ?_ (by simp [frBel, AV.bel]) (by simp [blksBel, Blk.bel, bels_append, cells_bel, yL_bel, fL_bel, mL_bel, bels, AV.bel])
      intro i x b h1 h2
      match i, h2 with
      | 0, h2 =>
        cases h1; cases h2
        refine Eq.trans (b := some (Blk.cells 0 (d.cells ++ [.sl .any g.n (yL g g.n), .hs 3 g.n 0 g.n 1, .hs 4 g.n 0 g.n 1]))) rfl ?_
        simp [Blk.rn, rns_app, den_rn, rns, AV.rn, yL_rn, rnB]
      | 1, h2 =>
        cases h1; cases h2
        refine Eq.trans (b := some (Blk.cells g.n (fL g.n))) rfl ?_
        simp [Blk.rn, fL_rn]
      | 2, h2 =>
        cases h1; cases h2
        refine Eq.trans (b := some (Blk.cells g.n (mL g.n))) rfl ?_
        simp [Blk.rn, mL_rn]
      | i + 3, h2 => simp at h2
    refine loopE_of (ι := {L : List Bool // SpSound g L}) (fun L => (fr [(3, .ref 0 0 0)], [cnC d (.hs 1 g.n 0 g.n 1) (.hs 2 g.n 0 g.n 1), .cells g.n (L.1.map .bool), .cells g.n (mL g.n)])) (fun L => g.n - trues L.1)
      ⟨List.replicate g.n false, by simp, fun q h => by rw [List.getElem?_replicate] at h; split at h <;> simp at h⟩ ((Ent.fr' (l := [(3, .ref 1 0 0)]) (H' := [.cells 0 d.cells, .cells 0 (d.cells ++ [.hs 2 (g.n) 0 (g.n) 1, .hs 3 (g.n) 0 (g.n) 1, .hs 4 (g.n) 0 (g.n) 1]), .cells (g.n) (yL g (g.n)), .cells (g.n) (fL (g.n)), .cells (g.n) (mL (g.n))]) ⟨(by kernel_rfl), trivial⟩ (by kernel_rfl)).trans e0) ?_
    clear e0
    rintro ⟨L, hL⟩
    repeat first | refine opsStep ?_ | refine codeStep ?_ | refine drawStep ?_
    refine callI2 (hspr g.n (.hs 2 g.n 0 g.n 1) [.cells g.n (mL g.n)] L hL) ?_
    rintro b L' ⟨hp1, hp2, hp3, hp4⟩
    cases b with
    | true =>
      have hp3 := hp3 rfl
      have hp5 := trues_le L'
      rw [hp1.1] at hp5
      repeat first | refine opsStep ?_ | refine codeStep ?_ | refine drawStep ?_
      exact ⟨⟨L', hp1⟩, (by show g.n - trues L' < g.n - trues L; omega), Ent.fr' ⟨(by kernel_rfl), trivial⟩ (by kernel_rfl)⟩
    | false =>
      obtain ⟨rfl, hp5⟩ := hp4 rfl
      have hfin := live_final hgo hp1 hp5
      subst hfin
      have hll := liveL_length g
      repeat first | refine opsStep ?_ | refine codeStep ?_ | refine drawStep ?_
      refine finR (l := [(2, .ref 0 0 0)]) (v := .ref 0 0 0) (H₁ := [cnC d (.hs 1 g.n 0 g.n 1) (.hs 2 g.n 0 g.n 1), .cells g.n ((liveL g).map .bool), .cells g.n (mL g.n)]) (s' := fr [(2, .ref 0 0 0)]) (H' := [cnC d (.sl .any g.n ((liveL g).map .bool)) (.hs 1 g.n 0 g.n 1), .cells g.n (mL g.n)]) ⟨(by kernel_rfl), trivial⟩ (by kernel_rfl) ?_ (by kernel_rfl) ⟨rfl, rfl⟩
      rw [hcn, hcn]
      refine (Ent.freezeCell (b := 1) (g := g.n) (n := g.n) (es := 1) (cs := (liveL g).map .bool) 0 4 rfl rfl rfl (by decide) (by rw [List.length_map, hll]; omega)).trans ?_
      refine Ent.pick [0, 2] (by decide) (by intro b hb; simp at hb; show b < 3; omega) (fun b hb => absurd hb (Nat.not_lt_zero _)) _ _ rfl (frOk_rn ⟨rfl, trivial⟩) ?_ (by simp [frBel, AV.bel]) ?_
      · intro i x b h1 h2
        match i, h2 with
        | 0, h2 =>
          cases h1; cases h2
          refine Eq.trans (b := some (Blk.cells 0 (d.cells ++ [.sl .any g.n (yL g g.n), .sl .any g.n ((liveL g).map .bool), .hs 2 g.n 0 g.n 1]))) rfl ?_
          simp [Blk.rn, rns_app, den_rn, rns, AV.rn, yL_rn, bools_rn, rnB]
        | 1, h2 =>
          cases h1; cases h2
          refine Eq.trans (b := some (Blk.cells g.n (mL g.n))) rfl ?_
          simp [Blk.rn, mL_rn]
        | i + 2, h2 => simp at h2
      · simp [blksBel, Blk.bel, bels_append, cells_bel, yL_bel, fL_bel, mL_bel, bels, AV.bel, bels_map]

end Tab

/- count: ringed, finite. -/
namespace Tab
open Go Go.Proofs
set_option maxRecDepth 10000
set_option linter.unusedVariables false
set_option linter.unusedSimpArgs false
set_option linter.unusedSectionVars false

set_option maxHeartbeats 1000000 in
theorem count_ringed (d : Den) (hd : rightS d = true) (g : Gr) (hgr : grD d = g) (kn : AV) (B1 : Blk) (X : List Blk) : ∀ (k : Nat) (M : List Nat) (q : Nat), zeros M ≤ k → RgPre g M q →
    ACall Try.prog 82 [.ref 0 0 0, .int .i64 (q : Nat), .hs 2 0 0 g.n 1] (cnC d (.sl .any g.n ((liveL g).map .bool)) kn :: B1 :: .cells 0 (iW (M)) :: X) (fun o H' => ∃ b M', o = .ret (.bool b) ∧ H' = cnC d (.sl .any g.n ((liveL g).map .bool)) kn :: B1 :: .cells 0 (iW (M')) :: X ∧ RgPost g M q b M') := by
  have hrow := fun q hq => gr_row hd (q := q) hq
  have hnl : d.next.length = (grD d).n := (rightS_parts hd).2.1
  have hgo := grD_ok hd
  rw [hgr] at hrow hnl hgo
  have hstay := hgo.stay
  have hbig := hgo.big
  have hlet := hgo.let'
  have hll := liveL_length g
  intro k
  induction k with
  | zero =>
    intro M q hz hp
    have hq : q < g.n := hp.at'.lt hgo
    have hlq := liveL_get g hq
    have hml := hp.len
    have hil : (iW M).length = g.n := by rw [iW_length, hml]
    obtain ⟨v, hv⟩ : ∃ v, M[q]? = some v := ⟨_, List.getElem?_eq_getElem (by omega)⟩
    have hgv : (iW M)[q]? = some (.int .i64 (v : Nat)) := by simp [iW, hv]
    have hv2 := hp.two q v hv
    cases hlb : liveB g q with
    | false =>
      have hpost := hp.none (.inl hlb)
      rw [hlb] at hlq
      refine ACall.of_sw 53 Try.func82 rfl Try.ntmps82 (by kernel_rfl) (Nat.le_of_ble_eq_true (by kernel_rfl)) ?_; refine SW.of_vc ?_
      repeat first | refine opsStep ?_ | refine codeStep ?_ | refine drawStep ?_
      refine guardE_of (by simp [hll]; omega) ?_
      repeat first | refine opsStep ?_ | refine codeStep ?_ | refine drawStep ?_
      refine optE_of (c := .bool false) (by simp [Value.cells, hlq]) ?_
      repeat first | refine opsStep ?_ | refine codeStep ?_ | refine drawStep ?_
      exact finR (l := [(6, .bool false)]) (v := .bool false) ⟨(by kernel_rfl), trivial⟩ (by kernel_rfl) (Ent.refl _ _ _) (by kernel_rfl) ⟨false, M, rfl, rfl, hpost⟩
    | true =>
      have hlp := (liveB_iff g).1 hlb
      rw [hlb] at hlq
      obtain rfl | rfl | rfl : v = 2 ∨ v = 1 ∨ v = 0 := by omega
      · have hpost := hp.none (.inr hv)
        refine ACall.of_sw 53 Try.func82 rfl Try.ntmps82 (by kernel_rfl) (Nat.le_of_ble_eq_true (by kernel_rfl)) ?_; refine SW.of_vc ?_
        repeat first | refine opsStep ?_ | refine codeStep ?_ | refine drawStep ?_
        refine guardE_of (by simp [hll]; omega) ?_
        repeat first | refine opsStep ?_ | refine codeStep ?_ | refine drawStep ?_
        refine optE_of (c := .bool true) (by simp [Value.cells, hlq]) ?_
        repeat first | refine opsStep ?_ | refine codeStep ?_ | refine drawStep ?_
        refine guardE_of (by simp; omega) ?_
        repeat first | refine opsStep ?_ | refine codeStep ?_ | refine drawStep ?_
        refine optE_of (c := .int .i64 (2 : Nat)) (by simpa [Value.cells] using hgv) ?_
        repeat first | refine opsStep ?_ | refine codeStep ?_ | refine drawStep ?_
        exact finR (l := [(6, .bool false)]) (v := .bool false) ⟨(by kernel_rfl), trivial⟩ (by kernel_rfl) (Ent.refl _ _ _) (by kernel_rfl) ⟨false, M, rfl, rfl, hpost⟩
      · have hpost := hp.ring hv
        refine ACall.of_sw 53 Try.func82 rfl Try.ntmps82 (by kernel_rfl) (Nat.le_of_ble_eq_true (by kernel_rfl)) ?_; refine SW.of_vc ?_
        repeat first | refine opsStep ?_ | refine codeStep ?_ | refine drawStep ?_
        refine guardE_of (by simp [hll]; omega) ?_
        repeat first | refine opsStep ?_ | refine codeStep ?_ | refine drawStep ?_
        refine optE_of (c := .bool true) (by simp [Value.cells, hlq]) ?_
        repeat first | refine opsStep ?_ | refine codeStep ?_ | refine drawStep ?_
        refine guardE_of (by simp; omega) ?_
        repeat first | refine opsStep ?_ | refine codeStep ?_ | refine drawStep ?_
        refine optE_of (c := .int .i64 (1 : Nat)) (by simpa [Value.cells] using hgv) ?_
        repeat first | refine opsStep ?_ | refine codeStep ?_ | refine drawStep ?_
        refine guardE_of (by simp; omega) ?_
        repeat first | refine opsStep ?_ | refine codeStep ?_ | refine drawStep ?_
        refine optE_of (c := .int .i64 (1 : Nat)) (by simpa [Value.cells] using hgv) ?_
        repeat first | refine opsStep ?_ | refine codeStep ?_ | refine drawStep ?_
        exact finR (l := [(6, .bool true)]) (v := .bool true) ⟨(by kernel_rfl), trivial⟩ (by kernel_rfl) (Ent.refl _ _ _) (by kernel_rfl) ⟨true, M, rfl, rfl, hpost⟩
      · exfalso
        have := zeros_set hv (v := 1) (by decide)
        omega
  | succ k ih =>
    intro M q hz hp
    have hq : q < g.n := hp.at'.lt hgo
    have hlq := liveL_get g hq
    have hml := hp.len
    have hil : (iW M).length = g.n := by rw [iW_length, hml]
    obtain ⟨v, hv⟩ : ∃ v, M[q]? = some v := ⟨_, List.getElem?_eq_getElem (by omega)⟩
    have hgv : (iW M)[q]? = some (.int .i64 (v : Nat)) := by simp [iW, hv]
    have hv2 := hp.two q v hv
    cases hlb : liveB g q with
    | false =>
      have hpost := hp.none (.inl hlb)
      rw [hlb] at hlq
      refine ACall.of_sw 53 Try.func82 rfl Try.ntmps82 (by kernel_rfl) (Nat.le_of_ble_eq_true (by kernel_rfl)) ?_; refine SW.of_vc ?_
      repeat first | refine opsStep ?_ | refine codeStep ?_ | refine drawStep ?_
      refine guardE_of (by simp [hll]; omega) ?_
      repeat first | refine opsStep ?_ | refine codeStep ?_ | refine drawStep ?_
      refine optE_of (c := .bool false) (by simp [Value.cells, hlq]) ?_
      repeat first | refine opsStep ?_ | refine codeStep ?_ | refine drawStep ?_
      exact finR (l := [(6, .bool false)]) (v := .bool false) ⟨(by kernel_rfl), trivial⟩ (by kernel_rfl) (Ent.refl _ _ _) (by kernel_rfl) ⟨false, M, rfl, rfl, hpost⟩
    | true =>
      have hlp := (liveB_iff g).1 hlb
      rw [hlb] at hlq
      obtain rfl | rfl | rfl : v = 2 ∨ v = 1 ∨ v = 0 := by omega
      · have hpost := hp.none (.inr hv)
        refine ACall.of_sw 53 Try.func82 rfl Try.ntmps82 (by kernel_rfl) (Nat.le_of_ble_eq_true (by kernel_rfl)) ?_; refine SW.of_vc ?_
        repeat first | refine opsStep ?_ | refine codeStep ?_ | refine drawStep ?_
        refine guardE_of (by simp [hll]; omega) ?_
        repeat first | refine opsStep ?_ | refine codeStep ?_ | refine drawStep ?_
        refine optE_of (c := .bool true) (by simp [Value.cells, hlq]) ?_
        repeat first | refine opsStep ?_ | refine codeStep ?_ | refine drawStep ?_
        refine guardE_of (by simp; omega) ?_
        repeat first | refine opsStep ?_ | refine codeStep ?_ | refine drawStep ?_
        refine optE_of (c := .int .i64 (2 : Nat)) (by simpa [Value.cells] using hgv) ?_
        repeat first | refine opsStep ?_ | refine codeStep ?_ | refine drawStep ?_
        exact finR (l := [(6, .bool false)]) (v := .bool false) ⟨(by kernel_rfl), trivial⟩ (by kernel_rfl) (Ent.refl _ _ _) (by kernel_rfl) ⟨false, M, rfl, rfl, hpost⟩
      · have hpost := hp.ring hv
        refine ACall.of_sw 53 Try.func82 rfl Try.ntmps82 (by kernel_rfl) (Nat.le_of_ble_eq_true (by kernel_rfl)) ?_; refine SW.of_vc ?_
        repeat first | refine opsStep ?_ | refine codeStep ?_ | refine drawStep ?_
        refine guardE_of (by simp [hll]; omega) ?_
        repeat first | refine opsStep ?_ | refine codeStep ?_ | refine drawStep ?_
        refine optE_of (c := .bool true) (by simp [Value.cells, hlq]) ?_
        repeat first | refine opsStep ?_ | refine codeStep ?_ | refine drawStep ?_
        refine guardE_of (by simp; omega) ?_
        repeat first | refine opsStep ?_ | refine codeStep ?_ | refine drawStep ?_
        refine optE_of (c := .int .i64 (1 : Nat)) (by simpa [Value.cells] using hgv) ?_
        repeat first | refine opsStep ?_ | refine codeStep ?_ | refine drawStep ?_
        refine guardE_of (by simp; omega) ?_
        repeat first | refine opsStep ?_ | refine codeStep ?_ | refine drawStep ?_
        refine optE_of (c := .int .i64 (1 : Nat)) (by simpa [Value.cells] using hgv) ?_
        repeat first | refine opsStep ?_ | refine codeStep ?_ | refine drawStep ?_
        exact finR (l := [(6, .bool true)]) (v := .bool true) ⟨(by kernel_rfl), trivial⟩ (by kernel_rfl) (Ent.refl _ _ _) (by kernel_rfl) ⟨true, M, rfl, rfl, hpost⟩
      · have hz1 := zeros_set hv (v := 1) (by decide)
        have hst := hp.start hv
        have hstop := fun M' (hs : RgSame g (M.set q 1) M') hd => hp.stop hgo hq hlp hv hs hd
        have hgoes := fun (a : Nat) (ha : a < g.K) M' (hs : RgSame g (M.set q 1) M') => hp.go hq hlp hv ha hs
        obtain ⟨r, g1, g2, g3, g4⟩ := hrow q hq
        obtain ⟨M1, hM1⟩ : ∃ M1, M.set q 1 = M1 := ⟨_, rfl⟩
        have hset1 : (iW M).set q (.int .i64 (1 : Nat)) = iW M1 := by rw [iW_set, hM1]
        rw [hM1] at hz1 hst hstop hgoes
        have hM1l := hst.len
        refine ACall.of_sw 53 Try.func82 rfl Try.ntmps82 (by kernel_rfl) (Nat.le_of_ble_eq_true (by kernel_rfl)) ?_; refine SW.of_vc ?_
        repeat first | refine opsStep ?_ | refine codeStep ?_ | refine drawStep ?_
        refine guardE_of (by simp [hll]; omega) ?_
        repeat first | refine opsStep ?_ | refine codeStep ?_ | refine drawStep ?_
        refine optE_of (c := .bool true) (by simp [Value.cells, hlq]) ?_
        repeat first | refine opsStep ?_ | refine codeStep ?_ | refine drawStep ?_
        refine guardE_of (by simp; omega) ?_
        repeat first | refine opsStep ?_ | refine codeStep ?_ | refine drawStep ?_
        refine optE_of (c := .int .i64 (0 : Nat)) (by simpa [Value.cells] using hgv) ?_
        repeat first | refine opsStep ?_ | refine codeStep ?_ | refine drawStep ?_
        refine guardE_of (by simp; omega) ?_
        repeat first | refine opsStep ?_ | refine codeStep ?_ | refine drawStep ?_
        refine optE_of (c := .int .i64 (0 : Nat)) (by simpa [Value.cells] using hgv) ?_
        repeat first | refine opsStep ?_ | refine codeStep ?_ | refine drawStep ?_
        refine guardE_of (by simp; omega) ?_
        repeat first | refine opsStep ?_ | refine codeStep ?_ | refine drawStep ?_
        refine guardE_of ⟨rfl, by decide, by show 0 + q * 1 + 1 ≤ (iW M).length; omega⟩ ?_
        repeat first | refine opsStep ?_ | refine codeStep ?_ | refine drawStep ?_
        refine guardE_of (by simp; omega) ?_
        repeat first | refine opsStep ?_ | refine codeStep ?_ | refine drawStep ?_
        refine optE_of (c := aIs r.1 r.2) (by simp [Value.cells, g1]) ?_
        repeat first | refine opsStep ?_ | refine codeStep ?_ | refine drawStep ?_
        refine loopE_of (ι := {x : Nat × List Nat // x.1 ≤ g.K ∧ RgSame g M1 x.2 ∧ ∀ a, a < x.1 → liveP g (g.st q a) → x.2[g.st q a]? = some 2})
          (fun x => (fr [(0, .ref 0 0 0), (1, .int .i64 (q : Nat)), (2, .hs 2 0 0 g.n 1), (39, aIs r.1 r.2), (40, .int .i64 (r.2.length : Nat)), (41, .int .i64 (x.1.1 : Nat))], cnC d (.sl .any g.n ((liveL g).map .bool)) kn :: B1 :: .cells 0 (iW (x.1.2)) :: X)) (fun x => g.K - x.1.1) ⟨(0, M1), Nat.zero_le _, hst, fun a ha => absurd ha (Nat.not_lt_zero _)⟩ (Ent.fr' ⟨(by kernel_rfl), (by kernel_rfl), (by kernel_rfl), (by kernel_rfl), (by kernel_rfl), (by kernel_rfl), trivial⟩ ?_) ?_
        · refine Eq.trans (b := cnC d (.sl .any g.n ((liveL g).map .bool)) kn :: B1 :: .cells 0 (over (iW M) (0 + q * 1) [.int .i64 (1 : Nat)]) :: X) (by kernel_rfl) ?_
          rw [Nat.zero_add, Nat.mul_one, over_one (by omega), hset1]
        rintro ⟨⟨a, Ma⟩, ha, hsa, hda⟩
        simp only at ha hsa hda
        repeat first | refine opsStep ?_ | refine codeStep ?_ | refine drawStep ?_
        refine decB_dec (fun hac => ?_) (fun hac => ?_)
        · have hal : a < g.K := by have := hac; simp at this; omega
          obtain ⟨g5, g6⟩ := g4 a hal
          have har : a < r.2.length := by omega
          have hpa := hgoes a hal Ma hsa
          have hza : zeros Ma ≤ k := by have := zeros_le (show Ma.length = M1.length by rw [hsa.len, hM1l]) hsa.zero; omega
          have hcall := ih Ma (g.st q a) hza hpa
          have hda' : ∀ b, b < a + 1 → liveP g (g.st q b) → b = a ∨ Ma[g.st q b]? = some 2 := fun b hb hl => by
            by_cases e : b = a
            · exact .inl e
            · exact .inr (hda b (by omega) hl)
          have hto : ∀ M', (liveP g (g.st q a) → M'[g.st q a]? = some 2) → RgSame g Ma M' → ∀ b, b < a + 1 → liveP g (g.st q b) → M'[g.st q b]? = some 2 := fun M' h1 h2 b hb hl => by
            rcases hda' b hb hl with e | e
            · subst e; exact h1 hl
            · exact h2.keep _ e
          generalize g.st q a = to at hcall g5 g6 hpa hto
          repeat first | refine opsStep ?_ | refine codeStep ?_ | refine drawStep ?_
          refine guardE_of (by simp; omega) ?_
          repeat first | refine opsStep ?_ | refine codeStep ?_ | refine drawStep ?_
          refine optE_of (c := .int .i64 (to : Nat)) (by simp [Value.cells, g5]) ?_
          repeat first | refine opsStep ?_ | refine codeStep ?_ | refine drawStep ?_
          refine callI2 hcall ?_
          rintro b M' hpost
          cases b with
          | true =>
            repeat first | refine opsStep ?_ | refine codeStep ?_ | refine drawStep ?_
            exact finR (l := [(6, .bool true)]) (v := .bool true) ⟨(by kernel_rfl), trivial⟩ (by kernel_rfl) (Ent.refl _ _ _) (by kernel_rfl) ⟨true, M', rfl, rfl, hpost⟩
          | false =>
            obtain ⟨hs', hl'⟩ := hpost
            repeat first | refine opsStep ?_ | refine codeStep ?_ | refine drawStep ?_
            exact ⟨⟨(a + 1, M'), hal, hsa.trans hs', hto M' hl' hs'⟩, (by show g.K - (a + 1) < g.K - a; omega), Ent.fr' ⟨(by kernel_rfl), (by kernel_rfl), (by kernel_rfl), (by kernel_rfl), (by kernel_rfl), inc_slot (i := a) (by omega), trivial⟩ (by kernel_rfl)⟩
        · have hae : a = g.K := by have := hac; simp at this; omega
          subst hae
          have hpost := hstop Ma hsa hda
          have hmal := hsa.len
          have hial : (iW Ma).length = g.n := by rw [iW_length, hmal]
          repeat first | refine opsStep ?_ | refine codeStep ?_ | refine drawStep ?_
          refine guardE_of (by simp; omega) ?_
          repeat first | refine opsStep ?_ | refine codeStep ?_ | refine drawStep ?_
          refine guardE_of ⟨rfl, by decide, by show 0 + q * 1 + 1 ≤ (iW Ma).length; omega⟩ ?_
          repeat first | refine opsStep ?_ | refine codeStep ?_ | refine drawStep ?_
          refine finR (l := [(6, .bool false)]) (v := .bool false) (H₁ := cnC d (.sl .any g.n ((liveL g).map .bool)) kn :: B1 :: .cells 0 (iW (Ma.set q 2)) :: X) ⟨(by kernel_rfl), trivial⟩ ?_ (Ent.refl _ _ _) (by kernel_rfl) ⟨false, Ma.set q 2, rfl, rfl, hpost⟩
          refine Eq.trans (b := cnC d (.sl .any g.n ((liveL g).map .bool)) kn :: B1 :: .cells 0 (over (iW Ma) (0 + q * 1) [.int .i64 (2 : Nat)]) :: X) (by kernel_rfl) ?_
          rw [Nat.zero_add, Nat.mul_one, over_one (by omega), iW_set]

end Tab

/- count: finite, beyond. -/
namespace Tab
open Go Go.Proofs
set_option maxRecDepth 10000
set_option linter.unusedVariables false
set_option linter.unusedSimpArgs false
set_option linter.unusedSectionVars false

noncomputable def cnH (d : Den) (g : Gr) (X : List Blk) : List Blk := cnC d (.sl .any g.n ((liveL g).map .bool)) (.hs 1 g.n 0 g.n 1) :: X
theorem count_finite (d : Den) (hd : rightS d = true) (g : Gr) (hgr : grD d = g) :
    ACall Try.prog 36 [.ref 0 0 0] (cnH d g [.cells g.n (mL g.n)]) (fun o H' => o = .ret (.bool (finT g)) ∧ H' = cnH d g [.cells g.n (mL g.n)]) := by
  have hgo : g.Ok := by rw [← hgr]; exact grD_ok hd
  have hbig := hgo.big
  have hll := liveL_length g
  have hcn : ∀ lv kn, cnC d lv kn = .cells 0 (d.cells ++ [.sl .any g.n (yL g g.n), lv, kn]) := fun lv kn => by rw [cnC, hgr]
  have hcall := count_ringed d hd g hgr (.hs 1 g.n 0 g.n 1) (.cells g.n (mL g.n)) [] (zeros (List.replicate g.n 0)) (List.replicate g.n 0) 0 (Nat.le_refl _) (RgPre.zero hgo)
  have hrep : iW (List.replicate g.n 0) = reps [.int .i64 0] g.n := by rw [reps_one]; simp [iW]
  have hfin := fun b M h => ring_fin (b := b) (M := M) hgo h
  rw [hrep] at hcall
  generalize finT g = fb at *
  rw [cnH]
  refine ACall.of_sw 12 Try.func36 rfl Try.ntmps36 (by kernel_rfl) (Nat.le_of_ble_eq_true (by kernel_rfl)) ?_; refine SW.of_vc ?_
  repeat first | refine opsStep ?_ | refine codeStep ?_ | refine drawStep ?_
  refine guardE_of ⟨by show 0 ≤ ((g.n : Nat) : Int); omega, Int.le_refl _, by show (8 : Int) * ((g.n : Nat) : Int) ≤ _; omega, by show ((g.n : Nat) : Int) ≤ _; omega⟩ ?_
  repeat first | refine opsStep ?_ | refine codeStep ?_ | refine drawStep ?_
  refine callI2 hcall ?_
  rintro b M' hpost
  have hfb := hfin b M' hpost
  subst hfb
  repeat first | refine opsStep ?_ | refine codeStep ?_ | refine drawStep ?_
  refine finR (l := [(2, .bool (!b))]) (v := .bool (!b)) (H₁ := [cnC d (.sl .any g.n ((liveL g).map .bool)) (.hs 1 g.n 0 g.n 1), .cells g.n (mL g.n), .cells 0 (iW M')]) ⟨(by kernel_rfl), trivial⟩ (by kernel_rfl) (Ent.drop (l := [(2, .bool (!b))]) (H := [cnC d (.sl .any g.n ((liveL g).map .bool)) (.hs 1 g.n 0 g.n 1), .cells g.n (mL g.n)]) (X := [.cells 0 (iW M')]) (Nat.le_refl _) (by simp [frBel, AV.bel]) ?_) (by kernel_rfl) ⟨rfl, rfl⟩
  rw [hcn]
  simp [blksBel, Blk.bel, bels_append, cells_bel, yL_bel, mL_bel, bels, AV.bel, bels_map]

end Tab

/- count: beyond. -/
namespace Tab
open Go Go.Proofs
set_option maxRecDepth 10000
set_option linter.unusedVariables false
set_option linter.unusedSimpArgs false
set_option linter.unusedSectionVars false

theorem callPan {P : Program} {f : FuncId} {args : List AV} {H : List Blk} {α : Type} {v : AV} {Hh : α → List Blk} {Q : α → Prop} {c : Prop} {X : Out → List Blk → Prop}
    (h : ACall P f args H fun o H' => ∃ a, H' = Hh a ∧ Q a ∧ ((o = .ret v ∧ c) ∨ (o = .pan ∧ ¬ c))) (k1 : c → ∀ a, Q a → X (.ret v) (Hh a)) (k2 : ¬ c → ∀ a, Q a → X .pan (Hh a)) : ∃ R : Out → List Blk → Prop, ACall P f args H R ∧ ∀ o H', R o H' → X o H' :=
  ⟨_, h, by
    rintro _ _ ⟨a, rfl, hq, ⟨rfl, hc⟩ | ⟨rfl, hc⟩⟩
    · exact k1 hc a hq
    · exact k2 hc a hq⟩
/-- A call that panics. -/
theorem callX {P : Program} {f : FuncId} {args : List AV} {H H₁ : List Blk} {X : Out → List Blk → Prop} (h : ACall P f args H fun o H' => o = .pan ∧ H' = H₁) (k : X .pan H₁) : ∃ R : Out → List Blk → Prop, ACall P f args H R ∧ ∀ o H', R o H' → X o H' :=
  ⟨_, h, by rintro _ _ ⟨rfl, rfl⟩; exact k⟩

def KnOk (g : Gr) (B : Nat → Nat) (kn : List Int) : Prop := kn.length = g.n ∧ ∀ (x : Nat) (v : Int), kn[x]? = some v → v = -1 ∨ (v = (B x : Nat) ∧ B x < 9223372036854775808)
theorem KnOk.set {g : Gr} {B : Nat → Nat} {kn : List Int} (h : KnOk g B kn) {q : Nat} (hq : B q < 9223372036854775808) : KnOk g B (kn.set q (B q : Nat)) := by
  refine ⟨by simpa using h.1, fun x v hx => ?_⟩
  rw [List.getElem?_set] at hx
  split at hx
  · rename_i e
    subst e
    split at hx
    · simp at hx; exact .inr ⟨hx.symm, hq⟩
    · simp at hx
  · exact h.2 x v hx
noncomputable def kH (d : Den) (g : Gr) (kn : List Int) (X : List Blk) : List Blk := cnC d (.sl .any g.n ((liveL g).map .bool)) (.hs 1 g.n 0 g.n 1) :: .cells g.n (kn.map (.int .i64)) :: X

set_option maxHeartbeats 1000000 in
theorem count_beyond (d : Den) (hd : rightS d = true) (g : Gr) (hgr : grD d = g) (X : List Blk) (r : Nat → Nat) (hr : ∀ x, Rch g x → ∀ y, Ed g x y → liveP g y → r y < r x) : ∀ (m q : Nat) (kn : List Int), q < g.n → KnOk g (beyN g) kn → (liveP g q → Rch g q ∧ r q < m) →
    ACall Try.prog 85 [.ref 0 0 0, .int .i64 (q : Nat)] (kH d g kn X) (fun o H' => ∃ kn', H' = kH d g kn' X ∧ KnOk g (beyN g) kn' ∧ ((o = .ret (.int .i64 (beyN g q : Nat)) ∧ beyN g q < 9223372036854775808) ∨ (o = .pan ∧ ¬ beyN g q < 9223372036854775808))) := by
  have hends := fun q a hq ha (kn : List Int) => count_ends d hd q a hq ha (.sl .any g.n ((liveL g).map .bool)) (.hs 1 g.n 0 g.n 1) (.cells g.n (kn.map (.int .i64)) :: X)
  have hrow := fun q hq => gr_row hd (q := q) hq
  have hgo := grD_ok hd
  have hel : ∀ q a, endsN (grD d) q a ≤ 64 := fun q a => Nat.le_trans (endsN_le _ _ _) (Nat.le_trans (yesTo_le _ _ _) hgo.let')
  rw [hgr] at hrow hgo hends hel
  have hstay := hgo.stay
  have hbig := hgo.big
  have hlet := hgo.let'
  have hll := liveL_length g
  have hdead := fun q => bey_dead (g := g) (q := q)
  have hrec := fun q => bey_rec hgo ⟨r, hr⟩ (q := q)
  obtain ⟨B, hB⟩ : ∃ B, beyN g = B := ⟨_, rfl⟩
  rw [hB] at hdead hrec ⊢
  intro m
  induction m with
  | zero =>
    intro q kn hq hk hl
    have hlb : liveB g q = false := by
      cases h : liveB g q with
      | false => rfl
      | true => have := (hl ((liveB_iff g).1 h)).2; omega
    have hlq := liveL_get g hq
    have hb0 : B q = 0 := hdead q fun h => by have := (liveB_iff g).2 h; rw [hlb] at this; simp at this
    rw [hlb] at hlq
    rw [hb0, kH]
    refine ACall.of_sw 63 Try.func85 rfl Try.ntmps85 (by kernel_rfl) (Nat.le_of_ble_eq_true (by kernel_rfl)) ?_; refine SW.of_vc ?_
    repeat first | refine opsStep ?_ | refine codeStep ?_ | refine drawStep ?_
    refine guardE_of (by simp [hll]; omega) ?_
    repeat first | refine opsStep ?_ | refine codeStep ?_ | refine drawStep ?_
    refine optE_of (c := .bool false) (by simp [Value.cells, hlq]) ?_
    repeat first | refine opsStep ?_ | refine codeStep ?_ | refine drawStep ?_
    exact finR (l := [(4, .int .i64 (0 : Nat))]) (v := .int .i64 (0 : Nat)) ⟨(by kernel_rfl), trivial⟩ (by kernel_rfl) (Ent.refl _ _ _) (by kernel_rfl) ⟨kn, rfl, hk, .inl ⟨rfl, by decide⟩⟩
  | succ m ih =>
    intro q kn hq hk hl
    cases hlb : liveB g q with
    | false =>
      have hlq := liveL_get g hq
      have hb0 : B q = 0 := hdead q fun h => by have := (liveB_iff g).2 h; rw [hlb] at this; simp at this
      rw [hlb] at hlq
      rw [hb0, kH]
      refine ACall.of_sw 63 Try.func85 rfl Try.ntmps85 (by kernel_rfl) (Nat.le_of_ble_eq_true (by kernel_rfl)) ?_; refine SW.of_vc ?_
      repeat first | refine opsStep ?_ | refine codeStep ?_ | refine drawStep ?_
      refine guardE_of (by simp [hll]; omega) ?_
      repeat first | refine opsStep ?_ | refine codeStep ?_ | refine drawStep ?_
      refine optE_of (c := .bool false) (by simp [Value.cells, hlq]) ?_
      repeat first | refine opsStep ?_ | refine codeStep ?_ | refine drawStep ?_
      exact finR (l := [(4, .int .i64 (0 : Nat))]) (v := .int .i64 (0 : Nat)) ⟨(by kernel_rfl), trivial⟩ (by kernel_rfl) (Ent.refl _ _ _) (by kernel_rfl) ⟨kn, rfl, hk, .inl ⟨rfl, by decide⟩⟩
    | true =>
      have hlp := (liveB_iff g).1 hlb
      obtain ⟨hrq, hrm⟩ := hl hlp
      have hlq := liveL_get g hq
      rw [hlb] at hlq
      obtain ⟨r0, g1, g2, g3, g4⟩ := hrow q hq
      have hBq := hrec q hrq
      obtain ⟨f, hf⟩ : ∃ f, (fun a => endsN g (g.st q a) a + B (g.st q a)) = f := ⟨_, rfl⟩
      rw [hf] at hBq
      have hfa : ∀ a, endsN g (g.st q a) a + B (g.st q a) = f a := fun a => congrFun hf a
      have hcall := fun a (ha : a < g.K) (kn1 : List Int) (hk1 : KnOk g B kn1) => ih (g.st q a) kn1 (hstay q a hq ha) hk1 (fun h => ⟨hrq.snoc ⟨hlp, a, ha, rfl⟩, by have := hr q hrq _ ⟨hlp, a, ha, rfl⟩ h; omega⟩)
      have hen := fun a (ha : a < g.K) (kn1 : List Int) => hends (g.st q a) a (hstay q a hq ha) ha kn1
      have hkl := hk.1
      obtain ⟨v, hv⟩ : ∃ v, kn[q]? = some v := ⟨_, List.getElem?_eq_getElem (by omega)⟩
      have hv2 := hk.2 q v hv
      have hle : ∀ a, a ≤ g.K → sumTo f a ≤ B q := fun a ha => by rw [hBq]; exact sumTo_mono ha
      have hsucc : ∀ a, sumTo f (a + 1) = sumTo f a + f a := fun a => rfl
      clear hends ih hl hr hdead hrec hf
      rw [kH]
      rcases hv2 with rfl | ⟨rfl, hfit⟩
      · refine ACall.of_sw 63 Try.func85 rfl Try.ntmps85 (by kernel_rfl) (Nat.le_of_ble_eq_true (by kernel_rfl)) ?_; refine SW.of_vc ?_
        repeat first | refine opsStep ?_ | refine codeStep ?_ | refine drawStep ?_
        refine guardE_of (by simp [hll]; omega) ?_
        repeat first | refine opsStep ?_ | refine codeStep ?_ | refine drawStep ?_
        refine optE_of (c := .bool true) (by simp [Value.cells, hlq]) ?_
        repeat first | refine opsStep ?_ | refine codeStep ?_ | refine drawStep ?_
        refine guardE_of (by simp; omega) ?_
        repeat first | refine opsStep ?_ | refine codeStep ?_ | refine drawStep ?_
        refine guardE_of rfl ?_
        refine optE_of rfl ?_
        refine optE_of (c := .int .i64 (-1)) (by show (kn.map (AV.int .i64))[0 + q * 1]? = _; simp [hv]) ?_
        repeat first | refine opsStep ?_ | refine codeStep ?_ | refine drawStep ?_
        refine guardE_of (by simp; omega) ?_
        repeat first | refine opsStep ?_ | refine codeStep ?_ | refine drawStep ?_
        refine optE_of (c := aIs r0.1 r0.2) (by simp [Value.cells, g1]) ?_
        repeat first | refine opsStep ?_ | refine codeStep ?_ | refine drawStep ?_
        refine loopE_of (ι := {x : Nat × List Int // x.1 ≤ g.K ∧ KnOk g B x.2 ∧ sumTo f x.1 < 9223372036854775808})
          (fun x => (fr [(0, .ref 0 0 0), (1, .int .i64 (q : Nat)), (5, .int .i64 (sumTo f x.1.1 : Nat)), (31, aIs r0.1 r0.2), (32, .int .i64 (r0.2.length : Nat)), (33, .int .i64 (x.1.1 : Nat))], cnC d (.sl .any g.n ((liveL g).map .bool)) (.hs 1 g.n 0 g.n 1) :: .cells g.n ((x.1.2).map (.int .i64)) :: X)) (fun x => g.K - x.1.1) ⟨(0, kn), Nat.zero_le _, hk, by show (0 : Nat) < _; decide⟩ (Ent.fr' ⟨(by kernel_rfl), (by kernel_rfl), (by kernel_rfl), (by kernel_rfl), (by kernel_rfl), (by kernel_rfl), trivial⟩ (by kernel_rfl)) ?_
        rintro ⟨⟨a, kn1⟩, ha, hk1, hs1⟩
        simp only at ha hk1 hs1
        repeat first | refine opsStep ?_ | refine codeStep ?_ | refine drawStep ?_
        refine decB_dec (fun hac => ?_) (fun hac => ?_)
        · have hal : a < g.K := by have := hac; simp at this; omega
          obtain ⟨g5, g6⟩ := g4 a hal
          have har : a < r0.2.length := by omega
          have hcall := hcall a hal kn1 hk1
          have hen := hen a hal kn1
          have hel := hel (g.st q a) a
          have hfa := hfa a
          have hsu := hsucc a
          have hle1 := hle (a + 1) hal
          rw [kH] at hcall
          generalize endsN g (g.st q a) a = en at *
          obtain ⟨Bt, hBt⟩ : ∃ Bt, B (g.st q a) = Bt := ⟨_, rfl⟩
          rw [hBt] at hcall hfa
          generalize g.st q a = to at hcall hen g5 g6
          obtain ⟨fa, hfe⟩ : ∃ fa, f a = fa := ⟨_, rfl⟩
          rw [hfe] at hfa hsu
          repeat first | refine opsStep ?_ | refine codeStep ?_ | refine drawStep ?_
          refine guardE_of (by simp; omega) ?_
          repeat first | refine opsStep ?_ | refine codeStep ?_ | refine drawStep ?_
          refine optE_of (c := .int .i64 (to : Nat)) (by simp [Value.cells, g5]) ?_
          repeat first | refine opsStep ?_ | refine codeStep ?_ | refine drawStep ?_
          refine callH hen ?_
          repeat first | refine opsStep ?_ | refine codeStep ?_ | refine drawStep ?_
          refine callPan hcall (fun hc kn2 hk2 => ?_) (fun hc kn2 hk2 => ?_)
          · by_cases h3 : en + Bt < 9223372036854775808
            · have hsum := count_sum en Bt h3
              rw [hfa] at hsum
              by_cases h4 : sumTo f a + fa < 9223372036854775808
              · have hsum2 := count_sum (sumTo f a) fa h4
                repeat first | refine opsStep ?_ | refine codeStep ?_ | refine drawStep ?_
                refine callP hsum ?_
                repeat first | refine opsStep ?_ | refine codeStep ?_ | refine drawStep ?_
                refine callP hsum2 ?_
                repeat first | refine opsStep ?_ | refine codeStep ?_ | refine drawStep ?_
                refine ⟨⟨(a + 1, kn2), hal, hk2, by show sumTo f (a + 1) < _; omega⟩, (by show g.K - (a + 1) < g.K - a; omega), Ent.fr' ⟨(by kernel_rfl), (by kernel_rfl), ?_, (by kernel_rfl), (by kernel_rfl), inc_slot (i := a) (by omega), trivial⟩ (by kernel_rfl)⟩
                refine Eq.trans (b := .int .i64 ((sumTo f a + fa : Nat) : Int)) (by kernel_rfl) ?_
                rw [← hsu]
              · have hsum2 := count_sumPan (sumTo f a) fa hs1 (by omega) h4
                repeat first | refine opsStep ?_ | refine codeStep ?_ | refine drawStep ?_
                refine callP hsum ?_
                repeat first | refine opsStep ?_ | refine codeStep ?_ | refine drawStep ?_
                refine callX (hsum2 _) ?_
                exact ⟨_, _, Ent.refl _ _ _, kn2, rfl, hk2, .inr ⟨rfl, by omega⟩⟩
            · have hsum := count_sumPan en Bt (by omega) hc h3
              repeat first | refine opsStep ?_ | refine codeStep ?_ | refine drawStep ?_
              refine callX (hsum _) ?_
              exact ⟨_, _, Ent.refl _ _ _, kn2, rfl, hk2, .inr ⟨rfl, by omega⟩⟩
          · exact ⟨_, _, Ent.refl _ _ _, kn2, rfl, hk2, .inr ⟨rfl, by omega⟩⟩
        · have hae : a = g.K := by have := hac; simp at this; omega
          subst hae
          have hkl1 := hk1.1
          have hfit : B q < 9223372036854775808 := by omega
          have hkset := hk1.set hfit
          have hmap : (kn1.map (AV.int .i64)).set q (.int .i64 (B q : Nat)) = (kn1.set q (B q : Nat)).map (.int .i64) := by rw [List.map_set]
          have hgs : ((kn1.map (AV.int .i64)).set q (.int .i64 (B q : Nat)))[q]? = some (.int .i64 (B q : Nat)) := by rw [List.getElem?_set, if_pos rfl, if_pos (by rw [List.length_map]; omega)]
          have hov : over (kn1.map (AV.int .i64)) (0 + q * 1) [.int .i64 (B q : Nat)] = (kn1.map (AV.int .i64)).set q (.int .i64 (B q : Nat)) := by rw [Nat.zero_add, Nat.mul_one, over_one (by rw [List.length_map]; omega)]
          rw [← hBq] at hs1
          repeat first | refine opsStep ?_ | refine codeStep ?_ | refine drawStep ?_
          refine guardE_of (by simp; omega) ?_
          repeat first | refine opsStep ?_ | refine codeStep ?_ | refine drawStep ?_
          refine guardE_of rfl ?_
          refine optE_of rfl ?_
          refine optE_of rfl ?_
          refine guardE_of ⟨rfl, by decide, by show 0 + q * 1 + 1 ≤ (kn1.map (AV.int .i64)).length; rw [List.length_map]; omega⟩ ?_
          repeat first | refine opsStep ?_ | refine codeStep ?_ | refine drawStep ?_
          refine guardE_of (by simp; omega) ?_
          repeat first | refine opsStep ?_ | refine codeStep ?_ | refine drawStep ?_
          refine guardE_of rfl ?_
          refine optE_of rfl ?_
          refine optE_of (c := .int .i64 (B q : Nat)) (by show (over (kn1.map (AV.int .i64)) (0 + q * 1) [.int .i64 (sumTo f g.K : Nat)])[0 + q * 1]? = _; rw [← hBq, hov, Nat.zero_add, Nat.mul_one]; exact hgs) ?_
          repeat first | refine opsStep ?_ | refine codeStep ?_ | refine drawStep ?_
          refine finR (l := [(4, .int .i64 (B q : Nat))]) (v := .int .i64 (B q : Nat)) (H₁ := kH d g (kn1.set q (B q : Nat)) X) ⟨(by kernel_rfl), trivial⟩ ?_ (Ent.refl _ _ _) (by kernel_rfl) ⟨_, rfl, hkset, .inl ⟨rfl, hfit⟩⟩
          refine Eq.trans (b := cnC d (.sl .any g.n ((liveL g).map .bool)) (.hs 1 g.n 0 g.n 1) :: .cells g.n (over (kn1.map (AV.int .i64)) (0 + q * 1) [.int .i64 (sumTo f g.K : Nat)]) :: X) (by kernel_rfl) ?_
          rw [← hBq, hov, hmap, kH]
      · refine ACall.of_sw 63 Try.func85 rfl Try.ntmps85 (by kernel_rfl) (Nat.le_of_ble_eq_true (by kernel_rfl)) ?_; refine SW.of_vc ?_
        repeat first | refine opsStep ?_ | refine codeStep ?_ | refine drawStep ?_
        refine guardE_of (by simp [hll]; omega) ?_
        repeat first | refine opsStep ?_ | refine codeStep ?_ | refine drawStep ?_
        refine optE_of (c := .bool true) (by simp [Value.cells, hlq]) ?_
        repeat first | refine opsStep ?_ | refine codeStep ?_ | refine drawStep ?_
        refine guardE_of (by simp; omega) ?_
        repeat first | refine opsStep ?_ | refine codeStep ?_ | refine drawStep ?_
        refine guardE_of rfl ?_
        refine optE_of rfl ?_
        refine optE_of (c := .int .i64 (B q : Nat)) (by show (kn.map (AV.int .i64))[0 + q * 1]? = _; simp [hv]) ?_
        repeat first | refine opsStep ?_ | refine codeStep ?_ | refine drawStep ?_
        refine guardE_of (by simp; omega) ?_
        repeat first | refine opsStep ?_ | refine codeStep ?_ | refine drawStep ?_
        refine guardE_of rfl ?_
        refine optE_of rfl ?_
        refine optE_of (c := .int .i64 (B q : Nat)) (by show (kn.map (AV.int .i64))[0 + q * 1]? = _; simp [hv]) ?_
        repeat first | refine opsStep ?_ | refine codeStep ?_ | refine drawStep ?_
        exact finR (l := [(4, .int .i64 (B q : Nat))]) (v := .int .i64 (B q : Nat)) ⟨(by kernel_rfl), trivial⟩ (by kernel_rfl) (Ent.refl _ _ _) (by kernel_rfl) ⟨kn, rfl, hk, .inl ⟨rfl, hfit⟩⟩

end Tab
