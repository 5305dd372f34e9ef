/- Lemmas for this claim: part 13. No condition. -/
import Derived.Test.YtbglkpnchafdpaaZ12
/- The language of what Join answers. -/
namespace Tab
open Go Go.Proofs
set_option maxRecDepth 10000
set_option linter.unusedVariables false
set_option linter.unusedSimpArgs false
set_option linter.unusedSectionVars false

theorem join_made {op : Int} {d e : Den} (h : joinE op d e = 0) : rightS d = true ∧ rightS e = true ∧ (3 ≤ op ∧ op ≤ 6) ∧ (unN d e).length ≤ 6 ∧ widenE d (unN d e) = 0 ∧ widenE e (unN d e) = 0 ∧ risesS (unN d e) = true ∧
    rightS (widenD d (unN d e)) = true ∧ rightS (widenD e (unN d e)) = true ∧ ∃ L, prdR (widenD d (unN d e)) (widenD e (unN d e)) = some L ∧ joinV op d e = prdM (holdsS op) (unN d e) (widenD d (unN d e)) (widenD e (unN d e)) L := by
  obtain ⟨h1, h2, h6⟩ := joinE_ok h
  have h' := h
  rw [joinE_made h1 h2 h6] at h'
  obtain ⟨hd, he⟩ := Bool.and_eq_true_iff.1 h1
  obtain ⟨L, hL⟩ := prd_zero h'
  have hu := unN_rises hd he
  obtain ⟨i1, i2⟩ := unN_in (d := d) (e := e)
  exact ⟨hd, he, h2, h6, widenE_ok hd hu h6 i1, widenE_ok he hu h6 i2, hu, widenD_right hd h6 hu, widenD_right he h6 hu, L, hL, joinV_ok h hL⟩
theorem join_right {op : Int} {d e : Den} (h : joinE op d e = 0) : rightS (joinV op d e) = true ∧ (joinV op d e).tracks = unN d e ∧
    lang (joinV op d e) = prodL (holdsS op) (unN d e).length (lang (widenD d (unN d e))) (lang (widenD e (unN d e))) := by
  obtain ⟨hd, he, h2, h6, w0, v0, hu, wr, vr, L, hL, hv⟩ := join_made h
  rw [hv]
  exact ⟨prd_right wr vr rfl hu rfl hL, rfl, prd_lang (hk := rfl) (hnk := rfl) (hL := hL)⟩
theorem join_sound {op : Int} {d e : Den} (h : joinE op d e = 0) (h1 : soundD d = true) (h2 : soundD e = true) : soundD (joinV op d e) = true := by
  obtain ⟨hd, he, _, h6, w0, v0, hu, wr, vr, L, hL, _⟩ := join_made h
  obtain ⟨g1, g2, g3⟩ := join_right h
  have s1 := wid_sound w0
  have s2 := wid_sound v0
  rw [widenR_ok w0, h1] at s1
  rw [widenR_ok v0, h2] at s2
  rw [soundD_iff wr] at s1
  rw [soundD_iff vr] at s2
  rw [soundD_iff g1, g2, g3]
  exact prodL_sound s1 s2
theorem join_nil {op : Int} {d e : Den} (h : joinE op d e = 0) : ∃ l, (joinV op d e).accept = false :: l := by
  obtain ⟨hd, he, _, h6, w0, v0, hu, wr, vr, L, hL, hv⟩ := join_made h
  obtain ⟨r, hr⟩ := expl_prefix (f := pf (widenD d (unN d e)) (widenD e (unN d e))) 300 0 [stP]
  rw [(explO_some hL).1] at hr
  rw [hv, prdM, hr]
  exact ⟨_, rfl⟩
theorem join_takes {op : Int} {d e : Den} (h : joinE op d e = 0) {w : List Nat} (hw : Lets (unN d e).length w) (hne : w ≠ []) : lang (joinV op d e) w = holdsS op (lang (widenD d (unN d e)) w) (lang (widenD e (unN d e)) w) := by
  obtain ⟨_, _, h3⟩ := join_right h
  rw [h3, prodL, letB_iff.2 hw]
  cases w with
  | nil => exact absurd rfl hne
  | cons a w => simp

end Tab

/- Laws of products: the canonical machines. -/
namespace Tab
open Go Go.Proofs
set_option maxRecDepth 10000
set_option linter.unusedVariables false
set_option linter.unusedSimpArgs false
set_option linter.unusedSectionVars false

/-- A language without the empty word, over k tracks. -/
def cutL (k : Nat) (K : Lang) : Lang := fun w => letB k w && (!w.isEmpty && K w)
theorem cutL_congr {k : Nat} {K J : Lang} (h : ∀ w, Lets k w → w ≠ [] → K w = J w) : cutL k K = cutL k J := by
  funext w
  rw [cutL, cutL]
  cases e : letB k w with
  | false => rfl
  | true =>
    cases w with
    | nil => rfl
    | cons a w => rw [h _ (letB_iff.1 e) (by simp)]
theorem cutL_at {k : Nat} {K : Lang} {w : List Nat} (h : Lets k w) (hne : w ≠ []) : cutL k K w = K w := by
  rw [cutL, letB_iff.2 h]
  cases w with
  | nil => exact absurd rfl hne
  | cons a w => simp

@[irreducible] def jV (op : Int) (d e : Den) : Den := if joinE op d e = 0 then minD (joinV op d e) else den0
@[irreducible] def nV (d : Den) : Den := if notE d = 0 then minD (notV d) else den0
def extL (U : List (List UInt8)) (x : Den) : Lang := lang (widenD x U)

def Can (v : Den) (U : List (List UInt8)) (K : Lang) : Prop := ∃ X, v = minD X ∧ rightS X = true ∧ X.tracks = U ∧ lang X = cutL U.length K
theorem Can.same {v v' : Den} {U : List (List UInt8)} {K K' : Lang} (h1 : Can v U K) (h2 : Can v' U K') (h : ∀ w, Lets U.length w → w ≠ [] → K w = K' w) : sameD v v' = true := by
  obtain ⟨X, rfl, a1, a2, a3⟩ := h1
  obtain ⟨Y, rfl, b1, b2, b3⟩ := h2
  exact minD_same a1 b1 (by rw [a2, b2]) (by rw [a3, b3]; exact cutL_congr h)
theorem Can.right {v : Den} {U : List (List UInt8)} {K : Lang} (h : Can v U K) : rightS v = true := by
  obtain ⟨X, rfl, a1, _⟩ := h; exact min_right a1
theorem Can.tracks {v : Den} {U : List (List UInt8)} {K : Lang} (h : Can v U K) : v.tracks = U := by
  obtain ⟨X, rfl, _, a2, _⟩ := h; exact a2
theorem Can.at {v : Den} {U : List (List UInt8)} {K : Lang} (h : Can v U K) {w : List Nat} (hw : Lets U.length w) (hne : w ≠ []) : lang v w = K w := by
  obtain ⟨X, rfl, a1, a2, a3⟩ := h
  rw [min_lang a1, a3, cutL_at hw hne]
theorem jV_can {op : Int} {d e : Den} (h : joinE op d e = 0) : Can (jV op d e) (unN d e) fun w => holdsS op (extL (unN d e) d w) (extL (unN d e) e w) := by
  obtain ⟨a1, a2, a3⟩ := join_right h
  exact ⟨joinV op d e, by rw [jV, if_pos h], a1, a2, a3⟩
theorem nV_can {d : Den} (h : notE d = 0) : Can (nV d) d.tracks fun w => !lang d w := by
  obtain ⟨a1, a2, a3⟩ := not_right h
  exact ⟨notV d, by rw [nV, if_pos h], a1, a2, a3⟩
theorem ext_at {x : Den} {U : List (List UInt8)} (h : widenE x U = 0) {w : List Nat} (hw : Lets U.length w) : extL U x w = lang x (w.map fun a => gatN a (placesOf x.tracks U)) := by
  have := wid_lang h hw
  rwa [widenR_ok h] at this
theorem ext_can {v : Den} {V U : List (List UInt8)} {K : Lang} (h : Can v V K) (hU : widenE v U = 0) {w : List Nat} (hw : Lets U.length w) (hne : w ≠ []) : extL U v w = K (w.map fun a => gatN a (placesOf V U)) := by
  have hl := lets_gat (n := U.length) (P := placesOf V U) w
  have hk := (wid_ok hU).len
  rw [h.tracks] at hk
  rw [hk] at hl
  rw [ext_at hU hw, h.tracks]
  exact h.at hl (by simpa using hne)
theorem ext_not {d : Den} {U : List (List UInt8)} (h : notE d = 0) (hU : widenE d U = 0) (hn : widenE (nV d) U = 0) {w : List Nat} (hw : Lets U.length w) (hne : w ≠ []) : extL U (nV d) w = !extL U d w := by
  rw [ext_can (nV_can h) hn hw hne, ext_at hU hw]
theorem ext_own {d : Den} (h : rightS d = true) : extL d.tracks d = lang d := by
  obtain ⟨_, h2, _⟩ := widenD_own h
  funext w
  rw [extL, lang, lang, langR, langR, h2]
  rfl
theorem ext_own' {v : Den} {U : List (List UInt8)} {K : Lang} (h : Can v U K) {w : List Nat} (hw : Lets U.length w) (hne : w ≠ []) : extL U v w = K w := by
  have h' := h.at hw hne
  have e := ext_own h.right
  rw [h.tracks] at e
  rw [e]; exact h'

theorem unN_comm (d e : Den) : unN d e = unN e d := strict_eq (tog_strict _) (tog_strict _) fun x => by rw [unN, unN, tog_mem, tog_mem, List.mem_append, List.mem_append]; exact or_comm
theorem unN_eq {d e : Den} {U V : List (List UInt8)} (h1 : d.tracks = U) (h2 : e.tracks = V) : unN d e = togS (U ++ V) := by rw [unN, h1, h2]
theorem tog_twice {U : List (List UInt8)} (h : Strict U) : togS (U ++ U) = U := strict_eq (tog_strict _) h fun x => by rw [tog_mem, List.mem_append, or_self]

section
variable {d e : Den}
theorem pl_comm {op : Int} (hc : ∀ a b, holdsS op a b = holdsS op b a) (h : joinE op d e = 0) (h' : joinE op e d = 0) : sameD (jV op d e) (jV op e d) = true := by
  have h2 := jV_can h'
  rw [unN_comm e d] at h2
  exact (jV_can h).same h2 fun w _ _ => hc _ _
theorem pl_morgan (h : joinE 3 d e = 0) (hl : notE d = 0) (hm : notE e = 0) (ha : notE (jV 3 d e) = 0) (hb : joinE 4 (nV d) (nV e) = 0) : sameD (nV (jV 3 d e)) (jV 4 (nV d) (nV e)) = true := by
  have c0 := jV_can h
  have c1 := nV_can ha
  rw [c0.tracks] at c1
  have c2 := jV_can hb
  obtain ⟨_, _, _, _, w0, v0, _⟩ := join_made h
  obtain ⟨_, _, _, _, p0, q0, _⟩ := join_made hb
  have hu : unN (nV d) (nV e) = unN d e := by rw [unN_eq (nV_can hl).tracks (nV_can hm).tracks, unN]
  rw [hu] at c2 p0 q0
  refine c1.same c2 fun w hw hne => ?_
  rw [c0.at hw hne, ext_not hl w0 p0 hw hne, ext_not hm v0 q0 hw hne]
  cases extL (unN d e) d w <;> cases extL (unN d e) e w <;> rfl
theorem pl_implies (h : joinE 5 d e = 0) (hl : notE d = 0) (hb : joinE 4 (nV d) e = 0) : sameD (jV 5 d e) (jV 4 (nV d) e) = true := by
  have c0 := jV_can h
  have c2 := jV_can hb
  obtain ⟨_, _, _, _, w0, v0, _⟩ := join_made h
  obtain ⟨_, _, _, _, p0, q0, _⟩ := join_made hb
  have hu : unN (nV d) e = unN d e := by rw [unN_eq (nV_can hl).tracks rfl, unN]
  rw [hu] at c2 p0 q0
  refine c0.same c2 fun w hw hne => ?_
  rw [ext_not hl w0 p0 hw hne]
  cases extL (unN d e) d w <;> cases extL (unN d e) e w <;> rfl
theorem pl_iff (h : joinE 6 d e = 0) (hj : joinE 5 d e = 0) (hk : joinE 5 e d = 0) (hb : joinE 3 (jV 5 d e) (jV 5 e d) = 0) : sameD (jV 6 d e) (jV 3 (jV 5 d e) (jV 5 e d)) = true := by
  have c0 := jV_can h
  have cj := jV_can hj
  have ck := jV_can hk
  have c2 := jV_can hb
  rw [unN_comm e d] at ck
  have hu : unN (jV 5 d e) (jV 5 e d) = unN d e := by rw [unN_eq cj.tracks ck.tracks]; exact tog_twice (tog_strict _)
  rw [hu] at c2
  refine c0.same c2 fun w hw hne => ?_
  rw [ext_own' cj hw hne, ext_own' ck hw hne]
  cases extL (unN d e) d w <;> cases extL (unN d e) e w <;> rfl
theorem pl_self (h : joinE 3 d d = 0) (hl : notE d = 0) (hb : notE (nV d) = 0) : sameD (jV 3 d d) (nV (nV d)) = true := by
  have c0 := jV_can h
  obtain ⟨hr, _, _, _, w0, _⟩ := join_made h
  obtain ⟨_, hs, _, _⟩ := tracksS_parts (rightS_parts hr).1
  have hu : unN d d = d.tracks := tog_twice (rises_strict hs)
  rw [hu] at c0
  have cl := nV_can hl
  have cb := nV_can hb
  rw [cl.tracks] at cb
  refine c0.same cb fun w hw hne => ?_
  rw [cl.at hw hne, ext_own hr]
  cases lang d w <;> rfl
end

theorem jV_den {op : Int} {d e : Den} (hd : DenOk d) (he : DenOk e) : DenOk (jV op d e) := by
  rw [jV]
  split
  · rename_i h; exact minD_ok (joinV_den hd he) (join_right h).1
  · exact den0_ok
theorem nV_den {d : Den} (hd : DenOk d) : DenOk (nV d) := by
  rw [nV]
  split
  · rename_i h; exact minD_ok (notV_den hd) (not_right h).1
  · exact den0_ok

end Tab

/- Layer 16: the law ProdLaws. -/
namespace Tab
open Go Go.Proofs
set_option maxRecDepth 10000
set_option linter.unusedVariables false
set_option linter.unusedSimpArgs false
set_option linter.unusedSectionVars false

theorem jV_bad {op : Int} {d e : Den} (h : joinE op d e ≠ 0) : jV op d e = den0 := by rw [jV, if_neg h]
theorem jV_ok {op : Int} {d e : Den} (h : joinE op d e = 0) : jV op d e = minD (joinV op d e) := by rw [jV, if_pos h]
theorem nV_bad {d : Den} (h : notE d ≠ 0) : nV d = den0 := by rw [nV, if_neg h]
theorem nV_ok {d : Den} (h : notE d = 0) : nV d = minD (notV d) := by rw [nV, if_pos h]

theorem law16_joined (op : Int) (d e : Den) (hd : DenOk d) (he : DenOk e) : Pure Try.prog 25 [.int .i64 op, aDen d, aDen e] (.tup [aDen (jV op d e), .bool (decide (joinE op d e = 0))]) := by
  have hj := prod_JoinV op d e hd he
  have hok := joinV_den (op := op) hd he
  have hbad := fun h => jV_bad (op := op) (d := d) (e := e) h
  have hgood := fun h => jV_ok (op := op) (d := d) (e := e) h
  have hright := fun h => (join_right (op := op) (d := d) (e := e) h).1
  generalize joinV op d e = m at *
  generalize jV op d e = v at *
  generalize joinE op d e = z at *
  have hm := canon_Minimal m hok
  refine Pure.of_sw 29 Try.func25 rfl Try.ntmps25 (by kernel_rfl) (Nat.le_of_ble_eq_true (by kernel_rfl)) (by simp [closeds, AV.closed, aSs_closed, aIs_closed, aBs_closed, aRs_closed, aDen_closed]) (by simp [AV.closed, closeds, aSs_closed, aIs_closed, aBs_closed, aRs_closed, aDen_closed]) ?_; refine SW.of_vc ?_
  repeat first | refine opsStep ?_ | refine codeStep ?_ | refine drawStep ?_
  refine callP hj ?_
  repeat first | refine opsStep ?_ | refine codeStep ?_ | refine drawStep ?_
  refine decB_dec (fun hz => ?_) (fun hz => ?_)
  · have hz : ¬ z = 0 := hz
    repeat first | refine opsStep ?_ | refine codeStep ?_ | refine drawStep ?_
    exact finV (v' := .tup [aDen den0, .bool false]) (by kernel_rfl) (by rw [hbad hz, decide_eq_false hz])
  · have hz : z = 0 := Decidable.of_not_not hz
    have hm := hm (hright hz)
    repeat first | refine opsStep ?_ | refine codeStep ?_ | refine drawStep ?_
    refine callP hm ?_
    repeat first | refine opsStep ?_ | refine codeStep ?_ | refine drawStep ?_
    exact finV (v' := .tup [aDen (minD m), .bool true]) (by kernel_rfl) (by rw [hgood hz, decide_eq_true hz])

theorem law16_negated (d : Den) (hd : DenOk d) : Pure Try.prog 26 [aDen d] (.tup [aDen (nV d), .bool (decide (notE d = 0))]) := by
  have hj := prod_NotV d hd
  have hok := notV_den hd
  have hbad := fun h => nV_bad (d := d) h
  have hgood := fun h => nV_ok (d := d) h
  have hright := fun h => (not_right (d := d) h).1
  generalize notV d = m at *
  generalize nV d = v at *
  generalize notE d = z at *
  have hm := canon_Minimal m hok
  refine Pure.of_sw 23 Try.func26 rfl Try.ntmps26 (by kernel_rfl) (Nat.le_of_ble_eq_true (by kernel_rfl)) (by simp [closeds, AV.closed, aSs_closed, aIs_closed, aBs_closed, aRs_closed, aDen_closed]) (by simp [AV.closed, closeds, aSs_closed, aIs_closed, aBs_closed, aRs_closed, aDen_closed]) ?_; refine SW.of_vc ?_
  repeat first | refine opsStep ?_ | refine codeStep ?_ | refine drawStep ?_
  refine callP hj ?_
  repeat first | refine opsStep ?_ | refine codeStep ?_ | refine drawStep ?_
  refine decB_dec (fun hz => ?_) (fun hz => ?_)
  · have hz : ¬ z = 0 := hz
    repeat first | refine opsStep ?_ | refine codeStep ?_ | refine drawStep ?_
    exact finV (v' := .tup [aDen den0, .bool false]) (by kernel_rfl) (by rw [hbad hz, decide_eq_false hz])
  · have hz : z = 0 := Decidable.of_not_not hz
    have hm := hm (hright hz)
    repeat first | refine opsStep ?_ | refine codeStep ?_ | refine drawStep ?_
    refine callP hm ?_
    repeat first | refine opsStep ?_ | refine codeStep ?_ | refine drawStep ?_
    exact finV (v' := .tup [aDen (minD m), .bool true]) (by kernel_rfl) (by rw [hgood hz, decide_eq_true hz])

theorem VCode.cut {P : Program} {nt : Fr} {x y : Code} {s : Slots} {H : List Blk} {K : Post} (s' : Slots) (H' : List Blk) (h1 : VCode P nt x s H (joinK nt s' H' K)) (h2 : VCode P nt y s' H' K) : VCode P nt (.seq x y) s H K := by
  refine ⟨SW.seq (SW.mono h1.out fun e s₁ H₁ h => ?_)⟩
  cases e with
  | normal => exact h2.out.ent h
  | _ => exact h

theorem holds_comm {op : Int} (h : op = 3 ∨ op = 4 ∨ op = 6) (a b : Bool) : holdsS op a b = holdsS op b a := by
  rcases h with rfl | rfl | rfl <;> cases a <;> cases b <;> rfl

theorem law_ProdLaws (d e : Den) (hd : DenOk d) (he : DenOk e) : Pure Try.prog 6 [aDen d, aDen e] (.bool true) := by
  have h1 := law16_joined 3 d e hd he
  have h2 := law16_joined 3 e d he hd
  have h3 := law16_joined 4 d e hd he
  have h4 := law16_joined 4 e d he hd
  have h5 := law16_joined 6 d e hd he
  have h6 := law16_joined 6 e d he hd
  have h7 := law16_joined 5 d e hd he
  have h8 := law16_joined 5 e d he hd
  have h9 := law16_negated d hd
  have h10 := law16_negated e he
  have o1 := jV_den (op := 3) hd he
  have o2 := jV_den (op := 3) he hd
  have o3 := jV_den (op := 4) hd he
  have o4 := jV_den (op := 4) he hd
  have o5 := jV_den (op := 6) hd he
  have o6 := jV_den (op := 6) he hd
  have o7 := jV_den (op := 5) hd he
  have o8 := jV_den (op := 5) he hd
  have o9 := nV_den hd
  have o10 := nV_den he
  have h11 := law16_negated (jV 3 d e) o1
  have h12 := law16_joined 4 (nV d) (nV e) o9 o10
  have h13 := law16_joined 4 (nV d) e o9 he
  have h14 := law16_joined 3 (jV 5 d e) (jV 5 e d) o7 o8
  have h15 := law16_joined 3 d d hd hd
  have h16 := law16_negated (nV d) o9
  have o11 := nV_den o1
  have o12 := jV_den (op := 4) o9 o10
  have o13 := jV_den (op := 4) o9 he
  have o14 := jV_den (op := 3) o7 o8
  have o15 := jV_den (op := 3) hd hd
  have o16 := nV_den o9
  have s1 := r12_SameDense _ _ o1 o2
  have s2 := r12_SameDense _ _ o3 o4
  have s3 := r12_SameDense _ _ o5 o6
  have s4 := r12_SameDense _ _ o11 o12
  have s5 := r12_SameDense _ _ o7 o13
  have s6 := r12_SameDense _ _ o5 o14
  have s7 := r12_SameDense _ _ o15 o16
  have f1 := fun h h' => pl_comm (op := 3) (d := d) (e := e) (holds_comm (.inl rfl)) h h'
  have f2 := fun h h' => pl_comm (op := 4) (d := d) (e := e) (holds_comm (.inr (.inl rfl))) h h'
  have f3 := fun h h' => pl_comm (op := 6) (d := d) (e := e) (holds_comm (.inr (.inr rfl))) h h'
  have f4 := fun h hl hm ha hb => pl_morgan (d := d) (e := e) h hl hm ha hb
  have f5 := fun h hl hb => pl_implies (d := d) (e := e) h hl hb
  have f6 := fun h hj hk hb => pl_iff (d := d) (e := e) h hj hk hb
  have f7 := fun h hl hb => pl_self (d := d) h hl hb
  generalize jV 3 (jV 5 d e) (jV 5 e d) = v14 at *
  generalize joinE 3 (jV 5 d e) (jV 5 e d) = z14 at *
  generalize jV 4 (nV d) (nV e) = v12 at *
  generalize joinE 4 (nV d) (nV e) = z12 at *
  generalize jV 4 (nV d) e = v13 at *
  generalize joinE 4 (nV d) e = z13 at *
  generalize nV (jV 3 d e) = v11 at *
  generalize notE (jV 3 d e) = z11 at *
  generalize nV (nV d) = v16 at *
  generalize notE (nV d) = z16 at *
  generalize jV 3 d d = v15 at *
  generalize joinE 3 d d = z15 at *
  generalize jV 3 d e = v1 at *
  generalize joinE 3 d e = z1 at *
  generalize jV 3 e d = v2 at *
  generalize joinE 3 e d = z2 at *
  generalize jV 4 d e = v3 at *
  generalize joinE 4 d e = z3 at *
  generalize jV 4 e d = v4 at *
  generalize joinE 4 e d = z4 at *
  generalize jV 6 d e = v5 at *
  generalize joinE 6 d e = z5 at *
  generalize jV 6 e d = v6 at *
  generalize joinE 6 e d = z6 at *
  generalize jV 5 d e = v7 at *
  generalize joinE 5 d e = z7 at *
  generalize jV 5 e d = v8 at *
  generalize joinE 5 e d = z8 at *
  generalize nV d = v9 at *
  generalize notE d = z9 at *
  generalize nV e = v10 at *
  generalize notE e = z10 at *
  obtain ⟨ba, ea⟩ : ∃ b, decide (z1 = 0) = b := ⟨_, rfl⟩
  obtain ⟨bb, eb⟩ : ∃ b, decide (z2 = 0) = b := ⟨_, rfl⟩
  obtain ⟨bc, ec⟩ : ∃ b, decide (z3 = 0) = b := ⟨_, rfl⟩
  obtain ⟨bg, eg⟩ : ∃ b, decide (z4 = 0) = b := ⟨_, rfl⟩
  obtain ⟨bh, eh⟩ : ∃ b, decide (z5 = 0) = b := ⟨_, rfl⟩
  obtain ⟨bi, ei⟩ : ∃ b, decide (z6 = 0) = b := ⟨_, rfl⟩
  obtain ⟨bj, ej⟩ : ∃ b, decide (z7 = 0) = b := ⟨_, rfl⟩
  obtain ⟨bk, ek⟩ : ∃ b, decide (z8 = 0) = b := ⟨_, rfl⟩
  obtain ⟨bl, el⟩ : ∃ b, decide (z9 = 0) = b := ⟨_, rfl⟩
  obtain ⟨bm, em⟩ : ∃ b, decide (z10 = 0) = b := ⟨_, rfl⟩
  obtain ⟨b11, e11⟩ : ∃ b, decide (z11 = 0) = b := ⟨_, rfl⟩
  rw [e11] at h11
  obtain ⟨b12, e12⟩ : ∃ b, decide (z12 = 0) = b := ⟨_, rfl⟩
  rw [e12] at h12
  obtain ⟨b13, e13⟩ : ∃ b, decide (z13 = 0) = b := ⟨_, rfl⟩
  rw [e13] at h13
  obtain ⟨b14, e14⟩ : ∃ b, decide (z14 = 0) = b := ⟨_, rfl⟩
  rw [e14] at h14
  obtain ⟨b15, e15⟩ : ∃ b, decide (z15 = 0) = b := ⟨_, rfl⟩
  rw [e15] at h15
  obtain ⟨b16, e16⟩ : ∃ b, decide (z16 = 0) = b := ⟨_, rfl⟩
  rw [e16] at h16
  rw [ea] at h1
  rw [eb] at h2
  rw [ec] at h3
  rw [eg] at h4
  rw [eh] at h5
  rw [ei] at h6
  rw [ej] at h7
  rw [ek] at h8
  rw [el] at h9
  rw [em] at h10
  refine Pure.of_sw 210 Try.func6 rfl Try.ntmps6 (by kernel_rfl) (Nat.le_of_ble_eq_true (by kernel_rfl)) (by simp [closeds, AV.closed, aSs_closed, aIs_closed, aBs_closed, aRs_closed, aDen_closed]) (by simp [AV.closed, closeds, aSs_closed, aIs_closed, aBs_closed, aRs_closed, aDen_closed]) ?_; refine SW.of_vc ?_
  repeat first | refine opsStep ?_ | refine codeStep ?_ | refine drawStep ?_
  refine callP law16_fixed ?_
  repeat first | refine opsStep ?_ | refine codeStep ?_ | refine drawStep ?_
  refine callP h1 ?_
  repeat first | refine opsStep ?_ | refine codeStep ?_ | refine drawStep ?_
  refine callP h2 ?_
  iterate 7 refine opsStep ?_
  refine VCode.ent (Ent.fr' (l := [(2, .ref 0 0 0), (3, .ref 1 0 0), (5, .ref 2 0 0), (6, .bool ba), (7, .ref 3 0 0), (8, .bool bb)]) (H' := [Blk.cells 0 d.cells, .cells 0 e.cells, .cells 0 v1.cells, .cells 0 v2.cells]) ⟨(by kernel_rfl), (by kernel_rfl), (by kernel_rfl), (by kernel_rfl), (by kernel_rfl), (by kernel_rfl), trivial⟩ (by kernel_rfl)) ?_
  repeat first | refine opsStep ?_ | refine codeStep ?_ | refine drawStep ?_
  refine callP h3 ?_
  repeat first | refine opsStep ?_ | refine codeStep ?_ | refine drawStep ?_
  refine callP h4 ?_
  iterate 7 refine opsStep ?_
  refine VCode.ent (Ent.fr' (l := [(2, .ref 0 0 0), (3, .ref 1 0 0), (5, .ref 2 0 0), (6, .bool ba), (7, .ref 3 0 0), (8, .bool bb), (9, .ref 4 0 0), (10, .bool bc), (11, .ref 5 0 0), (12, .bool bg)]) (H' := [Blk.cells 0 d.cells, .cells 0 e.cells, .cells 0 v1.cells, .cells 0 v2.cells, .cells 0 v3.cells, .cells 0 v4.cells]) ⟨(by kernel_rfl), (by kernel_rfl), (by kernel_rfl), (by kernel_rfl), (by kernel_rfl), (by kernel_rfl), (by kernel_rfl), (by kernel_rfl), (by kernel_rfl), (by kernel_rfl), trivial⟩ (by kernel_rfl)) ?_
  repeat first | refine opsStep ?_ | refine codeStep ?_ | refine drawStep ?_
  refine callP h5 ?_
  repeat first | refine opsStep ?_ | refine codeStep ?_ | refine drawStep ?_
  refine callP h6 ?_
  iterate 7 refine opsStep ?_
  refine VCode.ent (Ent.fr' (l := [(2, .ref 0 0 0), (3, .ref 1 0 0), (5, .ref 2 0 0), (6, .bool ba), (7, .ref 3 0 0), (8, .bool bb), (9, .ref 4 0 0), (10, .bool bc), (11, .ref 5 0 0), (12, .bool bg), (13, .ref 6 0 0), (14, .bool bh), (15, .ref 7 0 0), (16, .bool bi)]) (H' := [Blk.cells 0 d.cells, .cells 0 e.cells, .cells 0 v1.cells, .cells 0 v2.cells, .cells 0 v3.cells, .cells 0 v4.cells, .cells 0 v5.cells, .cells 0 v6.cells]) ⟨(by kernel_rfl), (by kernel_rfl), (by kernel_rfl), (by kernel_rfl), (by kernel_rfl), (by kernel_rfl), (by kernel_rfl), (by kernel_rfl), (by kernel_rfl), (by kernel_rfl), (by kernel_rfl), (by kernel_rfl), (by kernel_rfl), (by kernel_rfl), trivial⟩ (by kernel_rfl)) ?_
  repeat first | refine opsStep ?_ | refine codeStep ?_ | refine drawStep ?_
  refine callP h7 ?_
  repeat first | refine opsStep ?_ | refine codeStep ?_ | refine drawStep ?_
  refine callP h8 ?_
  iterate 7 refine opsStep ?_
  refine VCode.ent (Ent.fr' (l := [(2, .ref 0 0 0), (3, .ref 1 0 0), (5, .ref 2 0 0), (6, .bool ba), (7, .ref 3 0 0), (8, .bool bb), (9, .ref 4 0 0), (10, .bool bc), (11, .ref 5 0 0), (12, .bool bg), (13, .ref 6 0 0), (14, .bool bh), (15, .ref 7 0 0), (16, .bool bi), (17, .ref 8 0 0), (18, .bool bj), (19, .ref 9 0 0), (20, .bool bk)]) (H' := [Blk.cells 0 d.cells, .cells 0 e.cells, .cells 0 v1.cells, .cells 0 v2.cells, .cells 0 v3.cells, .cells 0 v4.cells, .cells 0 v5.cells, .cells 0 v6.cells, .cells 0 v7.cells, .cells 0 v8.cells]) ⟨(by kernel_rfl), (by kernel_rfl), (by kernel_rfl), (by kernel_rfl), (by kernel_rfl), (by kernel_rfl), (by kernel_rfl), (by kernel_rfl), (by kernel_rfl), (by kernel_rfl), (by kernel_rfl), (by kernel_rfl), (by kernel_rfl), (by kernel_rfl), (by kernel_rfl), (by kernel_rfl), (by kernel_rfl), (by kernel_rfl), trivial⟩ (by kernel_rfl)) ?_
  repeat first | refine opsStep ?_ | refine codeStep ?_ | refine drawStep ?_
  refine callP h9 ?_
  repeat first | refine opsStep ?_ | refine codeStep ?_ | refine drawStep ?_
  refine callP h10 ?_
  iterate 7 refine opsStep ?_
  refine VCode.ent (Ent.fr' (l := [(2, .ref 0 0 0), (3, .ref 1 0 0), (5, .ref 2 0 0), (6, .bool ba), (7, .ref 3 0 0), (8, .bool bb), (9, .ref 4 0 0), (10, .bool bc), (11, .ref 5 0 0), (12, .bool bg), (13, .ref 6 0 0), (14, .bool bh), (15, .ref 7 0 0), (16, .bool bi), (17, .ref 8 0 0), (18, .bool bj), (19, .ref 9 0 0), (20, .bool bk), (21, .ref 10 0 0), (22, .bool bl), (23, .ref 11 0 0), (24, .bool bm)]) (H' := [Blk.cells 0 d.cells, .cells 0 e.cells, .cells 0 v1.cells, .cells 0 v2.cells, .cells 0 v3.cells, .cells 0 v4.cells, .cells 0 v5.cells, .cells 0 v6.cells, .cells 0 v7.cells, .cells 0 v8.cells, .cells 0 v9.cells, .cells 0 v10.cells]) ⟨(by kernel_rfl), (by kernel_rfl), (by kernel_rfl), (by kernel_rfl), (by kernel_rfl), (by kernel_rfl), (by kernel_rfl), (by kernel_rfl), (by kernel_rfl), (by kernel_rfl), (by kernel_rfl), (by kernel_rfl), (by kernel_rfl), (by kernel_rfl), (by kernel_rfl), (by kernel_rfl), (by kernel_rfl), (by kernel_rfl), (by kernel_rfl), (by kernel_rfl), (by kernel_rfl), (by kernel_rfl), trivial⟩ (by kernel_rfl)) ?_
  obtain rfl | rfl : ba = false ∨ ba = true := by cases ba <;> simp
  · repeat first | refine opsStep ?_ | refine codeStep ?_ | refine drawStep ?_
    exact finB (b' := true) (by kernel_rfl) rfl
  obtain rfl | rfl : bb = false ∨ bb = true := by cases bb <;> simp
  · repeat first | refine opsStep ?_ | refine codeStep ?_ | refine drawStep ?_
    exact finB (b' := true) (by kernel_rfl) rfl
  obtain rfl | rfl : bc = false ∨ bc = true := by cases bc <;> simp
  · repeat first | refine opsStep ?_ | refine codeStep ?_ | refine drawStep ?_
    exact finB (b' := true) (by kernel_rfl) rfl
  obtain rfl | rfl : bg = false ∨ bg = true := by cases bg <;> simp
  · repeat first | refine opsStep ?_ | refine codeStep ?_ | refine drawStep ?_
    exact finB (b' := true) (by kernel_rfl) rfl
  obtain rfl | rfl : bh = false ∨ bh = true := by cases bh <;> simp
  · repeat first | refine opsStep ?_ | refine codeStep ?_ | refine drawStep ?_
    exact finB (b' := true) (by kernel_rfl) rfl
  obtain rfl | rfl : bi = false ∨ bi = true := by cases bi <;> simp
  · repeat first | refine opsStep ?_ | refine codeStep ?_ | refine drawStep ?_
    exact finB (b' := true) (by kernel_rfl) rfl
  obtain rfl | rfl : bj = false ∨ bj = true := by cases bj <;> simp
  · repeat first | refine opsStep ?_ | refine codeStep ?_ | refine drawStep ?_
    exact finB (b' := true) (by kernel_rfl) rfl
  obtain rfl | rfl : bk = false ∨ bk = true := by cases bk <;> simp
  · repeat first | refine opsStep ?_ | refine codeStep ?_ | refine drawStep ?_
    exact finB (b' := true) (by kernel_rfl) rfl
  obtain rfl | rfl : bl = false ∨ bl = true := by cases bl <;> simp
  · repeat first | refine opsStep ?_ | refine codeStep ?_ | refine drawStep ?_
    exact finB (b' := true) (by kernel_rfl) rfl
  obtain rfl | rfl : bm = false ∨ bm = true := by cases bm <;> simp
  · repeat first | refine opsStep ?_ | refine codeStep ?_ | refine drawStep ?_
    exact finB (b' := true) (by kernel_rfl) rfl
  have ea := of_decide_eq_true ea
  have eb := of_decide_eq_true eb
  have ec := of_decide_eq_true ec
  have eg := of_decide_eq_true eg
  have eh := of_decide_eq_true eh
  have ei := of_decide_eq_true ei
  have ej := of_decide_eq_true ej
  have ek := of_decide_eq_true ek
  have el := of_decide_eq_true el
  have em := of_decide_eq_true em
  rw [f1 ea eb] at s1
  rw [f2 ec eg] at s2
  rw [f3 eh ei] at s3
  have f4 := f4 ea el em
  have f5 := f5 ej el
  have f6 := f6 eh ej ek
  have f7 := fun h => f7 h el
  repeat first | refine opsStep ?_ | refine codeStep ?_ | refine drawStep ?_
  refine callP s1 ?_
  repeat first | refine opsStep ?_ | refine codeStep ?_ | refine drawStep ?_
  refine callP s2 ?_
  repeat first | refine opsStep ?_ | refine codeStep ?_ | refine drawStep ?_
  refine callP s3 ?_
  repeat first | refine opsStep ?_ | refine codeStep ?_ | refine drawStep ?_
  refine callP h11 ?_
  repeat first | refine opsStep ?_ | refine codeStep ?_ | refine drawStep ?_
  refine callP h12 ?_
  iterate 7 refine opsStep ?_
  refine VCode.ent (Ent.fr' (l := [(2, .ref 0 0 0), (3, .ref 1 0 0), (13, .ref 6 0 0), (17, .ref 8 0 0), (19, .ref 9 0 0), (21, .ref 10 0 0), (23, .ref 11 0 0), (25, .ref 12 0 0), (26, .ref 13 0 0), (6, .bool b11), (8, .bool b12)]) (H' := [Blk.cells 0 d.cells, .cells 0 e.cells, .cells 0 v1.cells, .cells 0 v2.cells, .cells 0 v3.cells, .cells 0 v4.cells, .cells 0 v5.cells, .cells 0 v6.cells, .cells 0 v7.cells, .cells 0 v8.cells, .cells 0 v9.cells, .cells 0 v10.cells, .cells 0 v11.cells, .cells 0 v12.cells]) ⟨(by kernel_rfl), (by kernel_rfl), (by kernel_rfl), (by kernel_rfl), (by kernel_rfl), (by kernel_rfl), (by kernel_rfl), (by kernel_rfl), (by kernel_rfl), (by kernel_rfl), (by kernel_rfl), trivial⟩ (by kernel_rfl)) ?_
  refine VCode.cut (fr [(2, .ref 0 0 0), (3, .ref 1 0 0), (13, .ref 6 0 0), (17, .ref 8 0 0), (19, .ref 9 0 0), (21, .ref 10 0 0), (23, .ref 11 0 0), (25, .ref 12 0 0), (26, .ref 13 0 0)]) [Blk.cells 0 d.cells, .cells 0 e.cells, .cells 0 v1.cells, .cells 0 v2.cells, .cells 0 v3.cells, .cells 0 v4.cells, .cells 0 v5.cells, .cells 0 v6.cells, .cells 0 v7.cells, .cells 0 v8.cells, .cells 0 v9.cells, .cells 0 v10.cells, .cells 0 v11.cells, .cells 0 v12.cells] ?_ ?_
  · obtain rfl | rfl : b11 = false ∨ b11 = true := by cases b11 <;> simp
    · repeat first | refine opsStep ?_ | refine codeStep ?_ | refine drawStep ?_
      show Ent _ _ _ _ _
      exact Ent.fr' ⟨(by kernel_rfl), (by kernel_rfl), (by kernel_rfl), (by kernel_rfl), (by kernel_rfl), (by kernel_rfl), (by kernel_rfl), (by kernel_rfl), (by kernel_rfl), trivial⟩ (by kernel_rfl)
    obtain rfl | rfl : b12 = false ∨ b12 = true := by cases b12 <;> simp
    · repeat first | refine opsStep ?_ | refine codeStep ?_ | refine drawStep ?_
      show Ent _ _ _ _ _
      exact Ent.fr' ⟨(by kernel_rfl), (by kernel_rfl), (by kernel_rfl), (by kernel_rfl), (by kernel_rfl), (by kernel_rfl), (by kernel_rfl), (by kernel_rfl), (by kernel_rfl), trivial⟩ (by kernel_rfl)
    rw [f4 (of_decide_eq_true e11) (of_decide_eq_true e12)] at s4
    repeat first | refine opsStep ?_ | refine codeStep ?_ | refine drawStep ?_
    refine callP s4 ?_
    repeat first | refine opsStep ?_ | refine codeStep ?_ | refine drawStep ?_
    show Ent _ _ _ _ _
    exact Ent.fr' ⟨(by kernel_rfl), (by kernel_rfl), (by kernel_rfl), (by kernel_rfl), (by kernel_rfl), (by kernel_rfl), (by kernel_rfl), (by kernel_rfl), (by kernel_rfl), trivial⟩ (by kernel_rfl)
  repeat first | refine opsStep ?_ | refine codeStep ?_ | refine drawStep ?_
  refine callP h13 ?_
  iterate 6 refine opsStep ?_
  refine VCode.ent (Ent.fr' (l := [(2, .ref 0 0 0), (3, .ref 1 0 0), (13, .ref 6 0 0), (17, .ref 8 0 0), (19, .ref 9 0 0), (21, .ref 10 0 0), (23, .ref 11 0 0), (25, .ref 12 0 0), (26, .ref 13 0 0), (8, .bool b13)]) (H' := [Blk.cells 0 d.cells, .cells 0 e.cells, .cells 0 v1.cells, .cells 0 v2.cells, .cells 0 v3.cells, .cells 0 v4.cells, .cells 0 v5.cells, .cells 0 v6.cells, .cells 0 v7.cells, .cells 0 v8.cells, .cells 0 v9.cells, .cells 0 v10.cells, .cells 0 v11.cells, .cells 0 v13.cells]) ⟨(by kernel_rfl), (by kernel_rfl), (by kernel_rfl), (by kernel_rfl), (by kernel_rfl), (by kernel_rfl), (by kernel_rfl), (by kernel_rfl), (by kernel_rfl), (by kernel_rfl), trivial⟩ (by kernel_rfl)) ?_
  refine VCode.cut (fr [(2, .ref 0 0 0), (3, .ref 1 0 0), (13, .ref 6 0 0), (17, .ref 8 0 0), (19, .ref 9 0 0), (21, .ref 10 0 0), (23, .ref 11 0 0), (25, .ref 12 0 0), (26, .ref 13 0 0)]) [Blk.cells 0 d.cells, .cells 0 e.cells, .cells 0 v1.cells, .cells 0 v2.cells, .cells 0 v3.cells, .cells 0 v4.cells, .cells 0 v5.cells, .cells 0 v6.cells, .cells 0 v7.cells, .cells 0 v8.cells, .cells 0 v9.cells, .cells 0 v10.cells, .cells 0 v11.cells, .cells 0 v13.cells] ?_ ?_
  · obtain rfl | rfl : b13 = false ∨ b13 = true := by cases b13 <;> simp
    · repeat first | refine opsStep ?_ | refine codeStep ?_ | refine drawStep ?_
      show Ent _ _ _ _ _
      exact Ent.fr' ⟨(by kernel_rfl), (by kernel_rfl), (by kernel_rfl), (by kernel_rfl), (by kernel_rfl), (by kernel_rfl), (by kernel_rfl), (by kernel_rfl), (by kernel_rfl), trivial⟩ (by kernel_rfl)
    rw [f5 (of_decide_eq_true e13)] at s5
    repeat first | refine opsStep ?_ | refine codeStep ?_ | refine drawStep ?_
    refine callP s5 ?_
    repeat first | refine opsStep ?_ | refine codeStep ?_ | refine drawStep ?_
    show Ent _ _ _ _ _
    exact Ent.fr' ⟨(by kernel_rfl), (by kernel_rfl), (by kernel_rfl), (by kernel_rfl), (by kernel_rfl), (by kernel_rfl), (by kernel_rfl), (by kernel_rfl), (by kernel_rfl), trivial⟩ (by kernel_rfl)
  repeat first | refine opsStep ?_ | refine codeStep ?_ | refine drawStep ?_
  refine callP h14 ?_
  iterate 6 refine opsStep ?_
  refine VCode.ent (Ent.fr' (l := [(2, .ref 0 0 0), (3, .ref 1 0 0), (13, .ref 6 0 0), (17, .ref 8 0 0), (19, .ref 9 0 0), (21, .ref 10 0 0), (23, .ref 11 0 0), (25, .ref 12 0 0), (26, .ref 13 0 0), (8, .bool b14)]) (H' := [Blk.cells 0 d.cells, .cells 0 e.cells, .cells 0 v1.cells, .cells 0 v2.cells, .cells 0 v3.cells, .cells 0 v4.cells, .cells 0 v5.cells, .cells 0 v6.cells, .cells 0 v7.cells, .cells 0 v8.cells, .cells 0 v9.cells, .cells 0 v10.cells, .cells 0 v11.cells, .cells 0 v14.cells]) ⟨(by kernel_rfl), (by kernel_rfl), (by kernel_rfl), (by kernel_rfl), (by kernel_rfl), (by kernel_rfl), (by kernel_rfl), (by kernel_rfl), (by kernel_rfl), (by kernel_rfl), trivial⟩ (by kernel_rfl)) ?_
  refine VCode.cut (fr [(2, .ref 0 0 0), (3, .ref 1 0 0), (13, .ref 6 0 0), (17, .ref 8 0 0), (19, .ref 9 0 0), (21, .ref 10 0 0), (23, .ref 11 0 0), (25, .ref 12 0 0), (26, .ref 13 0 0)]) [Blk.cells 0 d.cells, .cells 0 e.cells, .cells 0 v1.cells, .cells 0 v2.cells, .cells 0 v3.cells, .cells 0 v4.cells, .cells 0 v5.cells, .cells 0 v6.cells, .cells 0 v7.cells, .cells 0 v8.cells, .cells 0 v9.cells, .cells 0 v10.cells, .cells 0 v11.cells, .cells 0 v14.cells] ?_ ?_
  · obtain rfl | rfl : b14 = false ∨ b14 = true := by cases b14 <;> simp
    · repeat first | refine opsStep ?_ | refine codeStep ?_ | refine drawStep ?_
      show Ent _ _ _ _ _
      exact Ent.fr' ⟨(by kernel_rfl), (by kernel_rfl), (by kernel_rfl), (by kernel_rfl), (by kernel_rfl), (by kernel_rfl), (by kernel_rfl), (by kernel_rfl), (by kernel_rfl), trivial⟩ (by kernel_rfl)
    rw [f6 (of_decide_eq_true e14)] at s6
    repeat first | refine opsStep ?_ | refine codeStep ?_ | refine drawStep ?_
    refine callP s6 ?_
    repeat first | refine opsStep ?_ | refine codeStep ?_ | refine drawStep ?_
    show Ent _ _ _ _ _
    exact Ent.fr' ⟨(by kernel_rfl), (by kernel_rfl), (by kernel_rfl), (by kernel_rfl), (by kernel_rfl), (by kernel_rfl), (by kernel_rfl), (by kernel_rfl), (by kernel_rfl), trivial⟩ (by kernel_rfl)
  repeat first | refine opsStep ?_ | refine codeStep ?_ | refine drawStep ?_
  refine callP h15 ?_
  repeat first | refine opsStep ?_ | refine codeStep ?_ | refine drawStep ?_
  refine callP h16 ?_
  iterate 6 refine opsStep ?_
  refine VCode.ent (Ent.fr' (l := [(2, .ref 0 0 0), (3, .ref 1 0 0), (13, .ref 6 0 0), (17, .ref 8 0 0), (19, .ref 9 0 0), (21, .ref 10 0 0), (23, .ref 11 0 0), (25, .ref 12 0 0), (26, .ref 13 0 0), (6, .bool b15), (8, .bool b16)]) (H' := [Blk.cells 0 d.cells, .cells 0 e.cells, .cells 0 v1.cells, .cells 0 v2.cells, .cells 0 v3.cells, .cells 0 v4.cells, .cells 0 v5.cells, .cells 0 v6.cells, .cells 0 v7.cells, .cells 0 v8.cells, .cells 0 v9.cells, .cells 0 v10.cells, .cells 0 v15.cells, .cells 0 v16.cells]) ⟨(by kernel_rfl), (by kernel_rfl), (by kernel_rfl), (by kernel_rfl), (by kernel_rfl), (by kernel_rfl), (by kernel_rfl), (by kernel_rfl), (by kernel_rfl), (by kernel_rfl), (by kernel_rfl), trivial⟩ (by kernel_rfl)) ?_
  obtain rfl | rfl : b15 = false ∨ b15 = true := by cases b15 <;> simp
  · repeat first | refine opsStep ?_ | refine codeStep ?_ | refine drawStep ?_
    exact finB (b' := true) (by kernel_rfl) rfl
  obtain rfl | rfl : b16 = false ∨ b16 = true := by cases b16 <;> simp
  · repeat first | refine opsStep ?_ | refine codeStep ?_ | refine drawStep ?_
    exact finB (b' := true) (by kernel_rfl) rfl
  rw [f7 (of_decide_eq_true e15) (of_decide_eq_true e16)] at s7
  repeat first | refine opsStep ?_ | refine codeStep ?_ | refine drawStep ?_
  refine callP s7 ?_
  repeat first | refine opsStep ?_ | refine codeStep ?_ | refine drawStep ?_
  exact finB (b' := true) (by kernel_rfl) rfl

end Tab
