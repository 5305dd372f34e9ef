/- Lemmas for this claim: part 13. No condition. -/
import Derived.Test.YtgadapklmphliaaZ8
import Derived.Test.YtgadapklmphliaaZ10
import Derived.Test.YtgadapklmphliaaZ11
import Derived.Test.YtgadapklmphliaaZ12
/- Layer 21: the law CompareCanon. -/
namespace Tab
open Go Go.Proofs
set_option maxRecDepth 10000
set_option linter.unusedVariables false
set_option linter.unusedSimpArgs false
set_option linter.unusedSectionVars false

/-! ### Plain -/

def dz (a : Aut) : Den := ⟨.any, a.tracks, .any, false :: a.accept.tail, .any, unR a a.accept.length⟩
theorem unpD_unR {a : Aut} (h : checkS a = true) : unpD a = ⟨.any, a.tracks, .any, a.accept, .any, unR a a.accept.length⟩ := by rw [unpD_ok h]; rfl
theorem acc_cons {a : Aut} (h : checkS a = true) : ∃ c l, a.accept = c :: l := by
  obtain ⟨r, _, e⟩ := unpD_right h
  have := right_pos r
  rw [e] at this
  cases ha : a.accept with
  | nil => rw [ha] at this; simp at this
  | cons c l => exact ⟨c, l, rfl⟩
theorem dz_same {a : Aut} (h : checkS a = true) (h0 : a.accept[0]? = some false) : dz a = unpD a := by
  obtain ⟨c, l, e⟩ := acc_cons h
  rw [unpD_unR h, dz]
  rw [e] at h0
  simp at h0
  rw [e, h0]; rfl
theorem dz_right {a : Aut} (h : checkS a = true) : rightS (dz a) = true := by
  obtain ⟨r, _, _⟩ := unpD_right h
  obtain ⟨c, l, e⟩ := acc_cons h
  rw [unpD_unR h] at r
  have hl : (false :: a.accept.tail).length = a.accept.length := by rw [e]; simp
  have e2 : rightS (dz a) = rightS ⟨.any, a.tracks, .any, a.accept, .any, unR a a.accept.length⟩ := by
    simp only [rightS, dz, hl]
  rw [e2]; exact r
theorem dz_den {a : Aut} (ha : AutOk a) (h : checkS a = true) : DenOk (dz a) := by
  have hd := unpD_den ha
  obtain ⟨c, l, e⟩ := acc_cons h
  rw [unpD_unR h] at hd
  refine ⟨hd.1, hd.2, ?_, hd.4, hd.5⟩
  have := hd.accept
  simp only [dz, List.length_cons, List.length_tail]
  simp only at this
  omega
theorem lang_same {d e : Den} (h : sameD d e = true) : lang d = lang e := by
  rw [sameD_eq] at h
  simp only [Bool.and_eq_true, decide_eq_true_eq] at h
  obtain ⟨⟨h1, h2⟩, h3⟩ := h
  funext w
  rw [lang, lang, langR, langR, h1, h2, h3]
theorem ext_tracks {a : Aut} {U : List (List UInt8)} (hU : (unpD a).tracks = U) (hn : U.Nodup) {v : List Nat} (hv : Lets U.length v) : extT a U v = lang (unpD a) v := by
  rw [extT, hU, places_self hn]
  congr 1
  have e := List.map_congr_left (f := fun x => gatN x (List.range U.length)) (g := id) (l := v) fun x hx => gat_range (hv x hx)
  rw [e, List.map_id]
theorem canon_iff {a b : Aut} (hca : checkS a = true) (hcb : checkS b = true) (ht : a.tracks = b.tracks) (ha0 : a.accept[0]? = some false) (hb0 : b.accept[0]? = some false) : opE a b = 0 ∧ noneB qS a b = sameD (minD (unpD a)) (minD (unpD b)) := by
  obtain ⟨r1, t1, c1⟩ := unpD_right hca
  obtain ⟨r2, t2, c2⟩ := unpD_right hcb
  obtain ⟨k6, hs, _, _⟩ := tracksS_parts (rightS_parts r1).1
  have hst := rises_strict hs
  have hu : unN (unpD a) (unpD b) = (unpD a).tracks := by
    rw [unN, t2, ← ht, t1]
    rw [t1] at hst
    exact strict_eq (tog_strict _) hst fun x => by rw [tog_mem, List.mem_append, or_self]
  have h0 : opE a b = 0 := opE_ok (by rw [hca, hcb]; rfl) (by rw [hu]; exact k6)
  refine ⟨h0, ?_⟩
  have e2 : (unpD b).tracks = (unpD a).tracks := by rw [t1, t2, ht]
  have hl0 : ∀ {x : Aut}, (unpD x).accept = x.accept → x.accept[0]? = some false → lang (unpD x) [] = false := fun {x} hx h => by
    rw [lang_nil, hx, accN, List.getD_eq_getElem?_getD, h]; rfl
  have hiff := none_iff (q := qS) h0
  rw [hu] at hiff
  rw [Bool.eq_iff_iff, hiff]
  constructor
  · intro hh
    refine minD_same r1 r2 (by rw [e2]) ?_
    funext v
    by_cases hv : Lets (unpD a).tracks.length v
    · by_cases hne : v = []
      · subst hne; rw [hl0 c1 ha0, hl0 c2 hb0]
      · have := hh v hne hv
        rw [ext_tracks rfl (strict_nodup hst) hv, ext_tracks e2 (strict_nodup hst) hv] at this
        revert this
        cases lang (unpD a) v <;> cases lang (unpD b) v <;> simp [qS]
    · rw [lang_false hv, lang_false (by rw [e2]; exact hv)]
  · intro hh v hne hv
    have := lang_same hh
    rw [min_lang r1, min_lang r2] at this
    rw [ext_tracks rfl (strict_nodup hst) hv, ext_tracks e2 (strict_nodup hst) hv, this, qS]
    simp

/-! ### The law -/

theorem canon_bad (a b : Aut) (ha : AutOk a) (hb : AutOk b) (h : (checkS a && checkS b) = false) : Pure Try.prog 9 [aAut a, aAut b] (.bool true) := by
  have hs := cmp_Same a b ha hb
  have he := opE_bad h
  rw [noneB_bad (by rw [he]; decide), he] at hs
  have hca := r12_Copy a ha
  have hcb := r12_Copy b hb
  have hua := table_Unpack (copyA a) (copyA_ok ha)
  have hub := table_Unpack (copyA b) (copyA_ok hb)
  cases h1 : checkS a with
  | false =>
    rw [(copyA_unp a).2, unpE_bad h1] at hua
    generalize unpD (copyA a) = d at *
    generalize unpD (copyA b) = e at *
    generalize unpE (copyA b) = z at *
    generalize copyA a = x at *
    generalize copyA b = y at *
    refine Pure.of_sw 134 Try.func9 rfl Try.ntmps9 (by kernel_rfl) (Nat.le_of_ble_eq_true (by kernel_rfl)) (by simp [closeds, AV.closed, aSs_closed, aIs_closed, aBs_closed, aRs_closed, aDen_closed, aCs_closed, aAut_closed]) (by simp [AV.closed, closeds, aSs_closed, aIs_closed, aBs_closed, aRs_closed, aDen_closed, aCs_closed, aAut_closed]) ?_; refine SW.of_vc ?_
    repeat first | refine opsStep ?_ | refine codeStep ?_ | refine drawStep ?_
    refine callP law21_fixed ?_
    repeat first | refine opsStep ?_ | refine codeStep ?_ | refine drawStep ?_
    refine callP hs ?_
    repeat first | refine opsStep ?_ | refine codeStep ?_ | refine drawStep ?_
    refine callP hca ?_
    repeat first | refine opsStep ?_ | refine codeStep ?_ | refine drawStep ?_
    refine callP hua ?_
    repeat first | refine opsStep ?_ | refine codeStep ?_ | refine drawStep ?_
    refine callP hcb ?_
    repeat first | refine opsStep ?_ | refine codeStep ?_ | refine drawStep ?_
    refine callP hub ?_
    repeat first | refine opsStep ?_ | refine codeStep ?_ | refine drawStep ?_
    exact finB (b' := true) (by kernel_rfl) rfl
  | true =>
    have h2 : checkS b = false := by rw [h1] at h; simpa using h
    rw [(copyA_unp a).2, unpE_zero.2 h1] at hua
    rw [(copyA_unp b).2, unpE_bad h2] at hub
    generalize unpD (copyA a) = d at *
    generalize unpD (copyA b) = e at *
    generalize copyA a = x at *
    generalize copyA b = y at *
    refine Pure.of_sw 134 Try.func9 rfl Try.ntmps9 (by kernel_rfl) (Nat.le_of_ble_eq_true (by kernel_rfl)) (by simp [closeds, AV.closed, aSs_closed, aIs_closed, aBs_closed, aRs_closed, aDen_closed, aCs_closed, aAut_closed]) (by simp [AV.closed, closeds, aSs_closed, aIs_closed, aBs_closed, aRs_closed, aDen_closed, aCs_closed, aAut_closed]) ?_; refine SW.of_vc ?_
    repeat first | refine opsStep ?_ | refine codeStep ?_ | refine drawStep ?_
    refine callP law21_fixed ?_
    repeat first | refine opsStep ?_ | refine codeStep ?_ | refine drawStep ?_
    refine callP hs ?_
    repeat first | refine opsStep ?_ | refine codeStep ?_ | refine drawStep ?_
    refine callP hca ?_
    repeat first | refine opsStep ?_ | refine codeStep ?_ | refine drawStep ?_
    refine callP hua ?_
    repeat first | refine opsStep ?_ | refine codeStep ?_ | refine drawStep ?_
    refine callP hcb ?_
    repeat first | refine opsStep ?_ | refine codeStep ?_ | refine drawStep ?_
    refine callP hub ?_
    repeat first | refine opsStep ?_ | refine codeStep ?_ | refine drawStep ?_
    exact finB (b' := true) (by kernel_rfl) rfl

theorem canon_good (a b : Aut) (ha : AutOk a) (hb : AutOk b) (h1 : checkS a = true) (h2 : checkS b = true) : Pure Try.prog 9 [aAut a, aAut b] (.bool true) := by
  have hs := cmp_Same a b ha hb
  have hca := r12_Copy a ha
  have hcb := r12_Copy b hb
  have hua := table_UnpackK (copyA a) (copyA_ok ha) h1
  have hub := table_UnpackK (copyA b) (copyA_ok hb) h2
  have hcla : closeds [aAut (copyA a)] := by simp [closeds, aAut_closed]
  have hclb : closeds [aAut (copyA b)] := by simp [closeds, aAut_closed]
  have eua : unR (copyA a) (copyA a).accept.length = unR a a.accept.length := rfl
  have eub : unR (copyA b) (copyA b).accept.length = unR b b.accept.length := rfl
  rw [eua] at hua
  rw [eub] at hub
  obtain ⟨c0, ca, eca⟩ := acc_cons h1
  obtain ⟨d0, cb, ecb⟩ := acc_cons h2
  have hma := canon_Minimal (dz a) (dz_den ha h1) (dz_right h1)
  have hmb := canon_Minimal (dz b) (dz_den hb h2) (dz_right h2)
  have okm := minD_ok (dz_den ha h1) (dz_right h1)
  have okn := minD_ok (dz_den hb h2) (dz_right h2)
  have hsd := r12_SameDense (minD (dz a)) (minD (dz b)) okm okn
  have hiff : ∀ (ht : a.tracks = b.tracks) (_ : c0 = false) (_ : d0 = false), noneB qS a b = sameD (minD (dz a)) (minD (dz b)) := fun ht e1 e2 => by
    have ea : a.accept[0]? = some false := by rw [eca, e1]; rfl
    have eb : b.accept[0]? = some false := by rw [ecb, e2]; rfl
    rw [dz_same h1 ea, dz_same h2 eb]
    exact (canon_iff h1 h2 ht ea eb).2
  have hzero : ∀ (ht : a.tracks = b.tracks), opE a b = 0 := fun ht => by
    obtain ⟨r1, t1, _⟩ := unpD_right h1
    obtain ⟨r2, t2, _⟩ := unpD_right h2
    obtain ⟨k6, hs, _, _⟩ := tracksS_parts (rightS_parts r1).1
    have hst := rises_strict hs
    refine opE_ok (by rw [h1, h2]; rfl) ?_
    have hu : unN (unpD a) (unpD b) = (unpD a).tracks := by
      rw [unN, t2, ← ht, t1]
      rw [t1] at hst
      exact strict_eq (tog_strict _) hst fun x => by rw [tog_mem, List.mem_append, or_self]
    rw [hu]; exact k6
  have hdza : dz a = ⟨.any, a.tracks, .any, false :: ca, .any, unR a a.accept.length⟩ := by rw [dz, eca]; rfl
  have hdzb : dz b = ⟨.any, b.tracks, .any, false :: cb, .any, unR b b.accept.length⟩ := by rw [dz, ecb]; rfl
  have hla : a.accept.length = ca.length + 1 := by rw [eca]; rfl
  have hlb : b.accept.length = cb.length + 1 := by rw [ecb]; rfl
  have da := ha.accept
  have db := hb.accept
  have dta := ha.tracks
  have dtb := hb.tracks
  have ga : a.accept[0]? = some c0 := by rw [eca]; rfl
  have gb : b.accept[0]? = some d0 := by rw [ecb]; rfl
  have hua : ACall Try.prog 31 [aAut (copyA a)] [] fun o H' => o = .ret (.tup [.agg [aSs .any a.tracks, .hs 0 0 0 (ca.length + 1) 1, aRs .any (unR a a.accept.length)], .int .i64 0]) ∧ H' = [.cells 0 ((c0 :: ca).map .bool)] := by
    have e1 : (copyA a).accept.length = ca.length + 1 := hla
    have e2 : (copyA a).accept = c0 :: ca := eca
    rw [e2] at hua
    exact hua
  have hub : ACall Try.prog 31 [aAut (copyA b)] [] fun o H' => o = .ret (.tup [.agg [aSs .any b.tracks, .hs 0 0 0 (cb.length + 1) 1, aRs .any (unR b b.accept.length)], .int .i64 0]) ∧ H' = [.cells 0 ((d0 :: cb).map .bool)] := by
    have e2 : (copyA b).accept = d0 :: cb := ecb
    rw [e2] at hub
    exact hub
  generalize minD (dz a) = m at *
  generalize minD (dz b) = n at *
  rw [hdza] at hma
  rw [hdzb] at hmb
  generalize hra : unR a a.accept.length = ra at *
  generalize hrb : unR b b.accept.length = rb at *
  generalize copyA a = xa at *
  generalize copyA b = xb at *
  generalize noneB qS a b = sv at *
  generalize opE a b = z at *
  refine Pure.of_sw 134 Try.func9 rfl Try.ntmps9 (by kernel_rfl) (Nat.le_of_ble_eq_true (by kernel_rfl)) (by simp [closeds, AV.closed, aSs_closed, aIs_closed, aBs_closed, aRs_closed, aDen_closed, aCs_closed, aAut_closed]) (by simp [AV.closed, closeds, aSs_closed, aIs_closed, aBs_closed, aRs_closed, aDen_closed, aCs_closed, aAut_closed]) ?_; refine SW.of_vc ?_
  repeat first | refine opsStep ?_ | refine codeStep ?_ | refine drawStep ?_
  refine callP law21_fixed ?_
  repeat first | refine opsStep ?_ | refine codeStep ?_ | refine drawStep ?_
  refine callP hs ?_
  repeat first | refine opsStep ?_ | refine codeStep ?_ | refine drawStep ?_
  refine callP hca ?_
  repeat first | refine opsStep ?_ | refine codeStep ?_ | refine drawStep ?_
  refine callS hcla hua (fun X h => by cases h.1) ?_
  rintro v X ⟨hv, rfl⟩
  have hv := Out.ret.inj hv
  subst hv
  iterate 7 refine opsStep ?_
  refine VCode.ent (Ent.fr' (l := [(2, .ref 0 0 0), (3, .ref 1 0 0), (5, .bool sv), (6, .int .i64 z), (7, .ref 3 0 0), (8, .int .i64 0)]) (H' := [Blk.cells 0 a.cells, .cells 0 b.cells, .cells 0 ((c0 :: ca).map .bool), .cells 0 [aSs .any a.tracks, .hs 2 0 0 (ca.length + 1) 1, aRs .any ra]]) ⟨(by kernel_rfl), (by kernel_rfl), (by kernel_rfl), (by kernel_rfl), (by kernel_rfl), (by kernel_rfl), trivial⟩ (Eq.trans (b := [Blk.cells 0 a.cells, .cells 0 b.cells, Blk.sh 2 (.cells 0 ((c0 :: ca).map .bool)), .cells 0 [(aSs .any a.tracks).sh 2, .hs 2 0 0 (ca.length + 1) 1, (aRs .any ra).sh 2]]) (by kernel_rfl) (by rw [Blk.sh, bools_sh, AV.closed_sh _ (aSs_closed _ _), AV.closed_sh _ (aRs_closed _ _)]))) ?_
  repeat first | refine opsStep ?_ | refine codeStep ?_ | refine drawStep ?_
  refine callP hcb ?_
  repeat first | refine opsStep ?_ | refine codeStep ?_ | refine drawStep ?_
  refine callS hclb hub (fun X h => by cases h.1) ?_
  rintro v X ⟨hv, rfl⟩
  have hv := Out.ret.inj hv
  subst hv
  iterate 7 refine opsStep ?_
  refine VCode.ent (Ent.fr' (l := [(2, .ref 0 0 0), (3, .ref 1 0 0), (5, .bool sv), (6, .int .i64 z), (7, .ref 3 0 0), (9, .ref 5 0 0), (8, .int .i64 0), (10, .int .i64 0)]) (H' := [Blk.cells 0 a.cells, .cells 0 b.cells, .cells 0 (((c0) :: ca).map .bool), .cells 0 [aSs .any a.tracks, .hs 2 0 0 (ca.length + 1) 1, aRs .any ra], .cells 0 (((d0) :: cb).map .bool), .cells 0 [aSs .any b.tracks, .hs 4 0 0 (cb.length + 1) 1, aRs .any rb]]) ⟨(by kernel_rfl), (by kernel_rfl), (by kernel_rfl), (by kernel_rfl), (by kernel_rfl), (by kernel_rfl), (by kernel_rfl), (by kernel_rfl), trivial⟩ (Eq.trans (b := [Blk.cells 0 a.cells, .cells 0 b.cells, .cells 0 ((c0 :: ca).map .bool), .cells 0 [aSs .any a.tracks, .hs 2 0 0 (ca.length + 1) 1, aRs .any ra], Blk.sh 4 (.cells 0 ((d0 :: cb).map .bool)), .cells 0 [(aSs .any b.tracks).sh 4, .hs 4 0 0 (cb.length + 1) 1, (aRs .any rb).sh 4]]) (by kernel_rfl) (by rw [Blk.sh, bools_sh, AV.closed_sh _ (aSs_closed _ _), AV.closed_sh _ (aRs_closed _ _)]))) ?_
  repeat first | refine opsStep ?_ | refine codeStep ?_ | refine drawStep ?_
  refine decB_false (decide_eq_false (by omega)) ?_
  repeat first | refine opsStep ?_ | refine codeStep ?_ | refine drawStep ?_
  refine decB_false (decide_eq_false (by omega)) ?_
  repeat first | refine opsStep ?_ | refine codeStep ?_ | refine drawStep ?_
  refine decB_dec (fun hlt => ?_) (fun hlt => ?_)
  · repeat first | refine opsStep ?_ | refine codeStep ?_ | refine drawStep ?_
    exact finB (b' := true) (by kernel_rfl) rfl
  have hlt : a.tracks.length = b.tracks.length := by
    have h : ((a.tracks.length : Nat) : Int) = ((b.tracks.length : Nat) : Int) := Decidable.of_not_not hlt
    exact Int.ofNat_inj.1 h
  repeat first | refine opsStep ?_ | refine codeStep ?_ | refine drawStep ?_
  refine loopE_of (ι := {i : Nat // i ≤ a.tracks.length ∧ a.tracks.take i = b.tracks.take i})
    (fun i => (fr [(2, .ref 0 0 0), (3, .ref 1 0 0), (5, .bool sv), (6, .int .i64 z), (7, .ref 3 0 0), (9, .ref 5 0 0), (77, .int .i64 a.tracks.length), (78, .int .i64 i.1)], [Blk.cells 0 a.cells, .cells 0 b.cells, .cells 0 (((c0) :: ca).map .bool), .cells 0 [aSs .any a.tracks, .hs 2 0 0 (ca.length + 1) 1, aRs .any ra], .cells 0 (((d0) :: cb).map .bool), .cells 0 [aSs .any b.tracks, .hs 4 0 0 (cb.length + 1) 1, aRs .any rb]]))
    (fun i => a.tracks.length - i.1) ⟨0, by omega, by simp⟩ (Ent.fr' ⟨(by kernel_rfl), (by kernel_rfl), (by kernel_rfl), (by kernel_rfl), (by kernel_rfl), (by kernel_rfl), (by kernel_rfl), (by kernel_rfl), trivial⟩ (by kernel_rfl)) ?_
  rintro ⟨i, hi, hpre⟩
  repeat first | refine opsStep ?_ | refine codeStep ?_ | refine drawStep ?_
  refine decB_dec (fun hi2 => ?_) (fun hi2 => ?_)
  · have hia : i < a.tracks.length := by have := hi2; simp at this; omega
    have hib : i < b.tracks.length := by omega
    repeat first | refine opsStep ?_ | refine codeStep ?_ | refine drawStep ?_
    refine SW.drawn rfl (by kernel_rfl) ?_
    repeat first | refine opsStep ?_ | refine codeStep ?_ | refine drawStep ?_
    refine guardE_of (by simp; omega) ?_
    repeat first | refine opsStep ?_ | refine codeStep ?_ | refine drawStep ?_
    refine optE_of (c := AV.str a.tracks[i]) (by simp [Value.cells, hia]) ?_
    repeat first | refine opsStep ?_ | refine codeStep ?_ | refine drawStep ?_
    refine guardE_of (by simp; omega) ?_
    repeat first | refine opsStep ?_ | refine codeStep ?_ | refine drawStep ?_
    refine optE_of (c := AV.str b.tracks[i]) (by simp [Value.cells, hib]) ?_
    repeat first | refine opsStep ?_ | refine codeStep ?_ | refine drawStep ?_
    refine ⟨by kernel_rfl, ?_⟩
    repeat first | refine opsStep ?_ | refine codeStep ?_ | refine drawStep ?_
    refine decB_split (fun h => ?_) (fun h => ?_)
    · repeat first | refine opsStep ?_ | refine codeStep ?_ | refine drawStep ?_
      exact finB (b' := true) (by kernel_rfl) rfl
    · repeat first | refine opsStep ?_ | refine codeStep ?_ | refine drawStep ?_
      refine ⟨⟨i + 1, by omega, ?_⟩, (by show a.tracks.length - (i + 1) < a.tracks.length - i; omega), Ent.fr' ⟨(by kernel_rfl), (by kernel_rfl), (by kernel_rfl), (by kernel_rfl), (by kernel_rfl), (by kernel_rfl), (by kernel_rfl), inc_slot (i := i) (by omega), trivial⟩ (by kernel_rfl)⟩
      rw [List.take_succ_eq_append_getElem hia, List.take_succ_eq_append_getElem hib, hpre]
      simp at h; rw [h]
  have hie : i = a.tracks.length := by have := hi2; simp at this; omega
  have ht : a.tracks = b.tracks := by
    subst hie
    rw [List.take_length, hlt, List.take_length] at hpre
    exact hpre
  have hz := hzero ht
  have hiff := hiff ht
  repeat first | refine opsStep ?_ | refine codeStep ?_ | refine drawStep ?_
  refine SW.drawn rfl (by kernel_rfl) ?_
  repeat first | refine opsStep ?_ | refine codeStep ?_ | refine drawStep ?_
  refine guardE_of (by simp) ?_
  repeat first | refine opsStep ?_ | refine codeStep ?_ | refine drawStep ?_
  refine guardE_of (by simp) ?_
  repeat first | refine opsStep ?_ | refine codeStep ?_ | refine drawStep ?_
  refine ⟨by kernel_rfl, ?_⟩
  refine VCode.ent ((((Ent.fr' (l := [(2, .ref 0 0 0), (3, .ref 1 0 0), (5, .bool sv), (6, .int .i64 z), (7, .ref 3 0 0), (9, .ref 5 0 0)]) (H' := [Blk.cells 0 a.cells, .cells 0 b.cells, .cells 0 (((false) :: ca).map .bool), .cells 0 [aSs .any a.tracks, .hs 2 0 0 (ca.length + 1) 1, aRs .any ra], .cells 0 (((false) :: cb).map .bool), .cells 0 [aSs .any b.tracks, .hs 4 0 0 (cb.length + 1) 1, aRs .any rb]]) ⟨(by kernel_rfl), (by kernel_rfl), (by kernel_rfl), (by kernel_rfl), (by kernel_rfl), (by kernel_rfl), trivial⟩ (by kernel_rfl)).trans (Ent.freezeCell 3 1 (b := 2) rfl rfl rfl (by omega) (by simp))).trans (Ent.freezeCell 5 1 (b := 4) rfl rfl rfl (by omega) (by simp))).to (H' := [Blk.cells 0 a.cells, .cells 0 b.cells, .fro 0 ((false :: ca).map .bool), .cells 0 [aSs .any a.tracks, aBs .any (false :: ca), aRs .any ra], .fro 0 ((false :: cb).map .bool), .cells 0 [aSs .any b.tracks, aBs .any (false :: cb), aRs .any rb]]) rfl) ?_
  repeat first | refine opsStep ?_ | refine codeStep ?_ | refine drawStep ?_
  refine callP hma ?_
  repeat first | refine opsStep ?_ | refine codeStep ?_ | refine drawStep ?_
  refine callP hmb ?_
  iterate 7 refine opsStep ?_
  refine VCode.ent (Ent.fr' (l := [(2, .ref 0 0 0), (3, .ref 1 0 0), (5, .bool sv), (6, .int .i64 z), (8, .int .i64 0), (10, .int .i64 0), (12, .ref 6 0 0), (13, .ref 7 0 0)]) (H' := [Blk.cells 0 a.cells, .cells 0 b.cells, .fro 0 ((false :: ca).map .bool), .cells 0 [aSs .any a.tracks, aBs .any (false :: ca), aRs .any ra], .fro 0 ((false :: cb).map .bool), .cells 0 [aSs .any b.tracks, aBs .any (false :: cb), aRs .any rb], .cells 0 m.cells, .cells 0 n.cells]) ⟨(by kernel_rfl), (by kernel_rfl), (by kernel_rfl), (by kernel_rfl), (by kernel_rfl), (by kernel_rfl), (by kernel_rfl), (by kernel_rfl), trivial⟩ (by kernel_rfl)) ?_
  subst hz
  repeat first | refine opsStep ?_ | refine codeStep ?_ | refine drawStep ?_
  refine guardE_of (by simp; omega) ?_
  repeat first | refine opsStep ?_ | refine codeStep ?_ | refine drawStep ?_
  refine optE_of (c := AV.bool c0) (by simp [Value.cells, ga]) ?_
  repeat first | refine opsStep ?_ | refine codeStep ?_ | refine drawStep ?_
  cases c0 with
  | true =>
    repeat first | refine opsStep ?_ | refine codeStep ?_ | refine drawStep ?_
    exact finB (b' := true) (by kernel_rfl) rfl
  | false =>
    repeat first | refine opsStep ?_ | refine codeStep ?_ | refine drawStep ?_
    refine guardE_of (by simp; omega) ?_
    repeat first | refine opsStep ?_ | refine codeStep ?_ | refine drawStep ?_
    refine optE_of (c := AV.bool d0) (by simp [Value.cells, gb]) ?_
    repeat first | refine opsStep ?_ | refine codeStep ?_ | refine drawStep ?_
    cases d0 with
    | true =>
      repeat first | refine opsStep ?_ | refine codeStep ?_ | refine drawStep ?_
      exact finB (b' := true) (by kernel_rfl) rfl
    | false =>
      have hsv := hiff rfl rfl
      generalize sameD m n = sd at *
      repeat first | refine opsStep ?_ | refine codeStep ?_ | refine drawStep ?_
      refine callP hsd ?_
      repeat first | refine opsStep ?_ | refine codeStep ?_ | refine drawStep ?_
      exact finB (b' := sv == sd) (by kernel_rfl) (by rw [hsv]; simp)

theorem law_CompareCanon (a b : Aut) (ha : AutOk a) (hb : AutOk b) : Pure Try.prog 9 [aAut a, aAut b] (.bool true) := by
  cases h : checkS a && checkS b with
  | false => exact canon_bad a b ha hb h
  | true =>
    obtain ⟨h1, h2⟩ := Bool.and_eq_true_iff.1 h
    exact canon_good a b ha hb h1 h2

end Tab
