/- Lemmas for this claim: part 13. No condition. -/
import Derived.Test.YtiflemdfnjgobaaDoorZ12
/- The law ParseBrackets. -/
namespace Tab
open Go Go.Proofs
set_option maxRecDepth 10000
set_option linter.unusedVariables false
set_option linter.unusedSimpArgs false
set_option linter.unusedSectionVars false
set_option maxHeartbeats 2000000

theorem p_joined (op : Int) (n : Nat) (cs : List AV) (hc : closeds cs) : Pure Tryd.prog 30 [.int .i64 op, .sl .any n cs] (.agg [.int .i64 op, .str [], .int .i64 0, .sl .nil 0 [], .sl .any n cs]) := by
  refine Pure.of_sw 8 Tryd.func30 rfl Tryd.ntmps30 (by kernel_rfl) (Nat.le_of_ble_eq_true (by kernel_rfl)) (by simp only [closeds, AV.closed]; exact ⟨trivial, hc, trivial⟩) (by simp only [closeds, AV.closed]; exact ⟨trivial, trivial, trivial, trivial, hc, trivial⟩) ?_
  refine SW.of_vc ?_
  repeat first | refine opsStep ?_ | refine codeStep ?_ | refine drawStep ?_
  exact finE_of (by kernel_rfl)
theorem p_right (s : Str) (hl : s.length < 2 ^ 62) : Pure Tryd.prog 29 [.str s] (.tup [.agg (fcl (parF s).1), .bool (decide ((parF s).2.why = 0 ∧ ((parF s).2.at' : Int) = 0 ∧ ((parF s).2.ch : Int) = 0))]) := by
  have h := parse_Formula s hl
  have hj := parF_fl s
  have hc := fcl_closed (parF s).1
  have he := eqlF (w := (parF s).2.why) (a := (parF s).2.at') (b := (parF s).2.ch) (w' := 0) (c := 0) (d := 0) hj.1 hj.2.1 hj.2.2 (by decide) (by decide) (by decide)
  generalize parF s = x at *
  refine Pure.of_sw 15 Tryd.func29 rfl Tryd.ntmps29 (by kernel_rfl) (Nat.le_of_ble_eq_true (by kernel_rfl)) (by simp only [closeds, AV.closed]; exact ⟨trivial, trivial⟩) (by simp only [closeds, AV.closed]; exact ⟨hc, trivial, trivial⟩) ?_
  refine SW.of_vc ?_
  repeat first | refine opsStep ?_ | refine codeStep ?_ | refine drawStep ?_
  refine callP h ?_
  repeat first | refine opsStep ?_ | refine codeStep ?_ | refine drawStep ?_
  refine SW.drawn rfl (by kernel_rfl) ?_
  repeat first | refine opsStep ?_ | refine codeStep ?_ | refine drawStep ?_
  refine ⟨_, he, ?_⟩
  repeat first | refine opsStep ?_ | refine codeStep ?_ | refine drawStep ?_
  refine ⟨by kernel_rfl, ?_⟩
  repeat first | refine opsStep ?_ | refine codeStep ?_ | refine drawStep ?_
  exact finE_of (by kernel_rfl)
def cTwo (op : Int) (a b : List AV) : List AV := [.int .i64 op, .str [], .int .i64 0, .sl .nil 0 [], .sl .any 2 (a ++ b)]
def cOne (op : Int) (s : Str) (a : List AV) : List AV := [.int .i64 op, .str s, .int .i64 0, .sl .nil 0 [], .sl .any 1 a]
theorem cTwo_eq (op : Int) (a b : FT) : cTwo op (fcl a) (fcl b) = fcl (twoF op a b) := (fcl_two op a b).symm
theorem cOne_eq (op : Int) (s : Str) (a : FT) : cOne op s (fcl a) = fcl (oneF op s a) := (fcl_one op s a).symm
theorem fts_cons (f : FT) (l : List FT) : ftsC (f :: l) = fcl f ++ ftsC l := by rw [ftsC, FT.cells_eq]; rfl
theorem fts_nil : ftsC [] = [] := by rw [ftsC]
theorem cl2 (a b : FT) : closeds (fcl a ++ fcl b) := closeds_iff.2 fun x h => (List.mem_append.1 h).elim (closeds_iff.1 (fcl_closed a) x) (closeds_iff.1 (fcl_closed b) x)
/-- A word on what a text came to. -/
theorem comes_cases {z : Str} {g : FT} (h : Comes z g) : (∃ f y, (y = 70 ∨ y = 72 ∨ y = 73) ∧ parF z = (f, ⟨y, 0, 0⟩)) ∨ (parF z = (g, flt0) ∧ chkF g = 0 ∧ g.ok) := by
  rcases h with ⟨y, h1, h2⟩ | ⟨h1, h2⟩
  · exact .inl ⟨(parF z).1, y, h1, by rw [← h2]⟩
  · refine .inr ⟨h1, h2, ?_⟩
    have := parF_ok z
    rw [h1] at this
    exact this

/-- The texts are read one after another. -/
theorem brackets_else (s t : Str) (f g : FT) (b : Bool) (c : Bool) (hb : (b && c) = false) (h1 : Pure Tryd.prog 29 [.str s] (.tup [.agg (fcl f), .bool b])) (h2 : Pure Tryd.prog 29 [.str t] (.tup [.agg (fcl g), .bool c])) : Pure Tryd.prog 8 [.str s, .str t] (.bool true) := by
  cases b with
  | false =>
    refine Pure.of_sw 126 Tryd.func8 rfl Tryd.ntmps8 (by kernel_rfl) (Nat.le_of_ble_eq_true (by kernel_rfl)) (by simp [closeds, AV.closed, aSs_closed, aIs_closed, aBs_closed, aRs_closed, aDen_closed]) (by simp [AV.closed, closeds, aSs_closed, aIs_closed, aBs_closed, aRs_closed, aDen_closed]) ?_; refine SW.of_vc ?_
    repeat first | refine opsStep ?_ | refine codeStep ?_ | refine drawStep ?_
    refine callP law7_fixed ?_
    repeat first | refine opsStep ?_ | refine codeStep ?_ | refine drawStep ?_
    refine callP h1 ?_
    repeat first | refine opsStep ?_ | refine codeStep ?_ | refine drawStep ?_
    refine callP h2 ?_
    repeat first | refine opsStep ?_ | refine codeStep ?_ | refine drawStep ?_
    exact finB (b' := true) (by kernel_rfl) rfl
  | true =>
    cases c with
    | false =>
      refine Pure.of_sw 126 Tryd.func8 rfl Tryd.ntmps8 (by kernel_rfl) (Nat.le_of_ble_eq_true (by kernel_rfl)) (by simp [closeds, AV.closed, aSs_closed, aIs_closed, aBs_closed, aRs_closed, aDen_closed]) (by simp [AV.closed, closeds, aSs_closed, aIs_closed, aBs_closed, aRs_closed, aDen_closed]) ?_; refine SW.of_vc ?_
      repeat first | refine opsStep ?_ | refine codeStep ?_ | refine drawStep ?_
      refine callP law7_fixed ?_
      repeat first | refine opsStep ?_ | refine codeStep ?_ | refine drawStep ?_
      refine callP h1 ?_
      repeat first | refine opsStep ?_ | refine codeStep ?_ | refine drawStep ?_
      refine callP h2 ?_
      repeat first | refine opsStep ?_ | refine codeStep ?_ | refine drawStep ?_
      exact finB (b' := true) (by kernel_rfl) rfl
    | true => cases hb
def brZ (s t : Str) : List Str := [((([40] ++ s) ++ [41, 32, 97, 110, 100, 32, 40]) ++ t) ++ [41], ((([40] ++ s) ++ [41, 32, 111, 114, 32, 40]) ++ t) ++ [41], ((([40] ++ s) ++ [41, 32, 45, 62, 32, 40]) ++ t) ++ [41], ((([40] ++ s) ++ [41, 60, 45, 62, 40]) ++ t) ++ [41], ([110, 111, 116, 32, 40] ++ s) ++ [41], ([101, 120, 32, 120, 44, 32, 121, 46, 32, 40] ++ s) ++ [41], ([97, 108, 108, 32, 122, 46, 40, 40] ++ s) ++ [41, 41]]
def brG (f g : FT) : List FT := [twoF 3 f g, twoF 4 f g, twoF 5 f g, twoF 6 f g, oneF 2 [] f, oneF 7 [120] (oneF 7 [121] f), oneF 8 [122] f]
def brC (f g : FT) : List AV := cTwo 3 (fcl f) (fcl g) ++ cTwo 4 (fcl f) (fcl g) ++ cTwo 5 (fcl f) (fcl g) ++ cTwo 6 (fcl f) (fcl g) ++ cOne 2 [] (fcl f) ++ cOne 7 [120] (cOne 7 [121] (fcl f)) ++ cOne 8 [122] (fcl f)
theorem brC_eq (f g : FT) : brC f g = ftsC (brG f g) := by
  unfold brC brG
  simp only [cTwo_eq, cOne_eq, fts_cons, fts_nil, List.append_nil, List.append_assoc]
theorem brackets_main (s t : Str) (f g : FT) (hl : s.length + t.length < 2 ^ 61) (hZ7 : ∀ i (h : i < 7), Comes ((brZ s t)[i]'h) ((brG f g)[i]'h)) (h1 : Pure Tryd.prog 29 [.str s] (.tup [.agg (fcl f), .bool true])) (h2 : Pure Tryd.prog 29 [.str t] (.tup [.agg (fcl g), .bool true])) : Pure Tryd.prog 8 [.str s, .str t] (.bool true) := by
  have hj := fun op => p_joined op 2 (fcl f ++ fcl g) (cl2 f g)
  have hj1 := fun op => p_joined op 1 (fcl f) (fcl_closed f)
  refine Pure.of_sw 126 Tryd.func8 rfl Tryd.ntmps8 (by kernel_rfl) (Nat.le_of_ble_eq_true (by kernel_rfl)) (by simp [closeds, AV.closed, aSs_closed, aIs_closed, aBs_closed, aRs_closed, aDen_closed]) (by simp [AV.closed, closeds, aSs_closed, aIs_closed, aBs_closed, aRs_closed, aDen_closed]) ?_; refine SW.of_vc ?_
  repeat first | refine opsStep ?_ | refine codeStep ?_ | refine drawStep ?_
  refine callP law7_fixed ?_
  repeat first | refine opsStep ?_ | refine codeStep ?_ | refine drawStep ?_
  refine callP h1 ?_
  repeat first | refine opsStep ?_ | refine codeStep ?_ | refine drawStep ?_
  refine callP h2 ?_
  repeat first | refine opsStep ?_ | refine codeStep ?_ | refine drawStep ?_
  refine guardE_of (by simp only [List.length_append, List.length_cons, List.length_nil]; omega) ?_
  iterate 21 ((repeat first | refine opsStep ?_ | refine codeStep ?_ | refine drawStep ?_); refine guardE_of (by simp only [List.length_append, List.length_cons, List.length_nil]; omega) ?_)
  refine opsFrz ?_
  refine optX_of (c := (brZ s t).map .str) (by kernel_rfl) ?_
  iterate 2 refine opsStep ?_
  refine VCode.ent (Ent.fr' (l := [(5, .ref 0 0 0), (7, .ref 1 0 0), (9, aSs .any (brZ s t))]) (H' := [.cells 0 (fcl f), .cells 0 (fcl g), .fro 0 ((brZ s t).map .str)]) ⟨(by kernel_rfl), (by kernel_rfl), (by kernel_rfl), trivial⟩ (by kernel_rfl)) ?_
  repeat refine codeStep ?_
  refine SW.drawn rfl (by kernel_rfl) ?_
  iterate 4 ((iterate 2 refine drawStep ?_); (refine drawFrzN ?_); (refine optX_of (c := fcl f ++ fcl g) (by kernel_rfl) ?_); (iterate 1 refine drawStep ?_); (refine .inl ⟨_, _, [], hj _, RdsN_refl _, .inr rfl, none_need, ?_⟩))
  iterate 1 refine drawStep ?_
  refine drawFrzN ?_
  iterate 1 refine drawStep ?_
  refine .inl ⟨_, _, [], hj1 _, RdsN_refl _, .inr rfl, none_need, ?_⟩
  iterate 1 refine drawStep ?_
  refine drawFrzN ?_
  iterate 1 refine drawStep ?_
  refine drawFrzN ?_
  iterate 2 refine drawStep ?_
  refine drawFrzN ?_
  iterate 1 refine drawStep ?_
  refine drawFrzN ?_
  refine optX_of (c := brC f g) (by kernel_rfl) ?_
  repeat first | refine opsStep ?_ | refine codeStep ?_ | refine drawStep ?_
  refine ⟨by kernel_rfl, ?_⟩
  have hZb : ∀ z ∈ brZ s t, z.length < 2 ^ 62 := by
    intro z hz
    simp only [brZ, List.mem_cons, List.mem_nil_iff, or_false] at hz
    rcases hz with rfl | rfl | rfl | rfl | rfl | rfl | rfl <;> (simp only [List.length_append, List.length_cons, List.length_nil]; omega)
  have hZl : (brZ s t).length = 7 := rfl
  have hGl : (brG f g).length = 7 := rfl
  have hZ : ∀ i (h : i < (brZ s t).length) (h' : i < (brG f g).length), Comes ((brZ s t)[i]'h) ((brG f g)[i]'h') := fun i h _ => hZ7 i (by rw [hZl] at h; exact h)
  clear hZ7
  refine VCode.ent (Ent.frD (l := [(9, aSs .any (brZ s t)), (10, .sl .any (brG f g).length (ftsC (brG f g)))]) (H' := []) ⟨(by kernel_rfl), Eq.trans (b := .sl .any 7 (brC f g)) (by kernel_rfl) (by rw [brC_eq, hGl]), trivial⟩ rfl (Nat.zero_le _) (by simp only [frBel, AV.bel]; exact ⟨aSs_bel _ _ _, closeds_bel _ (ftsC_closed _), trivial⟩) trivial) ?_
  generalize brZ s t = Z at *
  generalize brG f g = G at *
  repeat first | refine opsStep ?_ | refine codeStep ?_ | refine drawStep ?_
  refine loopE_of (ι := {i : Nat // i ≤ Z.length}) (fun i => (fr [(10, .sl .any G.length (ftsC G)), (95, aSs .any Z), (96, .int .i64 Z.length), (97, .int .i64 i.1)], [])) (fun i => Z.length - i.1)
    ⟨0, Nat.zero_le _⟩ (Ent.fr' ⟨(by kernel_rfl), (by kernel_rfl), (by kernel_rfl), (by kernel_rfl), trivial⟩ (by kernel_rfl)) ?_
  rintro ⟨i, hi⟩
  repeat first | refine opsStep ?_ | refine codeStep ?_ | refine drawStep ?_
  refine decB_dec (fun hlt => ?_) (fun hlt => ?_)
  · have hi' : i < Z.length := by have : (i : Int) < Z.length := hlt; omega
    clear hlt
    have hiG : i < G.length := by omega
    have hz : (Z.map AV.str)[i]? = some (.str (Z[i]'hi')) := by simp [hi']
    have hF := parse_Formula (Z[i]'hi') (hZb _ (List.getElem_mem hi'))
    have hcm := comes_cases (hZ i hi' hiG)
    have hld := fts_ld hiG
    have hfit : 5 ≤ ((ftsC G).drop ((i : Int).toNat * 5)).length := by rw [List.length_drop, ftsC_len, Int.toNat_natCast]; omega
    generalize Z[i]'hi' = z at *
    generalize G[i]'hiG = gg at *
    rcases hcm with ⟨f', y, hy, hp⟩ | ⟨hp, hchk, hok⟩
    · rw [hp] at hF
      have hgr : Pure Tryd.prog 26 [.agg (fltC ⟨y, 0, 0⟩)] (.bool true) := by
        have := law7_great ⟨y, 0, 0⟩
        rwa [decide_eq_true (by show y = 70 ∨ y = 73 ∨ y = 72; omega)] at this
      repeat first | refine opsStep ?_ | refine codeStep ?_ | refine drawStep ?_
      refine guardE_of ⟨by omega, by show (i : Int) < Z.length; omega⟩ ?_
      repeat first | refine opsStep ?_ | refine codeStep ?_ | refine drawStep ?_
      refine optE_of (c := AV.str z) (by show ((Z.map AV.str).drop ((i : Int).toNat * 1))[0]? = _; rw [List.getElem?_drop, Int.toNat_natCast]; simpa using hz) ?_
      repeat first | refine opsStep ?_ | refine codeStep ?_ | refine drawStep ?_
      refine callP hF ?_
      repeat first | refine opsStep ?_ | refine codeStep ?_ | refine drawStep ?_
      refine callP hgr ?_
      repeat first | refine opsStep ?_ | refine codeStep ?_ | refine drawStep ?_
      refine ⟨true, eqlP (a := 0) (b := 0) (c := 0) (d := 0) (by decide) (by decide) (by decide) (by decide), ?_⟩
      repeat first | refine opsStep ?_ | refine codeStep ?_ | refine drawStep ?_
      exact ⟨⟨i + 1, hi'⟩, (by show Z.length - (i + 1) < Z.length - i; omega), Ent.frD (l := [(10, .sl .any G.length (ftsC G)), (95, aSs .any Z), (96, .int .i64 Z.length), (97, .int .i64 ((i + 1 : Nat) : Int))]) (H' := []) ⟨(by kernel_rfl), (by kernel_rfl), (by kernel_rfl), inc_slot (i := i) (by omega), trivial⟩ rfl (Nat.zero_le _) (by simp only [frBel, AV.bel]; exact ⟨closeds_bel _ (ftsC_closed _), aSs_bel _ _ _, trivial, trivial, trivial⟩) trivial⟩
    · rw [hp] at hF
      have hgr : Pure Tryd.prog 26 [.agg (fltC flt0)] (.bool false) := law7_great flt0
      have hsm : Pure Tryd.prog 31 [.agg (fcl gg), .agg (((ftsC G).drop ((i : Int).toNat * 5)).take 5)] (.bool true) := by rw [hld]; exact tree_Same gg hok hchk
      repeat first | refine opsStep ?_ | refine codeStep ?_ | refine drawStep ?_
      refine guardE_of ⟨by omega, by show (i : Int) < Z.length; omega⟩ ?_
      repeat first | refine opsStep ?_ | refine codeStep ?_ | refine drawStep ?_
      refine optE_of (c := AV.str z) (by show ((Z.map AV.str).drop ((i : Int).toNat * 1))[0]? = _; rw [List.getElem?_drop, Int.toNat_natCast]; simpa using hz) ?_
      repeat first | refine opsStep ?_ | refine codeStep ?_ | refine drawStep ?_
      refine callP hF ?_
      repeat first | refine opsStep ?_ | refine codeStep ?_ | refine drawStep ?_
      refine callP hgr ?_
      repeat first | refine opsStep ?_ | refine codeStep ?_ | refine drawStep ?_
      refine SW.drawn rfl (by kernel_rfl) ?_
      repeat first | refine opsStep ?_ | refine codeStep ?_ | refine drawStep ?_
      refine ⟨true, eqlF (w := 0) (a := 0) (b := 0) (w' := 0) (c := 0) (d := 0) (by decide) (by decide) (by decide) (by decide) (by decide) (by decide), ?_⟩
      repeat first | refine opsStep ?_ | refine codeStep ?_ | refine drawStep ?_
      refine guardE_of ⟨by omega, by show (i : Int) < G.length; omega⟩ ?_
      repeat first | refine opsStep ?_ | refine codeStep ?_ | refine drawStep ?_
      refine guardE_of hfit ?_
      iterate 1 refine drawStep ?_
      refine .inl ⟨_, _, [], hsm, RdsN_refl _, .inr rfl, none_need, ?_⟩
      repeat first | refine opsStep ?_ | refine codeStep ?_ | refine drawStep ?_
      refine ⟨by kernel_rfl, ?_⟩
      repeat first | refine opsStep ?_ | refine codeStep ?_ | refine drawStep ?_
      exact ⟨⟨i + 1, hi'⟩, (by show Z.length - (i + 1) < Z.length - i; omega), Ent.frD (l := [(10, .sl .any G.length (ftsC G)), (95, aSs .any Z), (96, .int .i64 Z.length), (97, .int .i64 ((i + 1 : Nat) : Int))]) (H' := []) ⟨(by kernel_rfl), (by kernel_rfl), (by kernel_rfl), inc_slot (i := i) (by omega), trivial⟩ rfl (Nat.zero_le _) (by simp only [frBel, AV.bel]; exact ⟨closeds_bel _ (ftsC_closed _), aSs_bel _ _ _, trivial, trivial, trivial⟩) trivial⟩
  · clear hlt
    repeat first | refine opsStep ?_ | refine codeStep ?_ | refine drawStep ?_
    exact finB (b' := true) (by kernel_rfl) rfl


theorem parseBrackets (s t : Str) (hs : s.length + t.length < 2 ^ 61) : Pure Tryd.prog 8 [.str s, .str t] (.bool true) := by
  have h1 := p_right s (by omega)
  have h2 := p_right t (by omega)
  have hb : ∀ x : Str, decide ((parF x).2.why = 0 ∧ ((parF x).2.at' : Int) = 0 ∧ ((parF x).2.ch : Int) = 0) = true → (parF x).2 = flt0 := fun x h => by
    obtain ⟨k1, k2, k3⟩ := of_decide_eq_true h
    generalize (parF x).2 = F at *
    rcases F with ⟨y, p, q⟩
    simp only at k1 k2 k3
    have : p = 0 := by omega
    have : q = 0 := by omega
    subst k1
    subst p q
    rfl
  have hb1 := hb s
  have hb2 := hb t
  generalize decide ((parF s).2.why = 0 ∧ ((parF s).2.at' : Int) = 0 ∧ ((parF s).2.ch : Int) = 0) = b at *
  generalize decide ((parF t).2.why = 0 ∧ ((parF t).2.at' : Int) = 0 ∧ ((parF t).2.ch : Int) = 0) = c at *
  by_cases hc : (b && c) = false
  · exact brackets_else s t _ _ b c hc h1 h2
  · have hbt : b = true := by cases b <;> simp at hc ⊢
    have hct : c = true := by cases c <;> simp at hc ⊢
    subst hbt hct
    have r1 := read_of (hb1 rfl)
    have r2 := read_of (hb2 rfl)
    refine brackets_main s t _ _ hs ?_ h1 h2
    intro i hi
    match i, hi with
    | 0, _ => exact br1 r1 r2
    | 1, _ => exact br2 r1 r2
    | 2, _ => exact br3 r1 r2
    | 3, _ => exact br4 r1 r2
    | 4, _ => exact br5 r1
    | 5, _ => exact br6 r1
    | 6, _ => exact br7 r1

end Tab

/- The law ParseBinds. -/
namespace Tab
open Go Go.Proofs
set_option maxRecDepth 10000
set_option linter.unusedVariables false
set_option linter.unusedSimpArgs false
set_option linter.unusedSectionVars false
set_option maxHeartbeats 4000000

theorem binds_else (s t u : Str) (f g k : FT) (b c d : Bool) (hb : (b && c && d) = false) (h1 : Pure Tryd.prog 29 [.str s] (.tup [.agg (fcl f), .bool b])) (h2 : Pure Tryd.prog 29 [.str t] (.tup [.agg (fcl g), .bool c])) (h3 : Pure Tryd.prog 29 [.str u] (.tup [.agg (fcl k), .bool d])) : Pure Tryd.prog 9 [.str s, .str t, .str u] (.bool true) := by
  cases b with
  | false =>
    refine Pure.of_sw 207 Tryd.func9 rfl Tryd.ntmps9 (by kernel_rfl) (Nat.le_of_ble_eq_true (by kernel_rfl)) (by simp [closeds, AV.closed, aSs_closed, aIs_closed, aBs_closed, aRs_closed, aDen_closed]) (by simp [AV.closed, closeds, aSs_closed, aIs_closed, aBs_closed, aRs_closed, aDen_closed]) ?_; refine SW.of_vc ?_
    repeat first | refine opsStep ?_ | refine codeStep ?_ | refine drawStep ?_
    refine callP law7_fixed ?_
    repeat first | refine opsStep ?_ | refine codeStep ?_ | refine drawStep ?_
    refine callP h1 ?_
    repeat first | refine opsStep ?_ | refine codeStep ?_ | refine drawStep ?_
    refine callP h2 ?_
    repeat first | refine opsStep ?_ | refine codeStep ?_ | refine drawStep ?_
    refine callP h3 ?_
    repeat first | refine opsStep ?_ | refine codeStep ?_ | refine drawStep ?_
    exact finB (b' := true) (by kernel_rfl) rfl
  | true =>
    cases c with
    | false =>
      refine Pure.of_sw 207 Tryd.func9 rfl Tryd.ntmps9 (by kernel_rfl) (Nat.le_of_ble_eq_true (by kernel_rfl)) (by simp [closeds, AV.closed, aSs_closed, aIs_closed, aBs_closed, aRs_closed, aDen_closed]) (by simp [AV.closed, closeds, aSs_closed, aIs_closed, aBs_closed, aRs_closed, aDen_closed]) ?_; refine SW.of_vc ?_
      repeat first | refine opsStep ?_ | refine codeStep ?_ | refine drawStep ?_
      refine callP law7_fixed ?_
      repeat first | refine opsStep ?_ | refine codeStep ?_ | refine drawStep ?_
      refine callP h1 ?_
      repeat first | refine opsStep ?_ | refine codeStep ?_ | refine drawStep ?_
      refine callP h2 ?_
      repeat first | refine opsStep ?_ | refine codeStep ?_ | refine drawStep ?_
      refine callP h3 ?_
      repeat first | refine opsStep ?_ | refine codeStep ?_ | refine drawStep ?_
      exact finB (b' := true) (by kernel_rfl) rfl
    | true =>
      cases d with
      | false =>
        refine Pure.of_sw 207 Tryd.func9 rfl Tryd.ntmps9 (by kernel_rfl) (Nat.le_of_ble_eq_true (by kernel_rfl)) (by simp [closeds, AV.closed, aSs_closed, aIs_closed, aBs_closed, aRs_closed, aDen_closed]) (by simp [AV.closed, closeds, aSs_closed, aIs_closed, aBs_closed, aRs_closed, aDen_closed]) ?_; refine SW.of_vc ?_
        repeat first | refine opsStep ?_ | refine codeStep ?_ | refine drawStep ?_
        refine callP law7_fixed ?_
        repeat first | refine opsStep ?_ | refine codeStep ?_ | refine drawStep ?_
        refine callP h1 ?_
        repeat first | refine opsStep ?_ | refine codeStep ?_ | refine drawStep ?_
        refine callP h2 ?_
        repeat first | refine opsStep ?_ | refine codeStep ?_ | refine drawStep ?_
        refine callP h3 ?_
        repeat first | refine opsStep ?_ | refine codeStep ?_ | refine drawStep ?_
        exact finB (b' := true) (by kernel_rfl) rfl
      | true => cases hb
def biZ (s t u : Str) : List Str := [(((bk s ++ [111, 114]) ++ bk t) ++ [97, 110, 100]) ++ bk u, (((bk s ++ [97, 110, 100]) ++ bk t) ++ [111, 114]) ++ bk u, (((bk s ++ [45, 62]) ++ bk t) ++ [111, 114]) ++ bk u, (((bk s ++ [60, 45, 62]) ++ bk t) ++ [45, 62]) ++ bk u, (((bk s ++ [45, 62]) ++ bk t) ++ [45, 62]) ++ bk u,
  (((bk s ++ [97, 110, 100]) ++ bk t) ++ [97, 110, 100]) ++ bk u, (((bk s ++ [60, 45, 62]) ++ bk t) ++ [60, 45, 62]) ++ bk u, (([110, 111, 116] ++ bk s) ++ [97, 110, 100]) ++ bk t, (([101, 120, 32, 120, 46] ++ bk s) ++ [111, 114]) ++ bk t]
def biG (a b c : FT) : List FT := [twoF 4 a (twoF 3 b c), twoF 4 (twoF 3 a b) c, twoF 5 a (twoF 4 b c), twoF 6 a (twoF 5 b c), twoF 5 a (twoF 5 b c), twoF 3 (twoF 3 a b) c, twoF 6 (twoF 6 a b) c, twoF 3 (oneF 2 [] a) b, twoF 4 (oneF 7 [120] a) b]
theorem bk_len (s : Str) : (bk s).length = s.length + 2 := by simp [bk]
def biC (a b c : FT) : List AV := cTwo 4 (fcl a) (cTwo 3 (fcl b) (fcl c)) ++ cTwo 4 (cTwo 3 (fcl a) (fcl b)) (fcl c) ++ cTwo 5 (fcl a) (cTwo 4 (fcl b) (fcl c)) ++ cTwo 6 (fcl a) (cTwo 5 (fcl b) (fcl c)) ++ cTwo 5 (fcl a) (cTwo 5 (fcl b) (fcl c)) ++ cTwo 3 (cTwo 3 (fcl a) (fcl b)) (fcl c) ++ cTwo 6 (cTwo 6 (fcl a) (fcl b)) (fcl c) ++ cTwo 3 (cOne 2 [] (fcl a)) (fcl b) ++ cTwo 4 (cOne 7 [120] (fcl a)) (fcl b)
theorem biC_eq (a b c : FT) : biC a b c = ftsC (biG a b c) := by
  unfold biC biG
  simp only [cTwo_eq, cOne_eq, fts_cons, fts_nil, List.append_nil, List.append_assoc]
theorem cTwo_closed {op : Int} {x y : List AV} (hx : closeds x) (hy : closeds y) : closeds (cTwo op x y) := by
  simp only [cTwo, closeds, AV.closed]
  exact ⟨trivial, trivial, trivial, trivial, closeds_iff.2 fun z h => (List.mem_append.1 h).elim (closeds_iff.1 hx z) (closeds_iff.1 hy z), trivial⟩
theorem cOne_closed {op : Int} {s : Str} {x : List AV} (hx : closeds x) : closeds (cOne op s x) := by
  simp only [cOne, closeds, AV.closed]
  exact ⟨trivial, trivial, trivial, trivial, hx, trivial⟩
theorem j_two (op : Int) {x y : List AV} (hx : closeds x) (hy : closeds y) : Pure Tryd.prog 30 [.int .i64 op, .sl .any 2 (x ++ y)] (.agg (cTwo op x y)) := p_joined op 2 (x ++ y) (closeds_iff.2 fun z h => (List.mem_append.1 h).elim (closeds_iff.1 hx z) (closeds_iff.1 hy z))
theorem j_one (op : Int) {x : List AV} (hx : closeds x) : Pure Tryd.prog 30 [.int .i64 op, .sl .any 1 x] (.agg (cOne op [] x)) := p_joined op 1 x hx
/-- Two parts put together in a drawn region: loads L operations before the first slice. -/
theorem binds_main (s t u : Str) (a b c : FT) (hl : s.length + t.length + u.length < 2 ^ 61) (hZ9 : ∀ i (h : i < 9), Comes ((biZ s t u)[i]'h) ((biG a b c)[i]'h)) (h1 : Pure Tryd.prog 29 [.str s] (.tup [.agg (fcl a), .bool true])) (h2 : Pure Tryd.prog 29 [.str t] (.tup [.agg (fcl b), .bool true])) (h3 : Pure Tryd.prog 29 [.str u] (.tup [.agg (fcl c), .bool true])) :
    Pure Tryd.prog 9 [.str s, .str t, .str u] (.bool true) := by
  have ca := fcl_closed a
  have cb := fcl_closed b
  have cc := fcl_closed c
  refine Pure.of_sw 207 Tryd.func9 rfl Tryd.ntmps9 (by kernel_rfl) (Nat.le_of_ble_eq_true (by kernel_rfl)) (by simp [closeds, AV.closed, aSs_closed, aIs_closed, aBs_closed, aRs_closed, aDen_closed]) (by simp [AV.closed, closeds, aSs_closed, aIs_closed, aBs_closed, aRs_closed, aDen_closed]) ?_; refine SW.of_vc ?_
  repeat first | refine opsStep ?_ | refine codeStep ?_ | refine drawStep ?_
  refine callP law7_fixed ?_
  repeat first | refine opsStep ?_ | refine codeStep ?_ | refine drawStep ?_
  refine callP h1 ?_
  repeat first | refine opsStep ?_ | refine codeStep ?_ | refine drawStep ?_
  refine callP h2 ?_
  repeat first | refine opsStep ?_ | refine codeStep ?_ | refine drawStep ?_
  refine callP h3 ?_
  repeat first | refine opsStep ?_ | refine codeStep ?_ | refine drawStep ?_
  refine guardE_of (by simp only [List.length_append, List.length_cons, List.length_nil]; omega) ?_
  iterate 5 ((repeat first | refine opsStep ?_ | refine codeStep ?_ | refine drawStep ?_); refine guardE_of (by simp only [List.length_append, List.length_cons, List.length_nil]; omega) ?_)
  iterate 4 refine opsStep ?_
  refine VCode.ent (Ent.fr' (l := [(7, .ref 0 0 0), (9, .ref 1 0 0), (11, .ref 2 0 0), (13, .str (bk s)), (14, .str (bk t)), (15, .str (bk u))]) (H' := [.cells 0 (fcl a), .cells 0 (fcl b), .cells 0 (fcl c)]) ⟨(by kernel_rfl), (by kernel_rfl), (by kernel_rfl), (by kernel_rfl), (by kernel_rfl), (by kernel_rfl), trivial⟩ (by kernel_rfl)) ?_
  repeat refine codeStep ?_
  iterate 34 ((repeat first | refine opsStep ?_ | refine codeStep ?_ | refine drawStep ?_); (refine guardE_of (by simp only [bk, List.length_append, List.length_cons, List.length_nil]; omega) ?_))
  refine opsFrz ?_
  refine optX_of (c := (biZ s t u).map AV.str) (by kernel_rfl) ?_
  iterate 2 refine opsStep ?_
  refine VCode.ent (Ent.fr' (l := [(7, .ref 0 0 0), (9, .ref 1 0 0), (11, .ref 2 0 0), (16, aSs .any (biZ s t u))]) (H' := [.cells 0 (fcl a), .cells 0 (fcl b), .cells 0 (fcl c), .fro 0 ((biZ s t u).map .str)]) ⟨(by kernel_rfl), (by kernel_rfl), (by kernel_rfl), (by kernel_rfl), trivial⟩ (by kernel_rfl)) ?_
  repeat refine codeStep ?_
  refine SW.drawn rfl (by kernel_rfl) ?_
  iterate 3 refine drawStep ?_
  refine drawFrzN ?_
  refine optX_of (c := (fcl b) ++ (fcl c)) (by kernel_rfl) ?_
  iterate 1 refine drawStep ?_
  refine .inl ⟨_, _, [], j_two 3 cb cc, RdsN_refl _, .inr rfl, none_need, ?_⟩
  refine drawEq rfl (H' := [.cells 0 (fcl a), .cells 0 (fcl b), .cells 0 (fcl c), .fro 0 ((biZ s t u).map .str), .fro 0 ((fcl b) ++ (fcl c))]) (by kernel_rfl) ?_
  iterate 0 refine drawStep ?_
  refine drawFrzN ?_
  refine optX_of (c := (fcl a) ++ cTwo 3 (fcl b) (fcl c)) (by kernel_rfl) ?_
  iterate 1 refine drawStep ?_
  refine .inl ⟨_, _, [], j_two 4 ca (cTwo_closed cb cc), RdsN_refl _, .inr rfl, none_need, ?_⟩
  refine drawEq rfl (H' := [.cells 0 (fcl a), .cells 0 (fcl b), .cells 0 (fcl c), .fro 0 ((biZ s t u).map .str), .fro 0 ((fcl b) ++ (fcl c)), .fro 0 ((fcl a) ++ cTwo 3 (fcl b) (fcl c))]) (by kernel_rfl) ?_
  iterate 2 refine drawStep ?_
  refine drawFrzN ?_
  refine optX_of (c := (fcl a) ++ (fcl b)) (by kernel_rfl) ?_
  iterate 1 refine drawStep ?_
  refine .inl ⟨_, _, [], j_two 3 ca cb, RdsN_refl _, .inr rfl, none_need, ?_⟩
  refine drawEq rfl (H' := [.cells 0 (fcl a), .cells 0 (fcl b), .cells 0 (fcl c), .fro 0 ((biZ s t u).map .str), .fro 0 ((fcl b) ++ (fcl c)), .fro 0 ((fcl a) ++ cTwo 3 (fcl b) (fcl c)), .fro 0 ((fcl a) ++ (fcl b))]) (by kernel_rfl) ?_
  iterate 1 refine drawStep ?_
  refine drawFrzN ?_
  refine optX_of (c := cTwo 3 (fcl a) (fcl b) ++ (fcl c)) (by kernel_rfl) ?_
  iterate 1 refine drawStep ?_
  refine .inl ⟨_, _, [], j_two 4 (cTwo_closed ca cb) cc, RdsN_refl _, .inr rfl, none_need, ?_⟩
  refine drawEq rfl (H' := [.cells 0 (fcl a), .cells 0 (fcl b), .cells 0 (fcl c), .fro 0 ((biZ s t u).map .str), .fro 0 ((fcl b) ++ (fcl c)), .fro 0 ((fcl a) ++ cTwo 3 (fcl b) (fcl c)), .fro 0 ((fcl a) ++ (fcl b)), .fro 0 (cTwo 3 (fcl a) (fcl b) ++ (fcl c))]) (by kernel_rfl) ?_
  iterate 3 refine drawStep ?_
  refine drawFrzN ?_
  refine optX_of (c := (fcl b) ++ (fcl c)) (by kernel_rfl) ?_
  iterate 1 refine drawStep ?_
  refine .inl ⟨_, _, [], j_two 4 cb cc, RdsN_refl _, .inr rfl, none_need, ?_⟩
  refine drawEq rfl (H' := [.cells 0 (fcl a), .cells 0 (fcl b), .cells 0 (fcl c), .fro 0 ((biZ s t u).map .str), .fro 0 ((fcl b) ++ (fcl c)), .fro 0 ((fcl a) ++ cTwo 3 (fcl b) (fcl c)), .fro 0 ((fcl a) ++ (fcl b)), .fro 0 (cTwo 3 (fcl a) (fcl b) ++ (fcl c)), .fro 0 ((fcl b) ++ (fcl c))]) (by kernel_rfl) ?_
  iterate 0 refine drawStep ?_
  refine drawFrzN ?_
  refine optX_of (c := (fcl a) ++ cTwo 4 (fcl b) (fcl c)) (by kernel_rfl) ?_
  iterate 1 refine drawStep ?_
  refine .inl ⟨_, _, [], j_two 5 ca (cTwo_closed cb cc), RdsN_refl _, .inr rfl, none_need, ?_⟩
  refine drawEq rfl (H' := [.cells 0 (fcl a), .cells 0 (fcl b), .cells 0 (fcl c), .fro 0 ((biZ s t u).map .str), .fro 0 ((fcl b) ++ (fcl c)), .fro 0 ((fcl a) ++ cTwo 3 (fcl b) (fcl c)), .fro 0 ((fcl a) ++ (fcl b)), .fro 0 (cTwo 3 (fcl a) (fcl b) ++ (fcl c)), .fro 0 ((fcl b) ++ (fcl c)), .fro 0 ((fcl a) ++ cTwo 4 (fcl b) (fcl c))]) (by kernel_rfl) ?_
  iterate 3 refine drawStep ?_
  refine drawFrzN ?_
  refine optX_of (c := (fcl b) ++ (fcl c)) (by kernel_rfl) ?_
  iterate 1 refine drawStep ?_
  refine .inl ⟨_, _, [], j_two 5 cb cc, RdsN_refl _, .inr rfl, none_need, ?_⟩
  refine drawEq rfl (H' := [.cells 0 (fcl a), .cells 0 (fcl b), .cells 0 (fcl c), .fro 0 ((biZ s t u).map .str), .fro 0 ((fcl b) ++ (fcl c)), .fro 0 ((fcl a) ++ cTwo 3 (fcl b) (fcl c)), .fro 0 ((fcl a) ++ (fcl b)), .fro 0 (cTwo 3 (fcl a) (fcl b) ++ (fcl c)), .fro 0 ((fcl b) ++ (fcl c)), .fro 0 ((fcl a) ++ cTwo 4 (fcl b) (fcl c)), .fro 0 ((fcl b) ++ (fcl c))]) (by kernel_rfl) ?_
  iterate 0 refine drawStep ?_
  refine drawFrzN ?_
  refine optX_of (c := (fcl a) ++ cTwo 5 (fcl b) (fcl c)) (by kernel_rfl) ?_
  iterate 1 refine drawStep ?_
  refine .inl ⟨_, _, [], j_two 6 ca (cTwo_closed cb cc), RdsN_refl _, .inr rfl, none_need, ?_⟩
  refine drawEq rfl (H' := [.cells 0 (fcl a), .cells 0 (fcl b), .cells 0 (fcl c), .fro 0 ((biZ s t u).map .str), .fro 0 ((fcl b) ++ (fcl c)), .fro 0 ((fcl a) ++ cTwo 3 (fcl b) (fcl c)), .fro 0 ((fcl a) ++ (fcl b)), .fro 0 (cTwo 3 (fcl a) (fcl b) ++ (fcl c)), .fro 0 ((fcl b) ++ (fcl c)), .fro 0 ((fcl a) ++ cTwo 4 (fcl b) (fcl c)), .fro 0 ((fcl b) ++ (fcl c)), .fro 0 ((fcl a) ++ cTwo 5 (fcl b) (fcl c))]) (by kernel_rfl) ?_
  iterate 3 refine drawStep ?_
  refine drawFrzN ?_
  refine optX_of (c := (fcl b) ++ (fcl c)) (by kernel_rfl) ?_
  iterate 1 refine drawStep ?_
  refine .inl ⟨_, _, [], j_two 5 cb cc, RdsN_refl _, .inr rfl, none_need, ?_⟩
  refine drawEq rfl (H' := [.cells 0 (fcl a), .cells 0 (fcl b), .cells 0 (fcl c), .fro 0 ((biZ s t u).map .str), .fro 0 ((fcl b) ++ (fcl c)), .fro 0 ((fcl a) ++ cTwo 3 (fcl b) (fcl c)), .fro 0 ((fcl a) ++ (fcl b)), .fro 0 (cTwo 3 (fcl a) (fcl b) ++ (fcl c)), .fro 0 ((fcl b) ++ (fcl c)), .fro 0 ((fcl a) ++ cTwo 4 (fcl b) (fcl c)), .fro 0 ((fcl b) ++ (fcl c)), .fro 0 ((fcl a) ++ cTwo 5 (fcl b) (fcl c)), .fro 0 ((fcl b) ++ (fcl c))]) (by kernel_rfl) ?_
  iterate 0 refine drawStep ?_
  refine drawFrzN ?_
  refine optX_of (c := (fcl a) ++ cTwo 5 (fcl b) (fcl c)) (by kernel_rfl) ?_
  iterate 1 refine drawStep ?_
  refine .inl ⟨_, _, [], j_two 5 ca (cTwo_closed cb cc), RdsN_refl _, .inr rfl, none_need, ?_⟩
  refine drawEq rfl (H' := [.cells 0 (fcl a), .cells 0 (fcl b), .cells 0 (fcl c), .fro 0 ((biZ s t u).map .str), .fro 0 ((fcl b) ++ (fcl c)), .fro 0 ((fcl a) ++ cTwo 3 (fcl b) (fcl c)), .fro 0 ((fcl a) ++ (fcl b)), .fro 0 (cTwo 3 (fcl a) (fcl b) ++ (fcl c)), .fro 0 ((fcl b) ++ (fcl c)), .fro 0 ((fcl a) ++ cTwo 4 (fcl b) (fcl c)), .fro 0 ((fcl b) ++ (fcl c)), .fro 0 ((fcl a) ++ cTwo 5 (fcl b) (fcl c)), .fro 0 ((fcl b) ++ (fcl c)), .fro 0 ((fcl a) ++ cTwo 5 (fcl b) (fcl c))]) (by kernel_rfl) ?_
  iterate 2 refine drawStep ?_
  refine drawFrzN ?_
  refine optX_of (c := (fcl a) ++ (fcl b)) (by kernel_rfl) ?_
  iterate 1 refine drawStep ?_
  refine .inl ⟨_, _, [], j_two 3 ca cb, RdsN_refl _, .inr rfl, none_need, ?_⟩
  refine drawEq rfl (H' := [.cells 0 (fcl a), .cells 0 (fcl b), .cells 0 (fcl c), .fro 0 ((biZ s t u).map .str), .fro 0 ((fcl b) ++ (fcl c)), .fro 0 ((fcl a) ++ cTwo 3 (fcl b) (fcl c)), .fro 0 ((fcl a) ++ (fcl b)), .fro 0 (cTwo 3 (fcl a) (fcl b) ++ (fcl c)), .fro 0 ((fcl b) ++ (fcl c)), .fro 0 ((fcl a) ++ cTwo 4 (fcl b) (fcl c)), .fro 0 ((fcl b) ++ (fcl c)), .fro 0 ((fcl a) ++ cTwo 5 (fcl b) (fcl c)), .fro 0 ((fcl b) ++ (fcl c)), .fro 0 ((fcl a) ++ cTwo 5 (fcl b) (fcl c)), .fro 0 ((fcl a) ++ (fcl b))]) (by kernel_rfl) ?_
  iterate 1 refine drawStep ?_
  refine drawFrzN ?_
  refine optX_of (c := cTwo 3 (fcl a) (fcl b) ++ (fcl c)) (by kernel_rfl) ?_
  iterate 1 refine drawStep ?_
  refine .inl ⟨_, _, [], j_two 3 (cTwo_closed ca cb) cc, RdsN_refl _, .inr rfl, none_need, ?_⟩
  refine drawEq rfl (H' := [.cells 0 (fcl a), .cells 0 (fcl b), .cells 0 (fcl c), .fro 0 ((biZ s t u).map .str), .fro 0 ((fcl b) ++ (fcl c)), .fro 0 ((fcl a) ++ cTwo 3 (fcl b) (fcl c)), .fro 0 ((fcl a) ++ (fcl b)), .fro 0 (cTwo 3 (fcl a) (fcl b) ++ (fcl c)), .fro 0 ((fcl b) ++ (fcl c)), .fro 0 ((fcl a) ++ cTwo 4 (fcl b) (fcl c)), .fro 0 ((fcl b) ++ (fcl c)), .fro 0 ((fcl a) ++ cTwo 5 (fcl b) (fcl c)), .fro 0 ((fcl b) ++ (fcl c)), .fro 0 ((fcl a) ++ cTwo 5 (fcl b) (fcl c)), .fro 0 ((fcl a) ++ (fcl b)), .fro 0 (cTwo 3 (fcl a) (fcl b) ++ (fcl c))]) (by kernel_rfl) ?_
  iterate 2 refine drawStep ?_
  refine drawFrzN ?_
  refine optX_of (c := (fcl a) ++ (fcl b)) (by kernel_rfl) ?_
  iterate 1 refine drawStep ?_
  refine .inl ⟨_, _, [], j_two 6 ca cb, RdsN_refl _, .inr rfl, none_need, ?_⟩
  refine drawEq rfl (H' := [.cells 0 (fcl a), .cells 0 (fcl b), .cells 0 (fcl c), .fro 0 ((biZ s t u).map .str), .fro 0 ((fcl b) ++ (fcl c)), .fro 0 ((fcl a) ++ cTwo 3 (fcl b) (fcl c)), .fro 0 ((fcl a) ++ (fcl b)), .fro 0 (cTwo 3 (fcl a) (fcl b) ++ (fcl c)), .fro 0 ((fcl b) ++ (fcl c)), .fro 0 ((fcl a) ++ cTwo 4 (fcl b) (fcl c)), .fro 0 ((fcl b) ++ (fcl c)), .fro 0 ((fcl a) ++ cTwo 5 (fcl b) (fcl c)), .fro 0 ((fcl b) ++ (fcl c)), .fro 0 ((fcl a) ++ cTwo 5 (fcl b) (fcl c)), .fro 0 ((fcl a) ++ (fcl b)), .fro 0 (cTwo 3 (fcl a) (fcl b) ++ (fcl c)), .fro 0 ((fcl a) ++ (fcl b))]) (by kernel_rfl) ?_
  iterate 1 refine drawStep ?_
  refine drawFrzN ?_
  refine optX_of (c := cTwo 6 (fcl a) (fcl b) ++ (fcl c)) (by kernel_rfl) ?_
  iterate 1 refine drawStep ?_
  refine .inl ⟨_, _, [], j_two 6 (cTwo_closed ca cb) cc, RdsN_refl _, .inr rfl, none_need, ?_⟩
  refine drawEq rfl (H' := [.cells 0 (fcl a), .cells 0 (fcl b), .cells 0 (fcl c), .fro 0 ((biZ s t u).map .str), .fro 0 ((fcl b) ++ (fcl c)), .fro 0 ((fcl a) ++ cTwo 3 (fcl b) (fcl c)), .fro 0 ((fcl a) ++ (fcl b)), .fro 0 (cTwo 3 (fcl a) (fcl b) ++ (fcl c)), .fro 0 ((fcl b) ++ (fcl c)), .fro 0 ((fcl a) ++ cTwo 4 (fcl b) (fcl c)), .fro 0 ((fcl b) ++ (fcl c)), .fro 0 ((fcl a) ++ cTwo 5 (fcl b) (fcl c)), .fro 0 ((fcl b) ++ (fcl c)), .fro 0 ((fcl a) ++ cTwo 5 (fcl b) (fcl c)), .fro 0 ((fcl a) ++ (fcl b)), .fro 0 (cTwo 3 (fcl a) (fcl b) ++ (fcl c)), .fro 0 ((fcl a) ++ (fcl b)), .fro 0 (cTwo 6 (fcl a) (fcl b) ++ (fcl c))]) (by kernel_rfl) ?_
  iterate 1 refine drawStep ?_
  refine drawFrzN ?_
  iterate 1 refine drawStep ?_
  refine .inl ⟨_, _, [], j_one 2 ca, RdsN_refl _, .inr rfl, none_need, ?_⟩
  iterate 1 refine drawStep ?_
  refine drawFrzN ?_
  refine optX_of (c := cOne 2 [] (fcl a) ++ (fcl b)) (by kernel_rfl) ?_
  iterate 1 refine drawStep ?_
  refine .inl ⟨_, _, [], j_two 3 (cOne_closed ca) cb, RdsN_refl _, .inr rfl, none_need, ?_⟩
  refine drawEq rfl (H' := [.cells 0 (fcl a), .cells 0 (fcl b), .cells 0 (fcl c), .fro 0 ((biZ s t u).map .str), .fro 0 ((fcl b) ++ (fcl c)), .fro 0 ((fcl a) ++ cTwo 3 (fcl b) (fcl c)), .fro 0 ((fcl a) ++ (fcl b)), .fro 0 (cTwo 3 (fcl a) (fcl b) ++ (fcl c)), .fro 0 ((fcl b) ++ (fcl c)), .fro 0 ((fcl a) ++ cTwo 4 (fcl b) (fcl c)), .fro 0 ((fcl b) ++ (fcl c)), .fro 0 ((fcl a) ++ cTwo 5 (fcl b) (fcl c)), .fro 0 ((fcl b) ++ (fcl c)), .fro 0 ((fcl a) ++ cTwo 5 (fcl b) (fcl c)), .fro 0 ((fcl a) ++ (fcl b)), .fro 0 (cTwo 3 (fcl a) (fcl b) ++ (fcl c)), .fro 0 ((fcl a) ++ (fcl b)), .fro 0 (cTwo 6 (fcl a) (fcl b) ++ (fcl c)), .fro 0 (fcl a), .fro 0 (cOne 2 [] (fcl a) ++ (fcl b))]) (by kernel_rfl) ?_
  iterate 1 refine drawStep ?_
  refine drawFrzN ?_
  iterate 2 refine drawStep ?_
  refine drawFrzN ?_
  refine optX_of (c := cOne 7 [120] (fcl a) ++ (fcl b)) (by kernel_rfl) ?_
  iterate 1 refine drawStep ?_
  refine .inl ⟨_, _, [], j_two 4 (cOne_closed ca) cb, RdsN_refl _, .inr rfl, none_need, ?_⟩
  refine drawEq rfl (H' := [.cells 0 (fcl a), .cells 0 (fcl b), .cells 0 (fcl c), .fro 0 ((biZ s t u).map .str), .fro 0 ((fcl b) ++ (fcl c)), .fro 0 ((fcl a) ++ cTwo 3 (fcl b) (fcl c)), .fro 0 ((fcl a) ++ (fcl b)), .fro 0 (cTwo 3 (fcl a) (fcl b) ++ (fcl c)), .fro 0 ((fcl b) ++ (fcl c)), .fro 0 ((fcl a) ++ cTwo 4 (fcl b) (fcl c)), .fro 0 ((fcl b) ++ (fcl c)), .fro 0 ((fcl a) ++ cTwo 5 (fcl b) (fcl c)), .fro 0 ((fcl b) ++ (fcl c)), .fro 0 ((fcl a) ++ cTwo 5 (fcl b) (fcl c)), .fro 0 ((fcl a) ++ (fcl b)), .fro 0 (cTwo 3 (fcl a) (fcl b) ++ (fcl c)), .fro 0 ((fcl a) ++ (fcl b)), .fro 0 (cTwo 6 (fcl a) (fcl b) ++ (fcl c)), .fro 0 (fcl a), .fro 0 (cOne 2 [] (fcl a) ++ (fcl b)), .fro 0 (fcl a), .fro 0 (cOne 7 [120] (fcl a) ++ (fcl b))]) (by kernel_rfl) ?_
  refine drawFrzN ?_
  refine optX_of (c := biC a b c) (by kernel_rfl) ?_
  repeat first | refine opsStep ?_ | refine codeStep ?_ | refine drawStep ?_
  refine ⟨by kernel_rfl, ?_⟩
  have hZb : ∀ z ∈ biZ s t u, z.length < 2 ^ 62 := by
    intro z hz
    simp only [biZ, List.mem_cons, List.mem_nil_iff, or_false] at hz
    rcases hz with rfl | rfl | rfl | rfl | rfl | rfl | rfl | rfl | rfl <;> (simp only [bk, List.length_append, List.length_cons, List.length_nil]; omega)
  have hZl : (biZ s t u).length = 9 := rfl
  have hGl : (biG a b c).length = 9 := rfl
  have hZ : ∀ i (h : i < (biZ s t u).length) (h' : i < (biG a b c).length), Comes ((biZ s t u)[i]'h) ((biG a b c)[i]'h') := fun i h _ => hZ9 i (by rw [hZl] at h; exact h)
  clear hZ9
  refine VCode.ent (Ent.frD (l := [(16, aSs .any (biZ s t u)), (17, .sl .any (biG a b c).length (ftsC (biG a b c)))]) (H' := []) ⟨(by kernel_rfl), Eq.trans (b := .sl .any 9 (biC a b c)) (by kernel_rfl) (by rw [biC_eq, hGl]), trivial⟩ rfl (Nat.zero_le _) (by simp only [frBel, AV.bel]; exact ⟨aSs_bel _ _ _, closeds_bel _ (ftsC_closed _), trivial⟩) trivial) ?_
  generalize biZ s t u = Z at *
  generalize biG a b c = G at *
  repeat first | refine opsStep ?_ | refine codeStep ?_ | refine drawStep ?_
  refine loopE_of (ι := {i : Nat // i ≤ Z.length}) (fun i => (fr [(17, .sl .any G.length (ftsC G)), (180, aSs .any Z), (181, .int .i64 Z.length), (182, .int .i64 i.1)], [])) (fun i => Z.length - i.1)
    ⟨0, Nat.zero_le _⟩ (Ent.fr' ⟨(by kernel_rfl), (by kernel_rfl), (by kernel_rfl), (by kernel_rfl), trivial⟩ (by kernel_rfl)) ?_
  rintro ⟨i, hi⟩
  repeat first | refine opsStep ?_ | refine codeStep ?_ | refine drawStep ?_
  refine decB_dec (fun hlt => ?_) (fun hlt => ?_)
  · have hi' : i < Z.length := by have : (i : Int) < Z.length := hlt; omega
    clear hlt
    have hiG : i < G.length := by omega
    have hz : (Z.map AV.str)[i]? = some (.str (Z[i]'hi')) := by simp [hi']
    have hF := parse_Formula (Z[i]'hi') (hZb _ (List.getElem_mem hi'))
    have hcm := comes_cases (hZ i hi' hiG)
    have hld := fts_ld hiG
    have hfit : 5 ≤ ((ftsC G).drop ((i : Int).toNat * 5)).length := by rw [List.length_drop, ftsC_len, Int.toNat_natCast]; omega
    generalize Z[i]'hi' = z at *
    generalize G[i]'hiG = gg at *
    rcases hcm with ⟨f', y, hy, hp⟩ | ⟨hp, hchk, hok⟩
    · rw [hp] at hF
      have hgr : Pure Tryd.prog 26 [.agg (fltC ⟨y, 0, 0⟩)] (.bool true) := by
        have := law7_great ⟨y, 0, 0⟩
        rwa [decide_eq_true (by show y = 70 ∨ y = 73 ∨ y = 72; omega)] at this
      repeat first | refine opsStep ?_ | refine codeStep ?_ | refine drawStep ?_
      refine guardE_of ⟨by omega, by show (i : Int) < Z.length; omega⟩ ?_
      repeat first | refine opsStep ?_ | refine codeStep ?_ | refine drawStep ?_
      refine optE_of (c := AV.str z) (by show ((Z.map AV.str).drop ((i : Int).toNat * 1))[0]? = _; rw [List.getElem?_drop, Int.toNat_natCast]; simpa using hz) ?_
      repeat first | refine opsStep ?_ | refine codeStep ?_ | refine drawStep ?_
      refine callP hF ?_
      repeat first | refine opsStep ?_ | refine codeStep ?_ | refine drawStep ?_
      refine callP hgr ?_
      repeat first | refine opsStep ?_ | refine codeStep ?_ | refine drawStep ?_
      skip
      exact ⟨⟨i + 1, hi'⟩, (by show Z.length - (i + 1) < Z.length - i; omega), Ent.frD (l := [(17, .sl .any G.length (ftsC G)), (180, aSs .any Z), (181, .int .i64 Z.length), (182, .int .i64 ((i + 1 : Nat) : Int))]) (H' := []) ⟨(by kernel_rfl), (by kernel_rfl), (by kernel_rfl), inc_slot (i := i) (by omega), trivial⟩ rfl (Nat.zero_le _) (by simp only [frBel, AV.bel]; exact ⟨closeds_bel _ (ftsC_closed _), aSs_bel _ _ _, trivial, trivial, trivial⟩) trivial⟩
    · rw [hp] at hF
      have hgr : Pure Tryd.prog 26 [.agg (fltC flt0)] (.bool false) := law7_great flt0
      have hsm : Pure Tryd.prog 31 [.agg (fcl gg), .agg (((ftsC G).drop ((i : Int).toNat * 5)).take 5)] (.bool true) := by rw [hld]; exact tree_Same gg hok hchk
      repeat first | refine opsStep ?_ | refine codeStep ?_ | refine drawStep ?_
      refine guardE_of ⟨by omega, by show (i : Int) < Z.length; omega⟩ ?_
      repeat first | refine opsStep ?_ | refine codeStep ?_ | refine drawStep ?_
      refine optE_of (c := AV.str z) (by show ((Z.map AV.str).drop ((i : Int).toNat * 1))[0]? = _; rw [List.getElem?_drop, Int.toNat_natCast]; simpa using hz) ?_
      repeat first | refine opsStep ?_ | refine codeStep ?_ | refine drawStep ?_
      refine callP hF ?_
      repeat first | refine opsStep ?_ | refine codeStep ?_ | refine drawStep ?_
      refine callP hgr ?_
      repeat first | refine opsStep ?_ | refine codeStep ?_ | refine drawStep ?_
      refine SW.drawn rfl (by kernel_rfl) ?_
      repeat first | refine opsStep ?_ | refine codeStep ?_ | refine drawStep ?_
      refine ⟨true, eqlF (w := 0) (a := 0) (b := 0) (w' := 0) (c := 0) (d := 0) (by decide) (by decide) (by decide) (by decide) (by decide) (by decide), ?_⟩
      repeat first | refine opsStep ?_ | refine codeStep ?_ | refine drawStep ?_
      refine guardE_of ⟨by omega, by show (i : Int) < G.length; omega⟩ ?_
      repeat first | refine opsStep ?_ | refine codeStep ?_ | refine drawStep ?_
      refine guardE_of hfit ?_
      iterate 1 refine drawStep ?_
      refine .inl ⟨_, _, [], hsm, RdsN_refl _, .inr rfl, none_need, ?_⟩
      repeat first | refine opsStep ?_ | refine codeStep ?_ | refine drawStep ?_
      refine ⟨by kernel_rfl, ?_⟩
      repeat first | refine opsStep ?_ | refine codeStep ?_ | refine drawStep ?_
      exact ⟨⟨i + 1, hi'⟩, (by show Z.length - (i + 1) < Z.length - i; omega), Ent.frD (l := [(17, .sl .any G.length (ftsC G)), (180, aSs .any Z), (181, .int .i64 Z.length), (182, .int .i64 ((i + 1 : Nat) : Int))]) (H' := []) ⟨(by kernel_rfl), (by kernel_rfl), (by kernel_rfl), inc_slot (i := i) (by omega), trivial⟩ rfl (Nat.zero_le _) (by simp only [frBel, AV.bel]; exact ⟨closeds_bel _ (ftsC_closed _), aSs_bel _ _ _, trivial, trivial, trivial⟩) trivial⟩
  · clear hlt
    repeat first | refine opsStep ?_ | refine codeStep ?_ | refine drawStep ?_
    exact finB (b' := true) (by kernel_rfl) rfl


theorem fltB (x : Str) (h : decide ((parF x).2.why = 0 ∧ ((parF x).2.at' : Int) = 0 ∧ ((parF x).2.ch : Int) = 0) = true) : (parF x).2 = flt0 := by
  obtain ⟨k1, k2, k3⟩ := of_decide_eq_true h
  generalize (parF x).2 = F at *
  rcases F with ⟨y, p, q⟩
  simp only at k1 k2 k3
  have : p = 0 := by omega
  have : q = 0 := by omega
  subst k1
  subst p q
  rfl
theorem parseBinds (s t u : Str) (hs : s.length + t.length + u.length < 2 ^ 61) : Pure Tryd.prog 9 [.str s, .str t, .str u] (.bool true) := by
  have h1 := p_right s (by omega)
  have h2 := p_right t (by omega)
  have h3 := p_right u (by omega)
  have hb1 := fltB s
  have hb2 := fltB t
  have hb3 := fltB u
  generalize decide ((parF s).2.why = 0 ∧ ((parF s).2.at' : Int) = 0 ∧ ((parF s).2.ch : Int) = 0) = b at *
  generalize decide ((parF t).2.why = 0 ∧ ((parF t).2.at' : Int) = 0 ∧ ((parF t).2.ch : Int) = 0) = c at *
  generalize decide ((parF u).2.why = 0 ∧ ((parF u).2.at' : Int) = 0 ∧ ((parF u).2.ch : Int) = 0) = d at *
  by_cases hc : (b && c && d) = false
  · exact binds_else s t u _ _ _ b c d hc h1 h2 h3
  · have hbt : b = true := by cases b <;> simp at hc ⊢
    have hct : c = true := by cases c <;> simp at hc ⊢
    have hdt : d = true := by cases d <;> simp at hc ⊢
    subst hbt hct hdt
    have r1 := read_of (hb1 rfl)
    have r2 := read_of (hb2 rfl)
    have r3 := read_of (hb3 rfl)
    refine binds_main s t u _ _ _ hs ?_ h1 h2 h3
    intro i hi
    match i, hi with
    | 0, _ => exact bi1 r1 r2 r3
    | 1, _ => exact bi2 r1 r2 r3
    | 2, _ => exact bi3 r1 r2 r3
    | 3, _ => exact bi4 r1 r2 r3
    | 4, _ => exact bi5 r1 r2 r3
    | 5, _ => exact bi6 r1 r2 r3
    | 6, _ => exact bi7 r1 r2 r3
    | 7, _ => exact bi8 r1 r2
    | 8, _ => exact bi9 r1 r2

end Tab
