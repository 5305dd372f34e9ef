/- Lemmas for this claim: part 12. No condition. -/
import Derived.Test.YtiflemdfnjgobaaDoorZ8
import Derived.Test.YtiflemdfnjgobaaDoorZ9
import Derived.Test.YtiflemdfnjgobaaDoorZ10
import Derived.Test.YtiflemdfnjgobaaDoorZ11
import Derived.KernelRfl
/- Words of texts that are put together; the grammar by words' kinds. Plain. -/
namespace Tab
open Go
set_option maxRecDepth 10000
set_option linter.unusedVariables false
set_option linter.unusedSimpArgs false
set_option linter.unusedSectionVars false

/-! ### A character that ends every word -/
structure SepC (c : UInt8) : Prop where
  asc : c.toNat < 128
  dig : digR (c.toNat : Nat) = false
  rest : restR (c.toNat : Nat) = false
  sign : ∀ t ∈ signL, c ∉ t ∨ t = [c]
theorem sep40 : SepC 40 := ⟨by decide, by decide, by unfold restR startR; decide, by decide⟩
theorem sep41 : SepC 41 := ⟨by decide, by decide, by unfold restR startR; decide, by decide⟩
theorem sep32 : SepC 32 := ⟨by decide, by decide, by unfold restR startR; decide, by decide⟩
section
variable {c : UInt8} (hc : SepC c)
include hc
theorem bt_sep (x y : Str) : bt (x ++ c :: y) x.length = c.toNat := by simp [bt]
theorem dec_sep0 (y : Str) : dec (c :: y) 0 = (c.toNat, 1) := by
  have h := bt_sep hc [] y
  simp only [List.nil_append, List.length_nil] at h
  rw [dec_ascii (by rw [h]; exact hc.asc), h]
theorem dec_sep {x y : Str} (hx : x.length ≠ 0) : dec (x ++ c :: y) 0 = dec x 0 := by
  have hb : bt (x ++ c :: y) x.length < 128 := by rw [bt_sep hc]; exact hc.asc
  have hs := dec_stop (s := x ++ c :: y) (m := x.length) (p := 0) (by omega) hb
  have := dec_take (s := x ++ c :: y) (m := x.length) (p := 0) hs
  rw [List.take_left] at this
  exact this.symm
theorem run_sep (p : Int → Bool) (hp : p (c.toNat : Nat) = false) (y : Str) : ∀ (n : Nat) (x : Str), x.length = n → runS p (x ++ c :: y) = runS p x := by
  intro n
  induction n using Nat.strongRecOn with
  | _ n ih =>
    intro x hn
    by_cases hs : x.length = 0
    · have : x = [] := List.length_eq_zero_iff.1 hs
      subst this
      rw [runS_nil (s := ([] : Str)) rfl]
      exact runS_no (by rw [List.nil_append, dec_sep0 hc]; exact hp)
    · have hd := dec_sep hc (y := y) hs
      have hw := dec_width x 0
      have hf := dec_fits (s := x) (p := 0) (by omega)
      cases h : p (dec x 0).1 with
      | false => rw [runS_no h, runS_no (by rw [hd]; exact h)]
      | true => rw [runS_yes hs h, runS_yes (by simp) (by rw [hd]; exact h), hd, List.drop_append_of_le_length (by omega), ih _ (by simp; omega) _ rfl]
omit hc in
theorem pre_sep {t : Str} (y : Str) : ∀ (x : Str), (c ∉ t ∨ (t = [c] ∧ x ≠ [])) → t.isPrefixOf (x ++ c :: y) = t.isPrefixOf x := by
  induction t with
  | nil => intro x _; simp [List.isPrefixOf]
  | cons d t ih =>
    intro x h
    cases x with
    | nil =>
      have h := h.resolve_right (fun k => k.2 rfl)
      have : (d == c) = false := by rw [beq_eq_false_iff_ne]; intro e; exact h (by simp [e])
      simp [List.isPrefixOf, this]
    | cons z x =>
      simp only [List.cons_append, List.isPrefixOf]
      rcases h with h | ⟨h, _⟩
      · rw [ih x (.inl fun k => h (by simp [k]))]
      · simp only [List.cons.injEq] at h
        rw [h.2]
        simp [List.isPrefixOf]
theorem signT_sep {x : Str} (hx : x.length ≠ 0) (y : Str) : signT (x ++ c :: y) = signT x := by
  have hne : x ≠ [] := fun h => hx (by rw [h]; rfl)
  rw [signT, signT, find_congr (g := fun t => t.isPrefixOf x) fun t ht => pre_sep y x ((hc.sign t ht).imp id fun k => ⟨k, hne⟩)]
theorem tok_sep {x : Str} (hx : x.length ≠ 0) (y : Str) : tokS (x ++ c :: y) = tokS x := by
  have hr := run_sep hc restR hc.rest y _ x rfl
  have hg := run_sep hc digR hc.dig y _ x rfl
  have l1 := runS_le restR _ x rfl
  have l2 := runS_le digR _ x rfl
  rw [tokS, tokS, dec_sep hc hx, hr, hg, List.take_append_of_le_length l1, List.take_append_of_le_length l2, signT_sep hc hx]
theorem cat_all (p : Int → Bool) (y : Str) : ∀ (n : Nat) (x : Str), x.length = n → runS p x = x.length → runS p (x ++ c :: y) = x.length + runS p (c :: y) := by
  intro n
  induction n using Nat.strongRecOn with
  | _ n ih =>
    intro x hn h
    by_cases hs : x.length = 0
    · have : x = [] := List.length_eq_zero_iff.1 hs
      subst this; simp
    · have hd := dec_sep hc (y := y) hs
      have hw := dec_width x 0
      have hf := dec_fits (s := x) (p := 0) (by omega)
      cases hp : p (dec x 0).1 with
      | false => rw [runS_no hp] at h; omega
      | true =>
        rw [runS_yes hs hp] at h
        rw [runS_yes (by simp) (by rw [hd]; exact hp), hd, List.drop_append_of_le_length (by omega), ih _ (by simp; omega) (x.drop (dec x 0).2) rfl (by rw [List.length_drop]; omega), List.length_drop]
        omega
theorem cat_stop (p : Int → Bool) (y : Str) : ∀ (n : Nat) (x : Str), x.length = n → runS p x < x.length → runS p (x ++ c :: y) = runS p x := by
  intro n
  induction n using Nat.strongRecOn with
  | _ n ih =>
    intro x hn h
    by_cases hs : x.length = 0
    · omega
    · have hd := dec_sep hc (y := y) hs
      have hw := dec_width x 0
      have hf := dec_fits (s := x) (p := 0) (by omega)
      cases hp : p (dec x 0).1 with
      | false => rw [runS_no hp, runS_no (by rw [hd]; exact hp)]
      | true =>
        rw [runS_yes hs hp] at h ⊢
        rw [runS_yes (by simp) (by rw [hd]; exact hp), hd, List.drop_append_of_le_length (by omega), ih _ (by simp; omega) (x.drop (dec x 0).2) rfl (by rw [List.length_drop]; omega)]
theorem Bd.sep {x : Str} {b : Nat} (h : Bd x b) (y : Str) : Bd (x ++ c :: y) b := by
  induction h with
  | zero => exact .zero _
  | @step x b hs h ih =>
    have hd := dec_sep hc (y := y) hs
    have hf := dec_fits (s := x) (p := 0) (by omega)
    have := Bd.step (s := x ++ c :: y) (a := b) (by simp) (by rw [hd, List.drop_append_of_le_length (by omega)]; exact ih)
    rwa [hd] at this
theorem Part.sep {x : Str} {b x1 t} (h : Part x b x1 t) (y : Str) : Part (x ++ c :: y) b (x1 ++ c :: y) t := by
  obtain ⟨l1, l2⟩ := h.lt
  obtain ⟨rfl, rfl, h3, rfl⟩ := h
  exact ⟨cat_stop hc blankR y _ x rfl l1, by rw [List.drop_append_of_le_length (by omega)], by simp, tok_sep hc h3 y⟩
theorem lex_sep (y : Str) : ∀ (n : Nat) (x : Str), x.length = n → ∀ (a ch : Nat), lexW (x ++ c :: y) a ch =
    if (lexW x a ch).2.why ≠ 0 then lexW x a ch else ((lexW x a ch).1 ++ (lexW (c :: y) (a + x.length) (ch + chS x)).1, (lexW (c :: y) (a + x.length) (ch + chS x)).2) := by
  intro n
  induction n using Nat.strongRecOn with
  | _ n ih =>
    intro x hn a ch
    rcases part_of x with h | h
    · rw [lexW_nil h, if_neg (by simp [flt0])]
      have hb := Bd.sep hc (bd_end _ x rfl) y
      have hd : (x ++ c :: y).drop x.length = c :: y := by rw [List.drop_left]
      have hr : runS blankR (x ++ c :: y) = x.length + runS blankR ((x ++ c :: y).drop x.length) := by
        rw [cat_all hc blankR y _ x rfl h, hd]
      rw [lexW_skip hb hr, hd, List.take_left]
      rfl
    · have hj := h.sep hc y
      obtain ⟨l1, l2⟩ := h.lt
      generalize hbe : runS blankR x = b at *
      generalize hxe : x.drop b = x1 at *
      generalize hte : tokS x1 = t at *
      have htk : (x ++ c :: y).take b = x.take b := List.take_append_of_le_length (by omega)
      by_cases he : t.err = 0
      · obtain ⟨n1, n2, n3, _⟩ := h.tokN he
        have hbx := h.bd
        have hcx : chS x = chS (x.take b) + (chS (x1.take t.n) + chS (x1.drop t.n)) := by
          rw [chS_split hbx, hxe, chS_split n1]
        rw [lexW_tok hj he, lexW_tok h he, htk, List.take_append_of_le_length n3, List.drop_append_of_le_length n3, ih _ (by rw [List.length_drop]; omega) (x1.drop t.n) rfl, List.length_drop]
        generalize lexW (x1.drop t.n) (a + b + t.n) (ch + chS (x.take b) + chS (x1.take t.n)) = r
        rw [show a + b + t.n + (x1.length - t.n) = a + x.length by omega, show ch + chS (x.take b) + chS (x1.take t.n) + chS (x1.drop t.n) = ch + chS x by omega]
        by_cases hw : r.2.why ≠ 0
        · simp only [if_pos hw]
        · simp only [if_neg hw, List.cons_append]
      · rw [lexW_bad hj he, lexW_bad h he, htk, if_pos he]
end

/-! ### Words by kinds -/
def wk (w : Wd) : Int × Str × Nat := (w.kind, w.text, w.num)
abbrev Ky := Int × Str × Nat
def Lx (x : Str) (K : List Ky) : Prop := ∃ W, lexW x 0 0 = (W, flt0) ∧ W.map wk = K
theorem Lx.at {x : Str} {K : List Ky} (h : Lx x K) (a ch : Nat) : ∃ W, lexW x a ch = (W, flt0) ∧ W.map wk = K := by
  obtain ⟨W, h1, h2⟩ := h
  have := lexW_mv a ch _ x rfl 0 0
  rw [Nat.zero_add, Nat.zero_add, h1] at this
  refine ⟨W.map (mvW a ch), by rw [this]; rfl, ?_⟩
  rw [List.map_map, ← h2]
  exact List.map_congr_left fun w _ => rfl
theorem Lx.sep {c : UInt8} (hc : SepC c) {x y : Str} {K K' : List Ky} (h : Lx x K) (h' : Lx (c :: y) K') : Lx (x ++ c :: y) (K ++ K') := by
  obtain ⟨W, h1, h2⟩ := h
  obtain ⟨V, h3, h4⟩ := h'.at (0 + x.length) (0 + chS x)
  refine ⟨W ++ V, ?_, by rw [List.map_append, h2, h4]⟩
  rw [lex_sep hc y _ x rfl, h1, if_neg (by simp [flt0]), h3]
/-- A sign of one character. -/
theorem Lx.one {c : UInt8} (hc : SepC c) (hb : blankR (c.toNat : Nat) = false) (hs : startR (c.toNat : Nat) = false) (hp : plainS (c.toNat : Nat) = []) (hf : ∀ y : Str, (signL.find? fun t => t.isPrefixOf (c :: y)) = some [c]) {y : Str} {K : List Ky} (h : Lx y K) : Lx (c :: y) ((2, [c], 0) :: K) := by
  have hd := dec_sep0 hc y
  have hr : runS blankR (c :: y) = 0 := runS_no (by rw [hd]; exact hb)
  have ht : tokS (c :: y) = ⟨2, [c], 0, 1, 0⟩ := by
    rw [tokS, hd, if_neg (by
      rintro ⟨h1, _⟩
      have h1 : c.toNat = 65533 := h1
      have := hc.asc
      omega), if_neg (by rw [hs]; simp), if_neg (by rw [hc.dig]; simp), if_neg (by rw [hp]; simp), signT, hf]
    rfl
  have hpt : Part (c :: y) 0 (c :: y) ⟨2, [c], 0, 1, 0⟩ := ⟨hr, rfl, by simp, ht⟩
  obtain ⟨V, h3, h4⟩ := h.at (0 + 0 + 1) (0 + chS ((c :: y).take 0) + chS ((c :: y).take 1))
  refine ⟨⟨2, [c], 0, 0 + 0, 0 + chS ((c :: y).take 0)⟩ :: V, ?_, ?_⟩
  · rw [lexW_tok hpt rfl]
    show (_ :: (lexW y (0 + 0 + 1) (0 + chS ((c :: y).take 0) + chS ((c :: y).take 1))).1, (lexW y (0 + 0 + 1) (0 + chS ((c :: y).take 0) + chS ((c :: y).take 1))).2) = _
    rw [h3]
  · rw [List.map_cons, h4]; rfl
theorem Lx.open {y : Str} {K : List Ky} (h : Lx y K) : Lx (40 :: y) ((2, [40], 0) :: K) := Lx.one sep40 (by decide) (by unfold startR; decide) (by decide) (fun y => by simp [signL, List.isPrefixOf]) h
theorem Lx.close {y : Str} {K : List Ky} (h : Lx y K) : Lx (41 :: y) ((2, [41], 0) :: K) := Lx.one sep41 (by decide) (by unfold startR; decide) (by decide) (fun y => by simp [signL, List.isPrefixOf]) h
theorem Lx.nil : Lx [] [] := ⟨[], by kernel_rfl, rfl⟩
theorem Lx.of {s : Str} (h : (lexS s).2.why = 0) : Lx s ((lexS s).1.map wk) := ⟨(lexS s).1, (lexS_zero h).2.1, rfl⟩
theorem Lx.lexS {s : Str} {K : List Ky} (h : Lx s K) (hl : s.length ≤ 4096) : ∃ W, lexS s = (W, flt0) ∧ W.map wk = K := by
  obtain ⟨W, h1, h2⟩ := h
  exact ⟨W, lexS_of hl h1, h2⟩
theorem lexS_long {s : Str} (hl : 4096 < s.length) : lexS s = ([], ⟨70, 0, 0⟩) := by rw [Tab.lexS, if_pos hl]

end Tab

/- The grammar by words' kinds, plain: what is read of what. -/
namespace Tab
open Go
set_option maxRecDepth 10000
set_option linter.unusedVariables false
set_option linter.unusedSimpArgs false
set_option linter.unusedSectionVars false

/-- Words of these kinds are read as this, and these are left. -/
def Okp {X : Type} (C : Nat) (p : Nat × Nat → Nat → Rs → X × Rs) (K : List Ky) (f : X) (R : List Ky) : Prop :=
  ∀ e n W, W.map wk = K → 16 * K.length + C ≤ n → ∃ V, p e n ⟨W, flt0⟩ = (f, ⟨V, flt0⟩) ∧ V.map wk = R
/-- The same, of a loop that has come to something. -/
def Okl {X : Type} (C : Nat) (p : Nat × Nat → Nat → X × Rs → X × Rs) (x : X) (K : List Ky) (f : X) (R : List Ky) : Prop :=
  ∀ e n W, W.map wk = K → 16 * K.length + C ≤ n → ∃ V, p e n (x, ⟨W, flt0⟩) = (f, ⟨V, flt0⟩) ∧ V.map wk = R
/-- The sign that comes first. -/
def sgK (K : List Ky) : Str := match K with | [] => [] | k :: _ => if k.1 = 2 then k.2.1 else []
theorem sgK_sign {W : List Wd} {K : List Ky} (h : W.map wk = K) (f : Flt) : Rs.sign ⟨W, f⟩ = sgK K := by
  subst h
  cases W with
  | nil => rfl
  | cons w t => rfl
theorem take_no {W : List Wd} {K : List Ky} {L : List Str} (h : W.map wk = K) (hn : sgK K ∉ L) : (Rs.mk W flt0).take L = ([], ⟨W, flt0⟩) := by
  unfold Rs.take; exact if_neg fun k => hn (sgK_sign h flt0 ▸ k.2)
theorem take_hit {W : List Wd} {s : Str} {K : List Ky} {L : List Str} {v : Nat} (h : W.map wk = (2, s, v) :: K) (hm : s ∈ L) : ∃ V, (Rs.mk W flt0).take L = (s, ⟨V, flt0⟩) ∧ V.map wk = K := by
  cases W with
  | nil => cases h
  | cons w t =>
    obtain ⟨h1, h2⟩ := List.cons.inj h
    have hs : Rs.sign ⟨w :: t, flt0⟩ = s := by rw [sgK_sign h]; rfl
    exact ⟨t, by unfold Rs.take; rw [if_pos ⟨rfl, by rw [hs]; exact hm⟩, hs]; rfl, h2⟩
theorem need_hit {e : Nat × Nat} {W : List Wd} {s : Str} {K : List Ky} {v : Nat} (h : W.map wk = (2, s, v) :: K) (h0 : s ≠ []) : ∃ V, (Rs.mk W flt0).need e s = ⟨V, flt0⟩ ∧ V.map wk = K := by
  obtain ⟨V, h1, h2⟩ := take_hit (L := [s]) h (by simp)
  refine ⟨V, ?_, h2⟩
  unfold Rs.need
  rw [h1, if_neg h0]
theorem word_hit' {e : Nat × Nat} {W : List Wd} {k : Int} {s : Str} {v : Nat} {K : List Ky} (h : W.map wk = (k, s, v) :: K) : ∃ w V, (Rs.mk W flt0).word e k = (w, ⟨V, flt0⟩) ∧ w.text = s ∧ w.num = v ∧ V.map wk = K := by
  cases W with
  | nil => cases h
  | cons w t =>
    obtain ⟨h1, h2⟩ := List.cons.inj h
    simp only [wk, Prod.mk.injEq] at h1
    exact ⟨w, t, word_hit rfl h1.1, h1.2.1, h1.2.2, h2⟩
theorem len_wk {W : List Wd} {K : List Ky} (h : W.map wk = K) : W.length = K.length := by rw [← h]; simp

abbrev OkT := Okp (X := TT) 3 pT
abbrev OkP := Okp (X := TT) 2 pP
abbrev OkFa := Okp (X := TT) 1 pFa
abbrev OkF := Okp (X := FT) 8 pF
abbrev OkI := Okp (X := FT) 7 pI
abbrev OkO := Okp (X := FT) 6 pO
abbrev OkA := Okp (X := FT) 5 pA
abbrev OkU := Okp (X := FT) 4 pU
abbrev OkQ (op : Int) := Okp (X := FT) 5 (fun e n => pQ e n op)
def kS (s : Str) : Ky := (2, s, 0)

/-! ### What is left is no more -/
theorem okp_le {X : Type} {C : Nat} {p : Nat × Nat → Nat → Rs → X × Rs} {K R : List Ky} {f : X} (h : Okp C p K f R) (hl : ∀ e n r, (p e n r).2.ws.length ≤ r.ws.length) : R.length ≤ K.length := by
  obtain ⟨V, h1, h2⟩ := h (0, 0) (16 * K.length + C) (K.map fun k => ⟨k.1, k.2.1, k.2.2, 0, 0⟩) (by rw [List.map_map]; exact (List.map_congr_left fun k _ => rfl).trans (List.map_id K)) (Nat.le_refl _)
  have := hl (0, 0) (16 * K.length + C) ⟨K.map fun k => ⟨k.1, k.2.1, k.2.2, 0, 0⟩, flt0⟩
  rw [h1] at this
  simp only [List.length_map] at this
  rw [← len_wk h2]
  exact this
theorem le_P (e n r) : (pP e n r).2.ws.length ≤ r.ws.length := (terms_le e n).2.2.1 r
theorem le_Fa (e n r) : (pFa e n r).2.ws.length ≤ r.ws.length := (terms_le e n).2.2.2.2 r
theorem le_T (e n r) : (pT e n r).2.ws.length ≤ r.ws.length := (terms_le e n).1 r
theorem le_I (e n r) : (pI e n r).2.ws.length ≤ r.ws.length := (forms_le e n).2.2.1 r
theorem le_O (e n r) : (pO e n r).2.ws.length ≤ r.ws.length := (forms_le e n).2.2.2.1 r
theorem le_A (e n r) : (pA e n r).2.ws.length ≤ r.ws.length := (forms_le e n).2.2.2.2.2.1 r
theorem le_U (e n r) : (pU e n r).2.ws.length ≤ r.ws.length := (forms_le e n).2.2.2.2.2.2.2.1 r

/-! ### Loops -/
theorem pl_stop {x} {K : List Ky} (h : sgK K ≠ tMul) : Okl 1 pPL x K x K := by
  intro e n W hW hn
  obtain ⟨n, rfl⟩ : ∃ k, n = k + 1 := ⟨n - 1, by omega⟩
  refine ⟨W, ?_, hW⟩
  rw [pPL, take_no hW (by simpa using h)]
  rfl
theorem pl_step {x u g} {K K1 R : List Ky} (hu : OkFa K u K1) (hg : Okl 1 pPL ((fun (a b : TT) => TT.mk 5 0 [] .any [a, b]) x u) K1 g R) : Okl 1 pPL x (kS tMul :: K) g R := by
  intro e n W hW hn
  have hl := okp_le hu le_Fa
  simp only [List.length_cons] at hn
  obtain ⟨n, rfl⟩ : ∃ k, n = k + 1 := ⟨n - 1, by omega⟩
  obtain ⟨V, h1, h2⟩ := take_hit (L := [tMul]) hW (by simp)
  obtain ⟨V1, h3, h4⟩ := hu e n V h2 (by omega)
  obtain ⟨V2, h5, h6⟩ := hg e n V1 h4 (by omega)
  refine ⟨V2, ?_, h6⟩
  rw [pPL, h1]
  simp only
  rw [if_pos (by simp [tMul]), h3]
  exact h5
theorem p_intro {u g} {K K1 R : List Ky} (hu : OkFa K u K1) (hg : Okl 1 pPL u K1 g R) : OkP K g R := by
  intro e n W hW hn
  have hl := okp_le hu le_Fa
  obtain ⟨n, rfl⟩ : ∃ k, n = k + 1 := ⟨n - 1, by omega⟩
  obtain ⟨V1, h3, h4⟩ := hu e n W hW (by omega)
  obtain ⟨V2, h5, h6⟩ := hg e n V1 h4 (by omega)
  refine ⟨V2, ?_, h6⟩
  rw [pP, h3]
  exact h5
theorem al_stop {x} {K : List Ky} (h : sgK K ≠ fAnd) : Okl 4 pAL x K x K := by
  intro e n W hW hn
  obtain ⟨n, rfl⟩ : ∃ k, n = k + 1 := ⟨n - 1, by omega⟩
  refine ⟨W, ?_, hW⟩
  rw [pAL, take_no hW (by simpa using h)]
  rfl
theorem al_step {x u g} {K K1 R : List Ky} (hu : OkU K u K1) (hg : Okl 4 pAL (twoF 3 x u) K1 g R) : Okl 4 pAL x (kS fAnd :: K) g R := by
  intro e n W hW hn
  have hl := okp_le hu le_U
  simp only [List.length_cons] at hn
  obtain ⟨n, rfl⟩ : ∃ k, n = k + 1 := ⟨n - 1, by omega⟩
  obtain ⟨V, h1, h2⟩ := take_hit (L := [fAnd]) hW (by simp)
  obtain ⟨V1, h3, h4⟩ := hu e n V h2 (by omega)
  obtain ⟨V2, h5, h6⟩ := hg e n V1 h4 (by omega)
  refine ⟨V2, ?_, h6⟩
  rw [pAL, h1]
  simp only
  rw [if_pos (by simp [fAnd]), h3]
  exact h5
theorem a_intro {u g} {K K1 R : List Ky} (hu : OkU K u K1) (hg : Okl 4 pAL u K1 g R) : OkA K g R := by
  intro e n W hW hn
  have hl := okp_le hu le_U
  obtain ⟨n, rfl⟩ : ∃ k, n = k + 1 := ⟨n - 1, by omega⟩
  obtain ⟨V1, h3, h4⟩ := hu e n W hW (by omega)
  obtain ⟨V2, h5, h6⟩ := hg e n V1 h4 (by omega)
  refine ⟨V2, ?_, h6⟩
  rw [pA, h3]
  exact h5
theorem ol_stop {x} {K : List Ky} (h : sgK K ≠ fOr) : Okl 5 pOL x K x K := by
  intro e n W hW hn
  obtain ⟨n, rfl⟩ : ∃ k, n = k + 1 := ⟨n - 1, by omega⟩
  refine ⟨W, ?_, hW⟩
  rw [pOL, take_no hW (by simpa using h)]
  rfl
theorem ol_step {x u g} {K K1 R : List Ky} (hu : OkA K u K1) (hg : Okl 5 pOL (twoF 4 x u) K1 g R) : Okl 5 pOL x (kS fOr :: K) g R := by
  intro e n W hW hn
  have hl := okp_le hu le_A
  simp only [List.length_cons] at hn
  obtain ⟨n, rfl⟩ : ∃ k, n = k + 1 := ⟨n - 1, by omega⟩
  obtain ⟨V, h1, h2⟩ := take_hit (L := [fOr]) hW (by simp)
  obtain ⟨V1, h3, h4⟩ := hu e n V h2 (by omega)
  obtain ⟨V2, h5, h6⟩ := hg e n V1 h4 (by omega)
  refine ⟨V2, ?_, h6⟩
  rw [pOL, h1]
  simp only
  rw [if_pos (by simp [fOr]), h3]
  exact h5
theorem o_intro {u g} {K K1 R : List Ky} (hu : OkA K u K1) (hg : Okl 5 pOL u K1 g R) : OkO K g R := by
  intro e n W hW hn
  have hl := okp_le hu le_A
  obtain ⟨n, rfl⟩ : ∃ k, n = k + 1 := ⟨n - 1, by omega⟩
  obtain ⟨V1, h3, h4⟩ := hu e n W hW (by omega)
  obtain ⟨V2, h5, h6⟩ := hg e n V1 h4 (by omega)
  refine ⟨V2, ?_, h6⟩
  rw [pO, h3]
  exact h5
theorem fl_stop {x} {K : List Ky} (h : sgK K ≠ fIff) : Okl 7 pFL x K x K := by
  intro e n W hW hn
  obtain ⟨n, rfl⟩ : ∃ k, n = k + 1 := ⟨n - 1, by omega⟩
  refine ⟨W, ?_, hW⟩
  rw [pFL, take_no hW (by simpa using h)]
  rfl
theorem fl_step {x u g} {K K1 R : List Ky} (hu : OkI K u K1) (hg : Okl 7 pFL (twoF 6 x u) K1 g R) : Okl 7 pFL x (kS fIff :: K) g R := by
  intro e n W hW hn
  have hl := okp_le hu le_I
  simp only [List.length_cons] at hn
  obtain ⟨n, rfl⟩ : ∃ k, n = k + 1 := ⟨n - 1, by omega⟩
  obtain ⟨V, h1, h2⟩ := take_hit (L := [fIff]) hW (by simp)
  obtain ⟨V1, h3, h4⟩ := hu e n V h2 (by omega)
  obtain ⟨V2, h5, h6⟩ := hg e n V1 h4 (by omega)
  refine ⟨V2, ?_, h6⟩
  rw [pFL, h1]
  simp only
  rw [if_pos (by simp [fIff]), h3]
  exact h5
theorem f_intro {u g} {K K1 R : List Ky} (hu : OkI K u K1) (hg : Okl 7 pFL u K1 g R) : OkF K g R := by
  intro e n W hW hn
  have hl := okp_le hu le_I
  obtain ⟨n, rfl⟩ : ∃ k, n = k + 1 := ⟨n - 1, by omega⟩
  obtain ⟨V1, h3, h4⟩ := hu e n W hW (by omega)
  obtain ⟨V2, h5, h6⟩ := hg e n V1 h4 (by omega)
  refine ⟨V2, ?_, h6⟩
  rw [pF, h3]
  exact h5
theorem tl_stop {x} {K : List Ky} (h1 : sgK K ≠ tAdd) (h2 : sgK K ≠ tSub) : Okl 2 pTL x K x K := by
  intro e n W hW hn
  obtain ⟨n, rfl⟩ : ∃ k, n = k + 1 := ⟨n - 1, by omega⟩
  refine ⟨W, ?_, hW⟩
  rw [pTL, take_no hW (by simp; exact ⟨h1, h2⟩)]
  rfl
theorem tl_add {x u g} {K K1 R : List Ky} (hu : OkP K u K1) (hg : Okl 2 pTL (.mk 3 0 [] .any [x, u]) K1 g R) : Okl 2 pTL x (kS tAdd :: K) g R := by
  intro e n W hW hn
  have hl := okp_le hu le_P
  simp only [List.length_cons] at hn
  obtain ⟨n, rfl⟩ : ∃ k, n = k + 1 := ⟨n - 1, by omega⟩
  obtain ⟨V, h1, h2⟩ := take_hit (L := [tAdd, tSub]) hW (by simp)
  obtain ⟨V1, h3, h4⟩ := hu e n V h2 (by omega)
  obtain ⟨V2, h5, h6⟩ := hg e n V1 h4 (by omega)
  refine ⟨V2, ?_, h6⟩
  rw [pTL, h1]
  simp only
  rw [if_pos trivial, h3]
  exact h5
theorem tl_sub {x u g} {K K1 R : List Ky} (hu : OkP K u K1) (hg : Okl 2 pTL (.mk 4 0 [] .any [x, u]) K1 g R) : Okl 2 pTL x (kS tSub :: K) g R := by
  intro e n W hW hn
  have hl := okp_le hu le_P
  simp only [List.length_cons] at hn
  obtain ⟨n, rfl⟩ : ∃ k, n = k + 1 := ⟨n - 1, by omega⟩
  obtain ⟨V, h1, h2⟩ := take_hit (L := [tAdd, tSub]) hW (by simp)
  obtain ⟨V1, h3, h4⟩ := hu e n V h2 (by omega)
  obtain ⟨V2, h5, h6⟩ := hg e n V1 h4 (by omega)
  refine ⟨V2, ?_, h6⟩
  rw [pTL, h1]
  simp only
  rw [if_neg (by decide), if_pos trivial, h3]
  exact h5
theorem t_intro {u g} {K K1 R : List Ky} (hu : OkP K u K1) (hg : Okl 2 pTL u K1 g R) : OkT K g R := by
  intro e n W hW hn
  have hl := okp_le hu le_P
  obtain ⟨n, rfl⟩ : ∃ k, n = k + 1 := ⟨n - 1, by omega⟩
  obtain ⟨V1, h3, h4⟩ := hu e n W hW (by omega)
  obtain ⟨V2, h5, h6⟩ := hg e n V1 h4 (by omega)
  refine ⟨V2, ?_, h6⟩
  rw [pT, h3]
  exact h5
theorem i_one {a} {K K1 : List Ky} (ha : OkO K a K1) (h : sgK K1 ≠ fImp) : OkI K a K1 := by
  intro e n W hW hn
  obtain ⟨n, rfl⟩ : ∃ k, n = k + 1 := ⟨n - 1, by omega⟩
  obtain ⟨V1, h3, h4⟩ := ha e n W hW (by omega)
  refine ⟨V1, ?_, h4⟩
  rw [pI, h3]
  simp only
  rw [take_no h4 (by simpa using h), if_neg (by simp)]
theorem i_two {a b} {K K1 R : List Ky} (ha : OkO K a (kS fImp :: K1)) (hb : OkI K1 b R) : OkI K (twoF 5 a b) R := by
  intro e n W hW hn
  have hl := okp_le ha le_O
  simp only [List.length_cons] at hl
  obtain ⟨n, rfl⟩ : ∃ k, n = k + 1 := ⟨n - 1, by omega⟩
  obtain ⟨V1, h3, h4⟩ := ha e n W hW (by omega)
  obtain ⟨V, h1, h2⟩ := take_hit (L := [fImp]) h4 (by simp)
  obtain ⟨V2, h5, h6⟩ := hb e n V h2 (by omega)
  refine ⟨V2, ?_, h6⟩
  rw [pI, h3]
  simp only
  rw [h1]
  simp only
  rw [if_pos (by simp [fImp]), h5]

/-! ### Terms and formulas that stand by themselves -/
theorem fa_name {s : Str} {K : List Ky} : OkFa ((0, s, 0) :: K) (.mk 1 0 s .nil []) K := by
  intro e n W hW hn
  obtain ⟨n, rfl⟩ : ∃ k, n = k + 1 := ⟨n - 1, by omega⟩
  obtain ⟨w, V, h1, h2, h3, h4⟩ := word_hit' (e := e) hW
  refine ⟨V, ?_, h4⟩
  rw [pFa, take_no hW (by simp [sgK, tOpen, tSub])]
  simp only
  have hc : (Rs.mk W flt0).fl.why = 0 ∧ (Rs.mk W flt0).ws ≠ [] ∧ (Rs.mk W flt0).hd.kind = 0 := by
    cases W with
    | nil => cases hW
    | cons w t =>
      obtain ⟨h1, _⟩ := List.cons.inj hW
      simp only [wk, Prod.mk.injEq] at h1
      exact ⟨rfl, by simp, h1.1⟩
  rw [if_neg (by simp [tOpen]), if_neg (by simp [tSub]), if_pos hc, h1]
  simp only [h2]
theorem fa_num {v : Nat} {s : Str} {K : List Ky} : OkFa ((1, s, v) :: K) (.mk 0 v [] .nil []) K := by
  intro e n W hW hn
  obtain ⟨n, rfl⟩ : ∃ k, n = k + 1 := ⟨n - 1, by omega⟩
  obtain ⟨w, V, h1, h2, h3, h4⟩ := word_hit' (e := e) hW
  refine ⟨V, ?_, h4⟩
  rw [pFa, take_no hW (by simp [sgK, tOpen, tSub])]
  simp only
  have hc : ¬ ((Rs.mk W flt0).fl.why = 0 ∧ (Rs.mk W flt0).ws ≠ [] ∧ (Rs.mk W flt0).hd.kind = 0) := by
    cases W with
    | nil => cases hW
    | cons w t =>
      obtain ⟨h1, _⟩ := List.cons.inj hW
      simp only [wk, Prod.mk.injEq] at h1
      rintro ⟨_, _, h⟩
      have h : w.kind = 0 := h
      rw [h1.1] at h
      cases h
  rw [if_neg (by simp [tOpen]), if_neg (by simp [tSub]), if_neg hc, h1]
  simp only [h3]
theorem fa_neg {a} {K R : List Ky} (ha : OkFa K a R) : OkFa (kS tSub :: K) (.mk 2 0 [] .any [a]) R := by
  intro e n W hW hn
  simp only [List.length_cons] at hn
  obtain ⟨n, rfl⟩ : ∃ k, n = k + 1 := ⟨n - 1, by omega⟩
  obtain ⟨V, h1, h2⟩ := take_hit (L := [tOpen, tSub]) hW (by simp)
  obtain ⟨V1, h3, h4⟩ := ha e n V h2 (by omega)
  refine ⟨V1, ?_, h4⟩
  rw [pFa, h1]
  simp only
  rw [if_neg (by decide), if_pos trivial, h3]
theorem fa_open {a} {K R : List Ky} (ha : OkT K a (kS tClose :: R)) : OkFa (kS tOpen :: K) a R := by
  intro e n W hW hn
  simp only [List.length_cons] at hn
  obtain ⟨n, rfl⟩ : ∃ k, n = k + 1 := ⟨n - 1, by omega⟩
  obtain ⟨V, h1, h2⟩ := take_hit (L := [tOpen, tSub]) hW (by simp)
  obtain ⟨V1, h3, h4⟩ := ha e n V h2 (by omega)
  obtain ⟨V2, h5, h6⟩ := need_hit (e := e) h4 (by simp [tClose])
  refine ⟨V2, ?_, h6⟩
  rw [pFa, h1]
  simp only
  rw [if_pos trivial, h3]
  simp only
  rw [h5]
theorem u_open {a} {K R : List Ky} (ha : OkF K a (kS fClose :: R)) : OkU (kS fOpen :: K) a R := by
  intro e n W hW hn
  simp only [List.length_cons] at hn
  obtain ⟨n, rfl⟩ : ∃ k, n = k + 1 := ⟨n - 1, by omega⟩
  obtain ⟨V, h1, h2⟩ := take_hit (L := unL) hW (by simp [unL])
  obtain ⟨V1, h3, h4⟩ := ha e n V h2 (by omega)
  obtain ⟨V2, h5, h6⟩ := need_hit (e := e) h4 (by simp [fClose])
  refine ⟨V2, ?_, h6⟩
  rw [pU, h1]
  simp only
  rw [if_neg (by decide), if_neg (by decide), if_neg (by decide), if_pos trivial, h3]
  simp only
  rw [h5]
theorem u_not {a} {K R : List Ky} (ha : OkU K a R) : OkU (kS fNot :: K) (oneF 2 [] a) R := by
  intro e n W hW hn
  simp only [List.length_cons] at hn
  obtain ⟨n, rfl⟩ : ∃ k, n = k + 1 := ⟨n - 1, by omega⟩
  obtain ⟨V, h1, h2⟩ := take_hit (L := unL) hW (by simp [unL])
  obtain ⟨V1, h3, h4⟩ := ha e n V h2 (by omega)
  refine ⟨V1, ?_, h4⟩
  rw [pU, h1]
  simp only
  rw [if_pos trivial, h3]
theorem u_true {K : List Ky} : OkU (kS fTrue :: K) (nilF 0) K := by
  intro e n W hW hn
  obtain ⟨n, rfl⟩ : ∃ k, n = k + 1 := ⟨n - 1, by omega⟩
  obtain ⟨V, h1, h2⟩ := take_hit (L := unL) hW (by simp [unL])
  refine ⟨V, ?_, h2⟩
  rw [pU, h1]
  rfl
theorem u_false {K : List Ky} : OkU (kS fFalse :: K) (nilF 1) K := by
  intro e n W hW hn
  obtain ⟨n, rfl⟩ : ∃ k, n = k + 1 := ⟨n - 1, by omega⟩
  obtain ⟨V, h1, h2⟩ := take_hit (L := unL) hW (by simp [unL])
  refine ⟨V, ?_, h2⟩
  rw [pU, h1]
  rfl
theorem u_ex {a} {K R : List Ky} (ha : OkQ 7 K a R) : OkU (kS fEx :: K) a R := by
  intro e n W hW hn
  simp only [List.length_cons] at hn
  obtain ⟨n, rfl⟩ : ∃ k, n = k + 1 := ⟨n - 1, by omega⟩
  obtain ⟨V, h1, h2⟩ := take_hit (L := unL) hW (by simp [unL])
  obtain ⟨V1, h3, h4⟩ := ha e n V h2 (by omega)
  refine ⟨V1, ?_, h4⟩
  rw [pU, h1]
  simp only
  rw [if_neg (by decide), if_pos trivial]
  exact h3
theorem u_all {a} {K R : List Ky} (ha : OkQ 8 K a R) : OkU (kS fAll :: K) a R := by
  intro e n W hW hn
  simp only [List.length_cons] at hn
  obtain ⟨n, rfl⟩ : ∃ k, n = k + 1 := ⟨n - 1, by omega⟩
  obtain ⟨V, h1, h2⟩ := take_hit (L := unL) hW (by simp [unL])
  obtain ⟨V1, h3, h4⟩ := ha e n V h2 (by omega)
  refine ⟨V1, ?_, h4⟩
  rw [pU, h1]
  simp only
  rw [if_neg (by decide), if_neg (by decide), if_pos trivial]
  exact h3
theorem q_last {op : Int} {x : Str} {v : Nat} {a} {K R : List Ky} (ha : OkU K a R) : OkQ op ((0, x, v) :: kS fDot :: K) (oneF op x a) R := by
  intro e n W hW hn
  simp only [List.length_cons] at hn
  obtain ⟨n, rfl⟩ : ∃ k, n = k + 1 := ⟨n - 1, by omega⟩
  obtain ⟨w, V, h1, h2, h3, h4⟩ := word_hit' (e := e) hW
  obtain ⟨V1, h5, h6⟩ := need_hit (e := e) h4 (by simp [fDot])
  obtain ⟨V2, h7, h8⟩ := ha e n V1 h6 (by omega)
  refine ⟨V2, ?_, h8⟩
  show pQ e (n + 1) op ⟨W, flt0⟩ = _
  rw [pQ, h1]
  simp only
  rw [take_no h4 (by simp [sgK, kS, fDot, fComma]), if_neg (by simp)]
  simp only
  rw [h5, h7, h2]
theorem q_more {op : Int} {x : Str} {v : Nat} {a} {K R : List Ky} (ha : OkQ op K a R) : OkQ op ((0, x, v) :: kS fComma :: K) (oneF op x a) R := by
  intro e n W hW hn
  simp only [List.length_cons] at hn
  obtain ⟨n, rfl⟩ : ∃ k, n = k + 1 := ⟨n - 1, by omega⟩
  obtain ⟨w, V, h1, h2, h3, h4⟩ := word_hit' (e := e) hW
  obtain ⟨V1, h5, h6⟩ := take_hit (L := [fComma]) h4 (by simp)
  obtain ⟨V2, h7, h8⟩ := ha e n V1 h6 (by omega)
  refine ⟨V2, ?_, h8⟩
  show pQ e (n + 1) op ⟨W, flt0⟩ = _
  rw [pQ, h1]
  simp only
  rw [h5]
  simp only
  rw [if_pos (by simp [fComma])]
  have h7 : pQ e n op ⟨V1, flt0⟩ = (a, ⟨V2, flt0⟩) := h7
  rw [h7, h2]

abbrev OkAt := Okp (X := FT) 3 pAt
theorem u_atom {f} {K R : List Ky} (hn0 : sgK K ∉ unL) (ha : OkAt K f R) : OkU K f R := by
  intro e n W hW hn
  obtain ⟨n, rfl⟩ : ∃ k, n = k + 1 := ⟨n - 1, by omega⟩
  obtain ⟨V, h1, h2⟩ := ha e n W hW (by omega)
  refine ⟨V, ?_, h2⟩
  rw [pU, take_no hW hn0]
  exact h1
theorem at_rel {s : Str} {a b : TT} {K K1 R : List Ky} (hs : s ∈ relL) (ho : relO s ≠ 15) (ha : OkT K a (kS s :: K1)) (hb : OkT K1 b R) : OkAt K (.mk (relO s) [] 0 .any [a, b] .nil []) R := by
  intro e n W hW hn
  have hl := okp_le ha le_T
  simp only [List.length_cons] at hl
  obtain ⟨V1, h3, h4⟩ := ha e n W hW (by omega)
  obtain ⟨V, h1, h2⟩ := take_hit (L := relL) h4 hs
  obtain ⟨V2, h5, h6⟩ := hb e n V h2 (by omega)
  have hs0 : s ≠ [] := by rintro rfl; revert hs; simp [relL]
  refine ⟨V2, ?_, h6⟩
  unfold pAt
  simp only
  rw [h3]
  simp only
  rw [h1]
  simp only
  rw [if_neg ho, if_neg hs0, h5]
theorem at_cong {a b : TT} {t : Str} {v : Nat} {K K1 R : List Ky} (hv : v ≠ 0) (ha : OkT K a (kS [126] :: K1)) (hb : OkT K1 b (kS fMod :: (1, t, v) :: R)) : OkAt K (.mk 15 [] v .any [a, b] .nil []) R := by
  intro e n W hW hn
  have hl := okp_le ha le_T
  simp only [List.length_cons] at hl
  obtain ⟨V1, h3, h4⟩ := ha e n W hW (by omega)
  obtain ⟨V, h1, h2⟩ := take_hit (L := relL) h4 (by simp [relL])
  obtain ⟨V2, h5, h6⟩ := hb e n V h2 (by omega)
  obtain ⟨V3, h7, h8⟩ := need_hit (e := e) h6 (by simp [fMod])
  obtain ⟨w, V4, h9, h10, h11, h12⟩ := word_hit' (e := e) h8
  refine ⟨V4, ?_, h12⟩
  have hc : ¬ ((Rs.mk V3 flt0).fl.why = 0 ∧ (Rs.mk V3 flt0).ws ≠ [] ∧ (Rs.mk V3 flt0).hd.kind = 1 ∧ (Rs.mk V3 flt0).hd.num = 0) := by
    cases V3 with
    | nil => cases h8
    | cons w t =>
      obtain ⟨h1, _⟩ := List.cons.inj h8
      simp only [wk, Prod.mk.injEq] at h1
      rintro ⟨_, _, _, h⟩
      have h : w.num = 0 := h
      exact hv (h1.2.2 ▸ h)
  have hm : modS e ⟨V2, flt0⟩ = (v, ⟨V4, flt0⟩) := by
    rw [modS_eq, h7, modGo_else hc, h9]
    simp only [h11]
  unfold pAt
  simp only
  rw [h3]
  simp only
  rw [h1]
  simp only
  rw [if_pos (by decide), if_neg (by decide), h5]
  simp only
  rw [hm]

end Tab

/- Texts put together, read: plain. -/
namespace Tab
open Go
set_option maxRecDepth 10000
set_option linter.unusedVariables false
set_option linter.unusedSimpArgs false
set_option linter.unusedSectionVars false

/-! ### Readers over words of the same kinds -/
def SK' (r r' : Rs) : Prop := r.ws.map wk = r'.ws.map wk ∧ r.fl.why = r'.fl.why
theorem sk_cases {r r' : Rs} (h : SK' r r') : (r.ws = [] ∧ r'.ws = []) ∨ ∃ w t w' t', r.ws = w :: t ∧ r'.ws = w' :: t' ∧ wk w = wk w' ∧ t.map wk = t'.map wk := by
  obtain ⟨h, _⟩ := h
  cases hr : r.ws with
  | nil => rw [hr] at h; exact .inl ⟨rfl, List.map_eq_nil_iff.1 h.symm⟩
  | cons w t =>
    rw [hr] at h
    cases hr' : r'.ws with
    | nil => rw [hr'] at h; cases h
    | cons w' t' =>
      rw [hr'] at h
      obtain ⟨h1, h2⟩ := List.cons.inj h
      exact .inr ⟨w, t, w', t', rfl, rfl, h1, h2⟩
theorem sk_wrong {e e' : Nat × Nat} {r r' : Rs} (h : SK' r r') (y : Int) : SK' (r.wrong e y) (r'.wrong e' y) := by
  refine ⟨by rw [wrong_ws, wrong_ws]; exact h.1, ?_⟩
  by_cases h0 : r.fl.why = 0
  · rw [wrong_new h0, wrong_new (by rw [← h.2]; exact h0)]
  · rw [wrong_bad h0, wrong_bad (by rw [← h.2]; exact h0)]; exact h.2
theorem sk_sign {r r' : Rs} (h : SK' r r') : r.sign = r'.sign := by
  rcases sk_cases h with ⟨h1, h2⟩ | ⟨w, t, w', t', h1, h2, h3, _⟩
  · rw [Rs.sign, Rs.sign, h1, h2]
  · simp only [wk, Prod.mk.injEq] at h3
    rw [Rs.sign, Rs.sign, h1, h2]
    show (if w.kind = 2 then w.text else []) = (if w'.kind = 2 then w'.text else [])
    rw [h3.1, h3.2.1]
theorem sk_take {r r' : Rs} {L : List Str} (h : SK' r r') : (r.take L).1 = (r'.take L).1 ∧ SK' (r.take L).2 (r'.take L).2 := by
  have hs := sk_sign h
  unfold Rs.take
  rw [hs, h.2]
  split
  · refine ⟨rfl, ?_, h.2⟩
    show r.ws.tail.map wk = r'.ws.tail.map wk
    rw [List.map_tail, List.map_tail, h.1]
  · exact ⟨rfl, h⟩
theorem sk_hd {r r' : Rs} (h : SK' r r') : r.hd.kind = r'.hd.kind ∧ r.hd.num = r'.hd.num ∧ r.hd.text = r'.hd.text ∧ (r.ws = [] ↔ r'.ws = []) := by
  rcases sk_cases h with ⟨h1, h2⟩ | ⟨w, t, w', t', h1, h2, h3, _⟩
  · rw [Rs.hd, Rs.hd, h1, h2]; exact ⟨rfl, rfl, rfl, by simp⟩
  · simp only [wk, Prod.mk.injEq] at h3
    rw [Rs.hd, Rs.hd, h1, h2]; exact ⟨h3.1, h3.2.2, h3.2.1, by simp⟩
theorem sk_word {e e' : Nat × Nat} {r r' : Rs} {k : Int} (h : SK' r r') : (r.word e k).1.text = (r'.word e' k).1.text ∧ (r.word e k).1.num = (r'.word e' k).1.num ∧ SK' (r.word e k).2 (r'.word e' k).2 := by
  obtain ⟨h1, h2, h3, h4⟩ := sk_hd h
  unfold Rs.word
  by_cases hc : r.fl.why ≠ 0 ∨ r.ws = [] ∨ r.hd.kind ≠ k
  · rw [if_pos hc, if_pos (by rw [← h.2, ← h1, ← h4]; exact hc)]
    exact ⟨rfl, rfl, sk_wrong h 71⟩
  · rw [if_neg hc, if_neg (by rw [← h.2, ← h1, ← h4]; exact hc)]
    refine ⟨h3, h2, ?_, h.2⟩
    show r.ws.tail.map wk = r'.ws.tail.map wk
    rw [List.map_tail, List.map_tail, h.1]
theorem sk_need {e e' : Nat × Nat} {r r' : Rs} {s : Str} (h : SK' r r') : SK' (r.need e s) (r'.need e' s) := by
  obtain ⟨h1, h2⟩ := sk_take (L := [s]) h
  unfold Rs.need
  rw [← h1]
  split
  · exact sk_wrong h2 71
  · exact h2
theorem sim_SK (e e' : Nat × Nat) : Sim e e' SK' (fun _ => False) where
  mono := ⟨fun _ _ h => h, fun _ _ _ h => h, fun _ _ h => h⟩
  take r r' L h _ := .inr (sk_take h)
  wrong r r' h := .inr (sk_wrong h 71)
  word r r' k h := .inr ⟨(sk_word h).1, (sk_word h).2.2⟩
  leaf r r' h := by
    obtain ⟨h1, h2, h3, h4⟩ := sk_hd h
    refine .inr ?_
    have hc : (r.fl.why = 0 ∧ r.ws ≠ [] ∧ r.hd.kind = 0) ↔ (r'.fl.why = 0 ∧ r'.ws ≠ [] ∧ r'.hd.kind = 0) := by rw [h.2, h1, ne_eq, h4]
    by_cases k : r.fl.why = 0 ∧ r.ws ≠ [] ∧ r.hd.kind = 0
    · obtain ⟨w1, w2, w3⟩ := sk_word (e := e) (e' := e') (k := 0) h
      rw [leafP_name k, leafP_name (hc.1 k)]
      exact ⟨by rw [w1], w3⟩
    · obtain ⟨w1, w2, w3⟩ := sk_word (e := e) (e' := e') (k := 1) h
      rw [leafP_num k, leafP_num fun q => k (hc.2 q)]
      exact ⟨by rw [w2], w3⟩
  mod r r' h := by
    refine .inr ?_
    rw [modS_eq, modS_eq]
    have h := sk_need (e := e) (e' := e') (s := fMod) h
    generalize r.need e fMod = n at *
    generalize r'.need e' fMod = n' at *
    obtain ⟨h1, h2, h3, h4⟩ := sk_hd h
    have hc : (n.fl.why = 0 ∧ n.ws ≠ [] ∧ n.hd.kind = 1 ∧ n.hd.num = 0) ↔ (n'.fl.why = 0 ∧ n'.ws ≠ [] ∧ n'.hd.kind = 1 ∧ n'.hd.num = 0) := by rw [h.2, h1, h2, ne_eq, h4]
    by_cases k : n.fl.why = 0 ∧ n.ws ≠ [] ∧ n.hd.kind = 1 ∧ n.hd.num = 0
    · rw [modGo_nought k, modGo_nought (hc.1 k)]
      exact ⟨rfl, sk_wrong h 92⟩
    · rw [modGo_else k, modGo_else fun q => k (hc.2 q)]
      obtain ⟨w1, w2, w3⟩ := sk_word (e := e) (e' := e') (k := 1) h
      exact ⟨w2, w3⟩
theorem plc_flt {e : Nat × Nat} {r : Rs} (h : Plc e r) (h0 : r.fl.why = 0) : r = ⟨r.ws, flt0⟩ := by rw [← plc_zero h h0]
/-- One reading tells all. -/
theorem okF_of {e : Nat × Nat} {n : Nat} {W V : List Wd} {f : FT} (h : pF e n ⟨W, flt0⟩ = (f, ⟨V, flt0⟩)) (hn : 16 * W.length + 8 ≤ n) : OkF (W.map wk) f (V.map wk) := by
  intro e' m W' hW hm
  have hl := len_wk hW
  rw [List.length_map] at hl hm
  have hs := (sim_forms (sim_SK e e') n).1 m ⟨W, flt0⟩ ⟨W', flt0⟩ hn (by show 16 * W'.length + 8 ≤ m; omega) ⟨hW.symm, rfl⟩
  have hp := (mono_forms (mono_plc e') m).1 ⟨W', flt0⟩ (.inl rfl)
  rcases hs with hs | ⟨h1, h2, h3⟩
  · exact hs.elim
  · rw [h] at h1 h2 h3
    have hz := plc_flt hp h3.symm
    refine ⟨(pF e' m ⟨W', flt0⟩).2.ws, ?_, h2.symm⟩
    rw [← hz]
    exact Prod.ext h1.symm rfl
theorem okT_of {e : Nat × Nat} {n : Nat} {W V : List Wd} {f : TT} (h : pT e n ⟨W, flt0⟩ = (f, ⟨V, flt0⟩)) (hn : 16 * W.length + 3 ≤ n) : OkT (W.map wk) f (V.map wk) := by
  intro e' m W' hW hm
  have hl := len_wk hW
  rw [List.length_map] at hl hm
  have hs := (sim_terms (sim_SK e e') n).1 m ⟨W, flt0⟩ ⟨W', flt0⟩ hn (by show 16 * W'.length + 3 ≤ m; omega) ⟨hW.symm, rfl⟩
  have hp := (mono_terms (mono_plc e') m).1 ⟨W', flt0⟩ (.inl rfl)
  rcases hs with hs | ⟨h1, h2, h3⟩
  · exact hs.elim
  · rw [h] at h1 h2 h3
    have hz := plc_flt hp h3.symm
    refine ⟨(pT e' m ⟨W', flt0⟩).2.ws, ?_, h2.symm⟩
    rw [← hz]
    exact Prod.ext h1.symm rfl

/-! ### More behind -/
theorem cl_of {S : List Str} {M : List Wd} {K : List Ky} (h : M.map wk = K) (hs : sgK K ∉ S) : Cl S M := fun f k => hs (sgK_sign h f ▸ k)
theorem okF_ext {f} {K R M : List Ky} (h : OkF K f R) (hM : R ≠ [] ∨ sgK M ∉ sgF) : OkF (K ++ M) f (R ++ M) := by
  intro e m W hW hm
  obtain ⟨c, M', rfl, hc, hM'⟩ := List.map_eq_append_iff.1 hW
  rw [List.length_append] at hm
  have l1 := len_wk hc
  have l2 := len_wk hM'
  obtain ⟨V, h1, h2⟩ := h e m c hc (by omega)
  have hx := (fun e e' M n => (ext_forms e e' M n).1) e e M' m m c (by omega) (by rw [List.length_append]; omega)
  rw [h1] at hx
  obtain ⟨d, k1, k2⟩ := hx rfl (hM.imp (fun hr k => hr (by rw [← h2, show V = [] from k]; rfl)) fun hs => cl_of hM' hs)
  have : V = d := congrArg Rs.ws k1
  subst this
  exact ⟨V ++ M', k2, by rw [List.map_append, h2, hM']⟩
theorem okI_ext {f} {K R M : List Ky} (h : OkI K f R) (hM : R ≠ [] ∨ sgK M ∉ sgI) : OkI (K ++ M) f (R ++ M) := by
  intro e m W hW hm
  obtain ⟨c, M', rfl, hc, hM'⟩ := List.map_eq_append_iff.1 hW
  rw [List.length_append] at hm
  have l1 := len_wk hc
  have l2 := len_wk hM'
  obtain ⟨V, h1, h2⟩ := h e m c hc (by omega)
  have hx := (fun e e' M n => (ext_forms e e' M n).2.2.1) e e M' m m c (by omega) (by rw [List.length_append]; omega)
  rw [h1] at hx
  obtain ⟨d, k1, k2⟩ := hx rfl (hM.imp (fun hr k => hr (by rw [← h2, show V = [] from k]; rfl)) fun hs => cl_of hM' hs)
  have : V = d := congrArg Rs.ws k1
  subst this
  exact ⟨V ++ M', k2, by rw [List.map_append, h2, hM']⟩
theorem okO_ext {f} {K R M : List Ky} (h : OkO K f R) (hM : R ≠ [] ∨ sgK M ∉ sgO) : OkO (K ++ M) f (R ++ M) := by
  intro e m W hW hm
  obtain ⟨c, M', rfl, hc, hM'⟩ := List.map_eq_append_iff.1 hW
  rw [List.length_append] at hm
  have l1 := len_wk hc
  have l2 := len_wk hM'
  obtain ⟨V, h1, h2⟩ := h e m c hc (by omega)
  have hx := (fun e e' M n => (ext_forms e e' M n).2.2.2.1) e e M' m m c (by omega) (by rw [List.length_append]; omega)
  rw [h1] at hx
  obtain ⟨d, k1, k2⟩ := hx rfl (hM.imp (fun hr k => hr (by rw [← h2, show V = [] from k]; rfl)) fun hs => cl_of hM' hs)
  have : V = d := congrArg Rs.ws k1
  subst this
  exact ⟨V ++ M', k2, by rw [List.map_append, h2, hM']⟩
theorem okA_ext {f} {K R M : List Ky} (h : OkA K f R) (hM : R ≠ [] ∨ sgK M ∉ sgA) : OkA (K ++ M) f (R ++ M) := by
  intro e m W hW hm
  obtain ⟨c, M', rfl, hc, hM'⟩ := List.map_eq_append_iff.1 hW
  rw [List.length_append] at hm
  have l1 := len_wk hc
  have l2 := len_wk hM'
  obtain ⟨V, h1, h2⟩ := h e m c hc (by omega)
  have hx := (fun e e' M n => (ext_forms e e' M n).2.2.2.2.2.1) e e M' m m c (by omega) (by rw [List.length_append]; omega)
  rw [h1] at hx
  obtain ⟨d, k1, k2⟩ := hx rfl (hM.imp (fun hr k => hr (by rw [← h2, show V = [] from k]; rfl)) fun hs => cl_of hM' hs)
  have : V = d := congrArg Rs.ws k1
  subst this
  exact ⟨V ++ M', k2, by rw [List.map_append, h2, hM']⟩
theorem okU_ext {f} {K R M : List Ky} (h : OkU K f R) (hM : R ≠ [] ∨ sgK M ∉ sgT) : OkU (K ++ M) f (R ++ M) := by
  intro e m W hW hm
  obtain ⟨c, M', rfl, hc, hM'⟩ := List.map_eq_append_iff.1 hW
  rw [List.length_append] at hm
  have l1 := len_wk hc
  have l2 := len_wk hM'
  obtain ⟨V, h1, h2⟩ := h e m c hc (by omega)
  have hx := (fun e e' M n => (ext_forms e e' M n).2.2.2.2.2.2.2.1) e e M' m m c (by omega) (by rw [List.length_append]; omega)
  rw [h1] at hx
  obtain ⟨d, k1, k2⟩ := hx rfl (hM.imp (fun hr k => hr (by rw [← h2, show V = [] from k]; rfl)) fun hs => cl_of hM' hs)
  have : V = d := congrArg Rs.ws k1
  subst this
  exact ⟨V ++ M', k2, by rw [List.map_append, h2, hM']⟩
theorem okT_ext {f} {K R M : List Ky} (h : OkT K f R) (hM : R ≠ [] ∨ sgK M ∉ sgT) : OkT (K ++ M) f (R ++ M) := by
  intro e m W hW hm
  obtain ⟨c, M', rfl, hc, hM'⟩ := List.map_eq_append_iff.1 hW
  rw [List.length_append] at hm
  have l1 := len_wk hc
  have l2 := len_wk hM'
  obtain ⟨V, h1, h2⟩ := h e m c hc (by omega)
  have hx := (fun e e' M n => (ext_terms e e' M n).1) e e M' m m c (by omega) (by rw [List.length_append]; omega)
  rw [h1] at hx
  obtain ⟨d, k1, k2⟩ := hx rfl (hM.imp (fun hr k => hr (by rw [← h2, show V = [] from k]; rfl)) fun hs => cl_of hM' hs)
  have : V = d := congrArg Rs.ws k1
  subst this
  exact ⟨V ++ M', k2, by rw [List.map_append, h2, hM']⟩
theorem okP_ext {f} {K R M : List Ky} (h : OkP K f R) (hM : R ≠ [] ∨ sgK M ∉ sgP) : OkP (K ++ M) f (R ++ M) := by
  intro e m W hW hm
  obtain ⟨c, M', rfl, hc, hM'⟩ := List.map_eq_append_iff.1 hW
  rw [List.length_append] at hm
  have l1 := len_wk hc
  have l2 := len_wk hM'
  obtain ⟨V, h1, h2⟩ := h e m c hc (by omega)
  have hx := (fun e e' M n => (ext_terms e e' M n).2.2.1) e e M' m m c (by omega) (by rw [List.length_append]; omega)
  rw [h1] at hx
  obtain ⟨d, k1, k2⟩ := hx rfl (hM.imp (fun hr k => hr (by rw [← h2, show V = [] from k]; rfl)) fun hs => cl_of hM' hs)
  have : V = d := congrArg Rs.ws k1
  subst this
  exact ⟨V ++ M', k2, by rw [List.map_append, h2, hM']⟩
theorem okFa_ext {f} {K R M : List Ky} (h : OkFa K f R) (hM : R ≠ [] ∨ sgK M ∉ []) : OkFa (K ++ M) f (R ++ M) := by
  intro e m W hW hm
  obtain ⟨c, M', rfl, hc, hM'⟩ := List.map_eq_append_iff.1 hW
  rw [List.length_append] at hm
  have l1 := len_wk hc
  have l2 := len_wk hM'
  obtain ⟨V, h1, h2⟩ := h e m c hc (by omega)
  have hx := (fun e e' M n => (ext_terms e e' M n).2.2.2.2) e e M' m m c (by omega) (by rw [List.length_append]; omega)
  rw [h1] at hx
  obtain ⟨d, k1, k2⟩ := hx rfl (hM.imp (fun hr k => hr (by rw [← h2, show V = [] from k]; rfl)) fun hs => cl_of hM' hs)
  have : V = d := congrArg Rs.ws k1
  subst this
  exact ⟨V ++ M', k2, by rw [List.map_append, h2, hM']⟩

/-! ### Whole texts -/
/-- A text whose words are read as a formula, none left. -/
theorem readF_of {z : Str} {K : List Ky} {f : FT} (hl : z.length ≤ 4096) (hz : Lx z K) (h : OkF K f []) : readF z = (f, ⟨[], flt0⟩) := by
  obtain ⟨W, h1, h2⟩ := hz.lexS hl
  have h0 := rs0_of h1
  have := len_wk h2
  obtain ⟨V, h3, h4⟩ := h (endS z) (16 * W.length + 16) W h2 (by omega)
  rw [List.map_eq_nil_iff] at h4
  subst h4
  rw [readF, h0]
  exact h3
theorem parF_of {z : Str} {K : List Ky} {f : FT} (hl : z.length ≤ 4096) (hz : Lx z K) (h : OkF K f []) : parF z = if chkF f ≠ 0 then (nilF 0, ⟨chkF f, 0, 0⟩) else (f, flt0) := by
  have hr := readF_of hl hz h
  unfold parF
  rw [hr]
  rfl
theorem parF_long {z : Str} (hl : 4096 < z.length) : (parF z).2 = ⟨70, 0, 0⟩ := by
  have h := lexS_long hl
  rw [parF_lex (by rw [h]; decide), h]
/-- What comes of a text that should be read as this formula. -/
def Comes (z : Str) (f : FT) : Prop := (∃ y, (y = 70 ∨ y = 72 ∨ y = 73) ∧ (parF z).2 = ⟨y, 0, 0⟩) ∨ (parF z = (f, flt0) ∧ chkF f = 0)
theorem comes {z : Str} {K : List Ky} {f : FT} (hz : Lx z K) (h : OkF K f []) : Comes z f := by
  by_cases hl : 4096 < z.length
  · exact .inl ⟨70, .inl rfl, parF_long hl⟩
  · have hl : z.length ≤ 4096 := by omega
    have hp := parF_of hl hz h
    have hr := readF_of hl hz h
    have hs : okSize (chkF f) := by
      have := chkF_size (readF_right z (by rw [hr]; rfl))
      rwa [hr] at this
    by_cases hc : chkF f = 0
    · rw [if_neg (by simp [hc])] at hp
      exact .inr ⟨hp, hc⟩
    · rw [if_pos hc] at hp
      refine .inl ⟨chkF f, ?_, by rw [hp]⟩
      rcases hs with h | h | h
      · exact absurd h hc
      · exact .inr (.inl h)
      · exact .inr (.inr h)
/-- A text that is read. -/
structure Read (s : Str) (f : FT) (K : List Ky) : Prop where
  lx : Lx s K
  ok : OkF K f []
theorem read_of {s : Str} (h : (parF s).2 = flt0) : Read s (parF s).1 ((lexS s).1.map wk) := by
  have hg := parF_good (s := s) (by rw [h]; rfl)
  have hz : (lexS s).2.why = 0 := by
    apply Decidable.of_not_not
    intro hn
    have := parF_lex hn
    rw [h] at this
    exact hn (by rw [← this]; rfl)
  have hr : rs0 s = ⟨(lexS s).1, flt0⟩ := by rw [rs0, (lexS_zero hz).2.2]
  have hp := plc_flt (readF_plc hz) hg.2.2.1
  have : pF (endS s) (16 * (rs0 s).ws.length + 16) ⟨(lexS s).1, flt0⟩ = ((parF s).1, ⟨[], flt0⟩) := by
    rw [← hr, ← hg.2.2.2, ← hp, hg.2.1]; rfl
  refine ⟨Lx.of hz, ?_⟩
  have := okF_of this (by rw [hr]; show 16 * (lexS s).1.length + 8 ≤ 16 * (lexS s).1.length + 16; omega)
  simpa using this
/-- What stands in brackets is one. -/
theorem Read.brack {s : Str} {f : FT} {K : List Ky} (h : Read s f K) (M : List Ky) : OkU ((2, [40], 0) :: (K ++ (2, [41], 0) :: M)) f M := by
  have := okF_ext (M := (2, [41], 0) :: M) h.ok (.inr (by simp [sgK, sgF, tAdd, tSub, tMul, fAnd, fOr, fImp, fIff]))
  exact u_open this
theorem Read.lxb {s : Str} {f : FT} {K : List Ky} (h : Read s f K) {y : Str} {M : List Ky} (hy : Lx y M) : Lx (40 :: (s ++ 41 :: y)) ((2, [40], 0) :: (K ++ (2, [41], 0) :: M)) := Lx.open (h.lx.sep sep41 (Lx.close hy))

end Tab

/- The texts of ParseBrackets and ParseBinds, plain. -/
namespace Tab
open Go
set_option maxRecDepth 10000
set_option linter.unusedVariables false
set_option linter.unusedSimpArgs false
set_option linter.unusedSectionVars false

theorem Lx.lit {x : Str} {K : List Ky} (h1 : (lexW x 0 0).2.why = 0) (h2 : (lexW x 0 0).1.map wk = K) : Lx x K := ⟨(lexW x 0 0).1, Prod.ext rfl ((lexW_ok _ x rfl 0 0).2.2.1 h1), h2⟩
theorem up_A {K R : List Ky} {f : FT} (h : OkU K f R) (h1 : sgK R ≠ fAnd) : OkA K f R := a_intro h (al_stop h1)
theorem up_O {K R : List Ky} {f : FT} (h : OkA K f R) (h1 : sgK R ≠ fOr) : OkO K f R := o_intro h (ol_stop h1)
theorem up_I {K R : List Ky} {f : FT} (h : OkO K f R) (h1 : sgK R ≠ fImp) : OkI K f R := i_one h h1
theorem up_F {K R : List Ky} {f : FT} (h : OkI K f R) (h1 : sgK R ≠ fIff) : OkF K f R := f_intro h (fl_stop h1)
theorem sg_nil {s : Str} (h : s ≠ []) : sgK [] ≠ s := fun k => h k.symm
theorem fin_A {K : List Ky} {f : FT} (h : OkA K f []) : OkF K f [] := up_F (up_I (up_O h (by decide)) (by decide)) (by decide)
theorem fin_U {K : List Ky} {f : FT} (h : OkU K f []) : OkF K f [] := fin_A (up_A h (by decide))
theorem fin_O {K : List Ky} {f : FT} (h : OkO K f []) : OkF K f [] := up_F (up_I h (by decide)) (by decide)
theorem fin_I {K : List Ky} {f : FT} (h : OkI K f []) : OkF K f [] := up_F h (by decide)
section
variable {s t : Str} {f g : FT} {K L : List Ky} (hs : Read s f K) (ht : Read t g L)
include hs ht
theorem br1 : Comes (((([40] ++ s) ++ [41, 32, 97, 110, 100, 32, 40]) ++ t) ++ [41]) (twoF 3 f g) := by
  have hz : ((([40] ++ s) ++ [41, 32, 97, 110, 100, 32, 40]) ++ t) ++ [41] = 40 :: (s ++ 41 :: ([32, 97, 110, 100, 32] ++ 40 :: (t ++ 41 :: []))) := by simp
  rw [hz]
  exact comes (hs.lxb (Lx.sep sep40 (K := [kS fAnd]) (Lx.lit (by kernel_rfl) (by kernel_rfl)) (ht.lxb Lx.nil))) (fin_A (a_intro (hs.brack _) (al_step (ht.brack []) (al_stop (by first | decide | (simp [sgK, kS, fAnd, fOr, fImp, fIff]; done) | (show fIff ≠ _; decide) | (show fImp ≠ _; decide) | (show fOr ≠ _; decide) | (show fAnd ≠ _; decide) | (show fClose ≠ _; decide))))))
theorem br2 : Comes (((([40] ++ s) ++ [41, 32, 111, 114, 32, 40]) ++ t) ++ [41]) (twoF 4 f g) := by
  have hz : ((([40] ++ s) ++ [41, 32, 111, 114, 32, 40]) ++ t) ++ [41] = 40 :: (s ++ 41 :: ([32, 111, 114, 32] ++ 40 :: (t ++ 41 :: []))) := by simp
  rw [hz]
  exact comes (hs.lxb (Lx.sep sep40 (K := [kS fOr]) (Lx.lit (by kernel_rfl) (by kernel_rfl)) (ht.lxb Lx.nil))) (fin_O (o_intro (up_A (hs.brack _) (by first | decide | (simp [sgK, kS, fAnd, fOr, fImp, fIff]; done) | (show fIff ≠ _; decide) | (show fImp ≠ _; decide) | (show fOr ≠ _; decide) | (show fAnd ≠ _; decide) | (show fClose ≠ _; decide))) (ol_step (up_A (ht.brack []) (by first | decide | (simp [sgK, kS, fAnd, fOr, fImp, fIff]; done) | (show fIff ≠ _; decide) | (show fImp ≠ _; decide) | (show fOr ≠ _; decide) | (show fAnd ≠ _; decide) | (show fClose ≠ _; decide))) (ol_stop (by first | decide | (simp [sgK, kS, fAnd, fOr, fImp, fIff]; done) | (show fIff ≠ _; decide) | (show fImp ≠ _; decide) | (show fOr ≠ _; decide) | (show fAnd ≠ _; decide) | (show fClose ≠ _; decide))))))
theorem br3 : Comes (((([40] ++ s) ++ [41, 32, 45, 62, 32, 40]) ++ t) ++ [41]) (twoF 5 f g) := by
  have hz : ((([40] ++ s) ++ [41, 32, 45, 62, 32, 40]) ++ t) ++ [41] = 40 :: (s ++ 41 :: ([32, 45, 62, 32] ++ 40 :: (t ++ 41 :: []))) := by simp
  rw [hz]
  exact comes (hs.lxb (Lx.sep sep40 (K := [kS fImp]) (Lx.lit (by kernel_rfl) (by kernel_rfl)) (ht.lxb Lx.nil))) (fin_I (i_two (up_O (up_A (hs.brack _) (by first | decide | (simp [sgK, kS, fAnd, fOr, fImp, fIff]; done) | (show fIff ≠ _; decide) | (show fImp ≠ _; decide) | (show fOr ≠ _; decide) | (show fAnd ≠ _; decide) | (show fClose ≠ _; decide))) (by first | decide | (simp [sgK, kS, fAnd, fOr, fImp, fIff]; done) | (show fIff ≠ _; decide) | (show fImp ≠ _; decide) | (show fOr ≠ _; decide) | (show fAnd ≠ _; decide) | (show fClose ≠ _; decide))) (up_I (up_O (up_A (ht.brack []) (by first | decide | (simp [sgK, kS, fAnd, fOr, fImp, fIff]; done) | (show fIff ≠ _; decide) | (show fImp ≠ _; decide) | (show fOr ≠ _; decide) | (show fAnd ≠ _; decide) | (show fClose ≠ _; decide))) (by first | decide | (simp [sgK, kS, fAnd, fOr, fImp, fIff]; done) | (show fIff ≠ _; decide) | (show fImp ≠ _; decide) | (show fOr ≠ _; decide) | (show fAnd ≠ _; decide) | (show fClose ≠ _; decide))) (by first | decide | (simp [sgK, kS, fAnd, fOr, fImp, fIff]; done) | (show fIff ≠ _; decide) | (show fImp ≠ _; decide) | (show fOr ≠ _; decide) | (show fAnd ≠ _; decide) | (show fClose ≠ _; decide)))))
theorem br4 : Comes (((([40] ++ s) ++ [41, 60, 45, 62, 40]) ++ t) ++ [41]) (twoF 6 f g) := by
  have hz : ((([40] ++ s) ++ [41, 60, 45, 62, 40]) ++ t) ++ [41] = 40 :: (s ++ 41 :: ([60, 45, 62] ++ 40 :: (t ++ 41 :: []))) := by simp
  rw [hz]
  exact comes (hs.lxb (Lx.sep sep40 (K := [kS fIff]) (Lx.lit (by kernel_rfl) (by kernel_rfl)) (ht.lxb Lx.nil))) (f_intro (up_I (up_O (up_A (hs.brack _) (by first | decide | (simp [sgK, kS, fAnd, fOr, fImp, fIff]; done) | (show fIff ≠ _; decide) | (show fImp ≠ _; decide) | (show fOr ≠ _; decide) | (show fAnd ≠ _; decide) | (show fClose ≠ _; decide))) (by first | decide | (simp [sgK, kS, fAnd, fOr, fImp, fIff]; done) | (show fIff ≠ _; decide) | (show fImp ≠ _; decide) | (show fOr ≠ _; decide) | (show fAnd ≠ _; decide) | (show fClose ≠ _; decide))) (by first | decide | (simp [sgK, kS, fAnd, fOr, fImp, fIff]; done) | (show fIff ≠ _; decide) | (show fImp ≠ _; decide) | (show fOr ≠ _; decide) | (show fAnd ≠ _; decide) | (show fClose ≠ _; decide))) (fl_step (up_I (up_O (up_A (ht.brack []) (by first | decide | (simp [sgK, kS, fAnd, fOr, fImp, fIff]; done) | (show fIff ≠ _; decide) | (show fImp ≠ _; decide) | (show fOr ≠ _; decide) | (show fAnd ≠ _; decide) | (show fClose ≠ _; decide))) (by first | decide | (simp [sgK, kS, fAnd, fOr, fImp, fIff]; done) | (show fIff ≠ _; decide) | (show fImp ≠ _; decide) | (show fOr ≠ _; decide) | (show fAnd ≠ _; decide) | (show fClose ≠ _; decide))) (by first | decide | (simp [sgK, kS, fAnd, fOr, fImp, fIff]; done) | (show fIff ≠ _; decide) | (show fImp ≠ _; decide) | (show fOr ≠ _; decide) | (show fAnd ≠ _; decide) | (show fClose ≠ _; decide))) (fl_stop (by first | decide | (simp [sgK, kS, fAnd, fOr, fImp, fIff]; done) | (show fIff ≠ _; decide) | (show fImp ≠ _; decide) | (show fOr ≠ _; decide) | (show fAnd ≠ _; decide) | (show fClose ≠ _; decide)))))
omit ht
theorem br5 : Comes (([110, 111, 116, 32, 40] ++ s) ++ [41]) (oneF 2 [] f) := by
  have hz : ([110, 111, 116, 32, 40] ++ s) ++ [41] = [110, 111, 116, 32] ++ 40 :: (s ++ 41 :: []) := by simp
  rw [hz]
  exact comes (Lx.sep sep40 (K := [kS fNot]) (Lx.lit (by kernel_rfl) (by kernel_rfl)) (hs.lxb Lx.nil)) (fin_U (u_not (hs.brack [])))
theorem br6 : Comes (([101, 120, 32, 120, 44, 32, 121, 46, 32, 40] ++ s) ++ [41]) (oneF 7 [120] (oneF 7 [121] f)) := by
  have hz : ([101, 120, 32, 120, 44, 32, 121, 46, 32, 40] ++ s) ++ [41] = [101, 120, 32, 120, 44, 32, 121, 46, 32] ++ 40 :: (s ++ 41 :: []) := by simp
  rw [hz]
  exact comes (Lx.sep sep40 (K := [kS fEx, (0, [120], 0), kS fComma, (0, [121], 0), kS fDot]) (Lx.lit (by kernel_rfl) (by kernel_rfl)) (hs.lxb Lx.nil)) (fin_U (u_ex (q_more (q_last (hs.brack [])))))
theorem br7 : Comes (([97, 108, 108, 32, 122, 46, 40, 40] ++ s) ++ [41, 41]) (oneF 8 [122] f) := by
  have hz : ([97, 108, 108, 32, 122, 46, 40, 40] ++ s) ++ [41, 41] = [97, 108, 108, 32, 122, 46] ++ 40 :: (40 :: (s ++ 41 :: (41 :: []))) := by simp
  rw [hz]
  refine comes (Lx.sep sep40 (K := [kS fAll, (0, [122], 0), kS fDot]) (Lx.lit (by kernel_rfl) (by kernel_rfl)) (Lx.open (hs.lxb (Lx.close Lx.nil)))) (fin_U (u_all (q_last (u_open ?_))))
  exact up_F (up_I (up_O (up_A (hs.brack [kS fClose]) (by first | decide | (simp [sgK, kS, fAnd, fOr, fImp, fIff]; done) | (show fIff ≠ _; decide) | (show fImp ≠ _; decide) | (show fOr ≠ _; decide) | (show fAnd ≠ _; decide) | (show fClose ≠ _; decide))) (by first | decide | (simp [sgK, kS, fAnd, fOr, fImp, fIff]; done) | (show fIff ≠ _; decide) | (show fImp ≠ _; decide) | (show fOr ≠ _; decide) | (show fAnd ≠ _; decide) | (show fClose ≠ _; decide))) (by first | decide | (simp [sgK, kS, fAnd, fOr, fImp, fIff]; done) | (show fIff ≠ _; decide) | (show fImp ≠ _; decide) | (show fOr ≠ _; decide) | (show fAnd ≠ _; decide) | (show fClose ≠ _; decide))) (by first | decide | (simp [sgK, kS, fAnd, fOr, fImp, fIff]; done) | (show fIff ≠ _; decide) | (show fImp ≠ _; decide) | (show fOr ≠ _; decide) | (show fAnd ≠ _; decide) | (show fClose ≠ _; decide))
end

/-! ### What binds more -/
def bk (s : Str) : Str := ([40] ++ s) ++ [41]
theorem Read.next {s : Str} {f : FT} {K : List Ky} (h : Read s f K) {m y : Str} {M Y : List Ky} (hm : Lx m M) (hy : Lx (40 :: y) Y) : Lx (bk s ++ m ++ 40 :: y) ((2, [40], 0) :: (K ++ (2, [41], 0) :: (M ++ Y))) := by
  have hz : bk s ++ m ++ 40 :: y = 40 :: (s ++ 41 :: (m ++ 40 :: y)) := by simp [bk]
  rw [hz]
  exact h.lxb (Lx.sep sep40 hm hy)
theorem Read.last {s : Str} {f : FT} {K : List Ky} (h : Read s f K) : Lx (40 :: (s ++ [41])) ((2, [40], 0) :: (K ++ (2, [41], 0) :: [])) := h.lxb Lx.nil
section
variable {s t u : Str} {a b c : FT} {K L N : List Ky} (hs : Read s a K) (ht : Read t b L) (hu : Read u c N)
include hs ht
omit hs ht
theorem bi1 (hs : Read s a K) (ht : Read t b L) (hu : Read u c N) : Comes ((((bk s ++ [111, 114]) ++ bk t) ++ [97, 110, 100]) ++ bk u) (twoF 4 a (twoF 3 b c)) := by
  have hz : (((bk s ++ [111, 114]) ++ bk t) ++ [97, 110, 100]) ++ bk u = bk s ++ [111, 114] ++ 40 :: (t ++ 41 :: ([97, 110, 100] ++ 40 :: (u ++ [41]))) := by simp [bk]
  rw [hz]
  exact comes (hs.next (M := [kS fOr]) (Lx.lit (by kernel_rfl) (by kernel_rfl)) (ht.lxb (Lx.sep sep40 (K := [kS fAnd]) (Lx.lit (by kernel_rfl) (by kernel_rfl)) hu.last))) (fin_O (o_intro (up_A (hs.brack _) (by first | decide | (simp [sgK, kS, fAnd, fOr, fImp, fIff]; done) | (show fIff ≠ _; decide) | (show fImp ≠ _; decide) | (show fOr ≠ _; decide) | (show fAnd ≠ _; decide) | (show fClose ≠ _; decide))) (ol_step (a_intro (ht.brack _) (al_step (hu.brack _) (al_stop (by first | decide | (simp [sgK, kS, fAnd, fOr, fImp, fIff]; done) | (show fIff ≠ _; decide) | (show fImp ≠ _; decide) | (show fOr ≠ _; decide) | (show fAnd ≠ _; decide) | (show fClose ≠ _; decide))))) (ol_stop (by first | decide | (simp [sgK, kS, fAnd, fOr, fImp, fIff]; done) | (show fIff ≠ _; decide) | (show fImp ≠ _; decide) | (show fOr ≠ _; decide) | (show fAnd ≠ _; decide) | (show fClose ≠ _; decide))))))
theorem bi2 (hs : Read s a K) (ht : Read t b L) (hu : Read u c N) : Comes ((((bk s ++ [97, 110, 100]) ++ bk t) ++ [111, 114]) ++ bk u) (twoF 4 (twoF 3 a b) c) := by
  have hz : (((bk s ++ [97, 110, 100]) ++ bk t) ++ [111, 114]) ++ bk u = bk s ++ [97, 110, 100] ++ 40 :: (t ++ 41 :: ([111, 114] ++ 40 :: (u ++ [41]))) := by simp [bk]
  rw [hz]
  exact comes (hs.next (M := [kS fAnd]) (Lx.lit (by kernel_rfl) (by kernel_rfl)) (ht.lxb (Lx.sep sep40 (K := [kS fOr]) (Lx.lit (by kernel_rfl) (by kernel_rfl)) hu.last))) (fin_O (o_intro (a_intro (hs.brack _) (al_step (ht.brack _) (al_stop (by first | decide | (simp [sgK, kS, fAnd, fOr, fImp, fIff]; done) | (show fIff ≠ _; decide) | (show fImp ≠ _; decide) | (show fOr ≠ _; decide) | (show fAnd ≠ _; decide) | (show fClose ≠ _; decide))))) (ol_step (up_A (hu.brack _) (by first | decide | (simp [sgK, kS, fAnd, fOr, fImp, fIff]; done) | (show fIff ≠ _; decide) | (show fImp ≠ _; decide) | (show fOr ≠ _; decide) | (show fAnd ≠ _; decide) | (show fClose ≠ _; decide))) (ol_stop (by first | decide | (simp [sgK, kS, fAnd, fOr, fImp, fIff]; done) | (show fIff ≠ _; decide) | (show fImp ≠ _; decide) | (show fOr ≠ _; decide) | (show fAnd ≠ _; decide) | (show fClose ≠ _; decide))))))
theorem bi3 (hs : Read s a K) (ht : Read t b L) (hu : Read u c N) : Comes ((((bk s ++ [45, 62]) ++ bk t) ++ [111, 114]) ++ bk u) (twoF 5 a (twoF 4 b c)) := by
  have hz : (((bk s ++ [45, 62]) ++ bk t) ++ [111, 114]) ++ bk u = bk s ++ [45, 62] ++ 40 :: (t ++ 41 :: ([111, 114] ++ 40 :: (u ++ [41]))) := by simp [bk]
  rw [hz]
  exact comes (hs.next (M := [kS fImp]) (Lx.lit (by kernel_rfl) (by kernel_rfl)) (ht.lxb (Lx.sep sep40 (K := [kS fOr]) (Lx.lit (by kernel_rfl) (by kernel_rfl)) hu.last))) (fin_I (i_two (up_O (up_A (hs.brack _) (by first | decide | (simp [sgK, kS, fAnd, fOr, fImp, fIff]; done) | (show fIff ≠ _; decide) | (show fImp ≠ _; decide) | (show fOr ≠ _; decide) | (show fAnd ≠ _; decide) | (show fClose ≠ _; decide))) (by first | decide | (simp [sgK, kS, fAnd, fOr, fImp, fIff]; done) | (show fIff ≠ _; decide) | (show fImp ≠ _; decide) | (show fOr ≠ _; decide) | (show fAnd ≠ _; decide) | (show fClose ≠ _; decide))) (up_I (o_intro (up_A (ht.brack _) (by first | decide | (simp [sgK, kS, fAnd, fOr, fImp, fIff]; done) | (show fIff ≠ _; decide) | (show fImp ≠ _; decide) | (show fOr ≠ _; decide) | (show fAnd ≠ _; decide) | (show fClose ≠ _; decide))) (ol_step (up_A (hu.brack _) (by first | decide | (simp [sgK, kS, fAnd, fOr, fImp, fIff]; done) | (show fIff ≠ _; decide) | (show fImp ≠ _; decide) | (show fOr ≠ _; decide) | (show fAnd ≠ _; decide) | (show fClose ≠ _; decide))) (ol_stop (by first | decide | (simp [sgK, kS, fAnd, fOr, fImp, fIff]; done) | (show fIff ≠ _; decide) | (show fImp ≠ _; decide) | (show fOr ≠ _; decide) | (show fAnd ≠ _; decide) | (show fClose ≠ _; decide))))) (by first | decide | (simp [sgK, kS, fAnd, fOr, fImp, fIff]; done) | (show fIff ≠ _; decide) | (show fImp ≠ _; decide) | (show fOr ≠ _; decide) | (show fAnd ≠ _; decide) | (show fClose ≠ _; decide)))))
theorem bi4 (hs : Read s a K) (ht : Read t b L) (hu : Read u c N) : Comes ((((bk s ++ [60, 45, 62]) ++ bk t) ++ [45, 62]) ++ bk u) (twoF 6 a (twoF 5 b c)) := by
  have hz : (((bk s ++ [60, 45, 62]) ++ bk t) ++ [45, 62]) ++ bk u = bk s ++ [60, 45, 62] ++ 40 :: (t ++ 41 :: ([45, 62] ++ 40 :: (u ++ [41]))) := by simp [bk]
  rw [hz]
  exact comes (hs.next (M := [kS fIff]) (Lx.lit (by kernel_rfl) (by kernel_rfl)) (ht.lxb (Lx.sep sep40 (K := [kS fImp]) (Lx.lit (by kernel_rfl) (by kernel_rfl)) hu.last))) (f_intro (up_I (up_O (up_A (hs.brack _) (by first | decide | (simp [sgK, kS, fAnd, fOr, fImp, fIff]; done) | (show fIff ≠ _; decide) | (show fImp ≠ _; decide) | (show fOr ≠ _; decide) | (show fAnd ≠ _; decide) | (show fClose ≠ _; decide))) (by first | decide | (simp [sgK, kS, fAnd, fOr, fImp, fIff]; done) | (show fIff ≠ _; decide) | (show fImp ≠ _; decide) | (show fOr ≠ _; decide) | (show fAnd ≠ _; decide) | (show fClose ≠ _; decide))) (by first | decide | (simp [sgK, kS, fAnd, fOr, fImp, fIff]; done) | (show fIff ≠ _; decide) | (show fImp ≠ _; decide) | (show fOr ≠ _; decide) | (show fAnd ≠ _; decide) | (show fClose ≠ _; decide))) (fl_step (i_two (up_O (up_A (ht.brack _) (by first | decide | (simp [sgK, kS, fAnd, fOr, fImp, fIff]; done) | (show fIff ≠ _; decide) | (show fImp ≠ _; decide) | (show fOr ≠ _; decide) | (show fAnd ≠ _; decide) | (show fClose ≠ _; decide))) (by first | decide | (simp [sgK, kS, fAnd, fOr, fImp, fIff]; done) | (show fIff ≠ _; decide) | (show fImp ≠ _; decide) | (show fOr ≠ _; decide) | (show fAnd ≠ _; decide) | (show fClose ≠ _; decide))) (up_I (up_O (up_A (hu.brack _) (by first | decide | (simp [sgK, kS, fAnd, fOr, fImp, fIff]; done) | (show fIff ≠ _; decide) | (show fImp ≠ _; decide) | (show fOr ≠ _; decide) | (show fAnd ≠ _; decide) | (show fClose ≠ _; decide))) (by first | decide | (simp [sgK, kS, fAnd, fOr, fImp, fIff]; done) | (show fIff ≠ _; decide) | (show fImp ≠ _; decide) | (show fOr ≠ _; decide) | (show fAnd ≠ _; decide) | (show fClose ≠ _; decide))) (by first | decide | (simp [sgK, kS, fAnd, fOr, fImp, fIff]; done) | (show fIff ≠ _; decide) | (show fImp ≠ _; decide) | (show fOr ≠ _; decide) | (show fAnd ≠ _; decide) | (show fClose ≠ _; decide)))) (fl_stop (by first | decide | (simp [sgK, kS, fAnd, fOr, fImp, fIff]; done) | (show fIff ≠ _; decide) | (show fImp ≠ _; decide) | (show fOr ≠ _; decide) | (show fAnd ≠ _; decide) | (show fClose ≠ _; decide)))))
theorem bi5 (hs : Read s a K) (ht : Read t b L) (hu : Read u c N) : Comes ((((bk s ++ [45, 62]) ++ bk t) ++ [45, 62]) ++ bk u) (twoF 5 a (twoF 5 b c)) := by
  have hz : (((bk s ++ [45, 62]) ++ bk t) ++ [45, 62]) ++ bk u = bk s ++ [45, 62] ++ 40 :: (t ++ 41 :: ([45, 62] ++ 40 :: (u ++ [41]))) := by simp [bk]
  rw [hz]
  exact comes (hs.next (M := [kS fImp]) (Lx.lit (by kernel_rfl) (by kernel_rfl)) (ht.lxb (Lx.sep sep40 (K := [kS fImp]) (Lx.lit (by kernel_rfl) (by kernel_rfl)) hu.last))) (fin_I (i_two (up_O (up_A (hs.brack _) (by first | decide | (simp [sgK, kS, fAnd, fOr, fImp, fIff]; done) | (show fIff ≠ _; decide) | (show fImp ≠ _; decide) | (show fOr ≠ _; decide) | (show fAnd ≠ _; decide) | (show fClose ≠ _; decide))) (by first | decide | (simp [sgK, kS, fAnd, fOr, fImp, fIff]; done) | (show fIff ≠ _; decide) | (show fImp ≠ _; decide) | (show fOr ≠ _; decide) | (show fAnd ≠ _; decide) | (show fClose ≠ _; decide))) (i_two (up_O (up_A (ht.brack _) (by first | decide | (simp [sgK, kS, fAnd, fOr, fImp, fIff]; done) | (show fIff ≠ _; decide) | (show fImp ≠ _; decide) | (show fOr ≠ _; decide) | (show fAnd ≠ _; decide) | (show fClose ≠ _; decide))) (by first | decide | (simp [sgK, kS, fAnd, fOr, fImp, fIff]; done) | (show fIff ≠ _; decide) | (show fImp ≠ _; decide) | (show fOr ≠ _; decide) | (show fAnd ≠ _; decide) | (show fClose ≠ _; decide))) (up_I (up_O (up_A (hu.brack _) (by first | decide | (simp [sgK, kS, fAnd, fOr, fImp, fIff]; done) | (show fIff ≠ _; decide) | (show fImp ≠ _; decide) | (show fOr ≠ _; decide) | (show fAnd ≠ _; decide) | (show fClose ≠ _; decide))) (by first | decide | (simp [sgK, kS, fAnd, fOr, fImp, fIff]; done) | (show fIff ≠ _; decide) | (show fImp ≠ _; decide) | (show fOr ≠ _; decide) | (show fAnd ≠ _; decide) | (show fClose ≠ _; decide))) (by first | decide | (simp [sgK, kS, fAnd, fOr, fImp, fIff]; done) | (show fIff ≠ _; decide) | (show fImp ≠ _; decide) | (show fOr ≠ _; decide) | (show fAnd ≠ _; decide) | (show fClose ≠ _; decide))))))
theorem bi6 (hs : Read s a K) (ht : Read t b L) (hu : Read u c N) : Comes ((((bk s ++ [97, 110, 100]) ++ bk t) ++ [97, 110, 100]) ++ bk u) (twoF 3 (twoF 3 a b) c) := by
  have hz : (((bk s ++ [97, 110, 100]) ++ bk t) ++ [97, 110, 100]) ++ bk u = bk s ++ [97, 110, 100] ++ 40 :: (t ++ 41 :: ([97, 110, 100] ++ 40 :: (u ++ [41]))) := by simp [bk]
  rw [hz]
  exact comes (hs.next (M := [kS fAnd]) (Lx.lit (by kernel_rfl) (by kernel_rfl)) (ht.lxb (Lx.sep sep40 (K := [kS fAnd]) (Lx.lit (by kernel_rfl) (by kernel_rfl)) hu.last))) (fin_A (a_intro (hs.brack _) (al_step (ht.brack _) (al_step (hu.brack _) (al_stop (by first | decide | (simp [sgK, kS, fAnd, fOr, fImp, fIff]; done) | (show fIff ≠ _; decide) | (show fImp ≠ _; decide) | (show fOr ≠ _; decide) | (show fAnd ≠ _; decide) | (show fClose ≠ _; decide)))))))
theorem bi7 (hs : Read s a K) (ht : Read t b L) (hu : Read u c N) : Comes ((((bk s ++ [60, 45, 62]) ++ bk t) ++ [60, 45, 62]) ++ bk u) (twoF 6 (twoF 6 a b) c) := by
  have hz : (((bk s ++ [60, 45, 62]) ++ bk t) ++ [60, 45, 62]) ++ bk u = bk s ++ [60, 45, 62] ++ 40 :: (t ++ 41 :: ([60, 45, 62] ++ 40 :: (u ++ [41]))) := by simp [bk]
  rw [hz]
  exact comes (hs.next (M := [kS fIff]) (Lx.lit (by kernel_rfl) (by kernel_rfl)) (ht.lxb (Lx.sep sep40 (K := [kS fIff]) (Lx.lit (by kernel_rfl) (by kernel_rfl)) hu.last))) (f_intro (up_I (up_O (up_A (hs.brack _) (by first | decide | (simp [sgK, kS, fAnd, fOr, fImp, fIff]; done) | (show fIff ≠ _; decide) | (show fImp ≠ _; decide) | (show fOr ≠ _; decide) | (show fAnd ≠ _; decide) | (show fClose ≠ _; decide))) (by first | decide | (simp [sgK, kS, fAnd, fOr, fImp, fIff]; done) | (show fIff ≠ _; decide) | (show fImp ≠ _; decide) | (show fOr ≠ _; decide) | (show fAnd ≠ _; decide) | (show fClose ≠ _; decide))) (by first | decide | (simp [sgK, kS, fAnd, fOr, fImp, fIff]; done) | (show fIff ≠ _; decide) | (show fImp ≠ _; decide) | (show fOr ≠ _; decide) | (show fAnd ≠ _; decide) | (show fClose ≠ _; decide))) (fl_step (up_I (up_O (up_A (ht.brack _) (by first | decide | (simp [sgK, kS, fAnd, fOr, fImp, fIff]; done) | (show fIff ≠ _; decide) | (show fImp ≠ _; decide) | (show fOr ≠ _; decide) | (show fAnd ≠ _; decide) | (show fClose ≠ _; decide))) (by first | decide | (simp [sgK, kS, fAnd, fOr, fImp, fIff]; done) | (show fIff ≠ _; decide) | (show fImp ≠ _; decide) | (show fOr ≠ _; decide) | (show fAnd ≠ _; decide) | (show fClose ≠ _; decide))) (by first | decide | (simp [sgK, kS, fAnd, fOr, fImp, fIff]; done) | (show fIff ≠ _; decide) | (show fImp ≠ _; decide) | (show fOr ≠ _; decide) | (show fAnd ≠ _; decide) | (show fClose ≠ _; decide))) (fl_step (up_I (up_O (up_A (hu.brack _) (by first | decide | (simp [sgK, kS, fAnd, fOr, fImp, fIff]; done) | (show fIff ≠ _; decide) | (show fImp ≠ _; decide) | (show fOr ≠ _; decide) | (show fAnd ≠ _; decide) | (show fClose ≠ _; decide))) (by first | decide | (simp [sgK, kS, fAnd, fOr, fImp, fIff]; done) | (show fIff ≠ _; decide) | (show fImp ≠ _; decide) | (show fOr ≠ _; decide) | (show fAnd ≠ _; decide) | (show fClose ≠ _; decide))) (by first | decide | (simp [sgK, kS, fAnd, fOr, fImp, fIff]; done) | (show fIff ≠ _; decide) | (show fImp ≠ _; decide) | (show fOr ≠ _; decide) | (show fAnd ≠ _; decide) | (show fClose ≠ _; decide))) (fl_stop (by first | decide | (simp [sgK, kS, fAnd, fOr, fImp, fIff]; done) | (show fIff ≠ _; decide) | (show fImp ≠ _; decide) | (show fOr ≠ _; decide) | (show fAnd ≠ _; decide) | (show fClose ≠ _; decide))))))
theorem bi8 (hs : Read s a K) (ht : Read t b L) : Comes ((([110, 111, 116] ++ bk s) ++ [97, 110, 100]) ++ bk t) (twoF 3 (oneF 2 [] a) b) := by
  have hz : (([110, 111, 116] ++ bk s) ++ [97, 110, 100]) ++ bk t = [110, 111, 116] ++ 40 :: (s ++ 41 :: ([97, 110, 100] ++ 40 :: (t ++ [41]))) := by simp [bk]
  rw [hz]
  exact comes (Lx.sep sep40 (K := [kS fNot]) (Lx.lit (by kernel_rfl) (by kernel_rfl)) (hs.lxb (Lx.sep sep40 (K := [kS fAnd]) (Lx.lit (by kernel_rfl) (by kernel_rfl)) ht.last))) (fin_A (a_intro (u_not (hs.brack _)) (al_step (ht.brack _) (al_stop (by first | decide | (simp [sgK, kS, fAnd, fOr, fImp, fIff]; done) | (show fIff ≠ _; decide) | (show fImp ≠ _; decide) | (show fOr ≠ _; decide) | (show fAnd ≠ _; decide) | (show fClose ≠ _; decide))))))
theorem bi9 (hs : Read s a K) (ht : Read t b L) : Comes ((([101, 120, 32, 120, 46] ++ bk s) ++ [111, 114]) ++ bk t) (twoF 4 (oneF 7 [120] a) b) := by
  have hz : (([101, 120, 32, 120, 46] ++ bk s) ++ [111, 114]) ++ bk t = [101, 120, 32, 120, 46] ++ 40 :: (s ++ 41 :: ([111, 114] ++ 40 :: (t ++ [41]))) := by simp [bk]
  rw [hz]
  exact comes (Lx.sep sep40 (K := [kS fEx, (0, [120], 0), kS fDot]) (Lx.lit (by kernel_rfl) (by kernel_rfl)) (hs.lxb (Lx.sep sep40 (K := [kS fOr]) (Lx.lit (by kernel_rfl) (by kernel_rfl)) ht.last))) (fin_O (o_intro (up_A (u_ex (q_last (hs.brack _))) (by first | decide | (simp [sgK, kS, fAnd, fOr, fImp, fIff]; done) | (show fIff ≠ _; decide) | (show fImp ≠ _; decide) | (show fOr ≠ _; decide) | (show fAnd ≠ _; decide) | (show fClose ≠ _; decide))) (ol_step (up_A (ht.brack _) (by first | decide | (simp [sgK, kS, fAnd, fOr, fImp, fIff]; done) | (show fIff ≠ _; decide) | (show fImp ≠ _; decide) | (show fOr ≠ _; decide) | (show fAnd ≠ _; decide) | (show fClose ≠ _; decide))) (ol_stop (by first | decide | (simp [sgK, kS, fAnd, fOr, fImp, fIff]; done) | (show fIff ≠ _; decide) | (show fImp ≠ _; decide) | (show fOr ≠ _; decide) | (show fAnd ≠ _; decide) | (show fClose ≠ _; decide))))))
end

end Tab

/- The reader's own steps. -/
namespace Tab
open Go Go.Proofs
set_option maxRecDepth 10000
set_option linter.unusedVariables false
set_option linter.unusedSimpArgs false
set_option linter.unusedSectionVars false
set_option maxHeartbeats 1000000

def rdC (e : Nat × Nat) (r : Rs) : List AV := [aWs .any r.ws, .int .i64 e.1, .int .i64 e.2, .int .i64 r.fl.why, .int .i64 r.fl.at', .int .i64 r.fl.ch]
def rdH (e : Nat × Nat) (r : Rs) : List Blk := [.cells 0 (rdC e r)]
theorem rdC_bel (e : Nat × Nat) (r : Rs) (n : Nat) : bels n (rdC e r) := by
  simp only [rdC, bels, AV.bel]
  exact ⟨AV.closed_bel _ (aWs_closed _ _), trivial, trivial, trivial, trivial, trivial, trivial⟩
theorem rdH_bel (e : Nat × Nat) (r : Rs) (n : Nat) : blksBel n (rdH e r) := ⟨rdC_bel e r n, trivial⟩

theorem rd_bad (e : Nat × Nat) (r : Rs) : ACall Tryd.prog 42 [.ref 0 0 0] (rdH e r) fun o H' => o = .ret (.bool (decide (r.fl.why ≠ 0))) ∧ H' = rdH e r := by
  refine ACall.of_sw 9 Tryd.func42 rfl Tryd.ntmps42 (by kernel_rfl) (Nat.le_of_ble_eq_true (by kernel_rfl)) ?_; refine SW.of_vc ?_
  repeat first | refine opsStep ?_ | refine codeStep ?_ | refine drawStep ?_
  exact finR (l := [(2, .bool (decide (r.fl.why ≠ 0)))]) (v := .bool (decide (r.fl.why ≠ 0))) (H₁ := rdH e r) ⟨(by kernel_rfl), trivial⟩ (by kernel_rfl) (Ent.refl _ _ _) (by kernel_rfl) ⟨rfl, rfl⟩

theorem rd_sign (e : Nat × Nat) (r : Rs) : ACall Tryd.prog 89 [.ref 0 0 0] (rdH e r) fun o H' => o = .ret (.str r.sign) ∧ H' = rdH e r := by
  rcases r with ⟨ws, fl⟩
  cases ws with
  | nil =>
    refine ACall.of_sw 26 Tryd.func89 rfl Tryd.ntmps89 (by kernel_rfl) (Nat.le_of_ble_eq_true (by kernel_rfl)) ?_; refine SW.of_vc ?_
    repeat first | refine opsStep ?_ | refine codeStep ?_ | refine drawStep ?_
    exact finR (l := [(2, .str [])]) (v := .str []) (H₁ := rdH e ⟨[], fl⟩) ⟨(by kernel_rfl), trivial⟩ (by kernel_rfl) (Ent.refl _ _ _) (by kernel_rfl) ⟨rfl, rfl⟩
  | cons w l =>
    have hs : Rs.sign ⟨w :: l, fl⟩ = if w.kind = 2 then w.text else [] := rfl
    rw [hs]
    refine ACall.of_sw 26 Tryd.func89 rfl Tryd.ntmps89 (by kernel_rfl) (Nat.le_of_ble_eq_true (by kernel_rfl)) ?_; refine SW.of_vc ?_
    repeat first | refine opsStep ?_ | refine codeStep ?_ | refine drawStep ?_
    refine decB_dec (fun h => ?_) (fun h => ?_)
    · clear h
      repeat first | refine opsStep ?_ | refine codeStep ?_ | refine drawStep ?_
      refine guardE_of ⟨by decide, by show (0 : Int) < ((l.length + 1 : Nat) : Int); omega⟩ ?_
      repeat first | refine opsStep ?_ | refine codeStep ?_ | refine drawStep ?_
      refine decB_dec (fun hk => ?_) (fun hk => ?_)
      · have hk : w.kind = 2 := hk
        repeat first | refine opsStep ?_ | refine codeStep ?_ | refine drawStep ?_
        refine guardE_of ⟨by decide, by show (0 : Int) < ((l.length + 1 : Nat) : Int); omega⟩ ?_
        repeat first | refine opsStep ?_ | refine codeStep ?_ | refine drawStep ?_
        exact finR (l := [(2, .str w.text)]) (v := .str w.text) (H₁ := rdH e ⟨w :: l, fl⟩) ⟨(by kernel_rfl), trivial⟩ (by kernel_rfl) (Ent.refl _ _ _) (by kernel_rfl) ⟨by rw [if_pos hk], rfl⟩
      · have hk : ¬ w.kind = 2 := hk
        repeat first | refine opsStep ?_ | refine codeStep ?_ | refine drawStep ?_
        exact finR (l := [(2, .str [])]) (v := .str []) (H₁ := rdH e ⟨w :: l, fl⟩) ⟨(by kernel_rfl), trivial⟩ (by kernel_rfl) (Ent.refl _ _ _) (by kernel_rfl) ⟨by rw [if_neg hk], rfl⟩
    · exact absurd (show ((l.length + 1 : Nat) : Int) > 0 by omega) h

theorem rd_wrong (e : Nat × Nat) (r : Rs) (y : Int) : ACall Tryd.prog 64 [.ref 0 0 0, .int .i64 y] (rdH e r) fun o H' => o = .ret (.tup []) ∧ H' = rdH e (r.wrong e y) := by
  unfold Rs.wrong
  refine ACall.of_sw 36 Tryd.func64 rfl Tryd.ntmps64 (by kernel_rfl) (Nat.le_of_ble_eq_true (by kernel_rfl)) ?_; refine SW.of_vc ?_
  repeat first | refine opsStep ?_ | refine codeStep ?_ | refine drawStep ?_
  refine decB_dec (fun h => ?_) (fun h => ?_)
  · have h : r.fl.why ≠ 0 := h
    rw [if_pos h]
    repeat first | refine opsStep ?_ | refine codeStep ?_ | refine drawStep ?_
    exact finR (l := []) (v := .tup []) (H₁ := rdH e r) trivial (by kernel_rfl) (Ent.refl _ _ _) (by kernel_rfl) ⟨rfl, rfl⟩
  · have h : ¬ r.fl.why ≠ 0 := h
    rw [if_neg h]
    rcases r with ⟨ws, fl⟩
    cases ws with
    | nil =>
      repeat first | refine opsStep ?_ | refine codeStep ?_ | refine drawStep ?_
      exact finR (l := []) (v := .tup []) (H₁ := rdH e ⟨[], ⟨y, e.1, e.2⟩⟩) trivial (by kernel_rfl) (Ent.refl _ _ _) (by kernel_rfl) ⟨rfl, rfl⟩
    | cons w l =>
      repeat first | refine opsStep ?_ | refine codeStep ?_ | refine drawStep ?_
      refine decB_dec (fun h2 => ?_) (fun h2 => ?_)
      · clear h2
        repeat first | refine opsStep ?_ | refine codeStep ?_ | refine drawStep ?_
        refine guardE_of ⟨by decide, by show (0 : Int) < ((l.length + 1 : Nat) : Int); omega⟩ ?_
        repeat first | refine opsStep ?_ | refine codeStep ?_ | refine drawStep ?_
        exact finR (l := []) (v := .tup []) (H₁ := rdH e ⟨w :: l, ⟨y, w.at', w.ch⟩⟩) trivial (by kernel_rfl) (Ent.refl _ _ _) (by kernel_rfl) ⟨rfl, rfl⟩
      · exact absurd (show ((l.length + 1 : Nat) : Int) > 0 by omega) h2

theorem wds_cut (w : Wd) (l : List Wd) : ((wdsC (w :: l)).drop (1 * 5)).take ((l.length + 1 - 1) * 5) = wdsC l := by
  have h : wdsC (w :: l) = wdC w ++ wdsC l := by simp [wdsC]
  rw [h, List.drop_left' (by rfl), List.take_of_length_le (by rw [wdsC_len]; omega)]

theorem rd_take (e : Nat × Nat) (r : Rs) (L : List Str) (hL : L.length < 100) (h0 : [] ∉ L) :
    ACall Tryd.prog 62 [.ref 0 0 0, aSs .any L] (rdH e r) fun o H' => o = .ret (.str (r.take L).1) ∧ H' = rdH e (r.take L).2 := by
  have hsg := rd_sign e r
  unfold Rs.take
  refine ACall.of_sw 29 Tryd.func62 rfl Tryd.ntmps62 (by kernel_rfl) (Nat.le_of_ble_eq_true (by kernel_rfl)) ?_; refine SW.of_vc ?_
  repeat first | refine opsStep ?_ | refine codeStep ?_ | refine drawStep ?_
  refine callH (rd_bad e r) ?_
  repeat first | refine opsStep ?_ | refine codeStep ?_ | refine drawStep ?_
  refine decB_dec (fun h => ?_) (fun h => ?_)
  · have h : r.fl.why ≠ 0 := h
    have hE : (if r.fl.why = 0 ∧ r.sign ∈ L then (r.sign, (⟨r.ws.tail, r.fl⟩ : Rs)) else ([], r)) = ([], r) := if_neg fun k => h k.1
    repeat first | refine opsStep ?_ | refine codeStep ?_ | refine drawStep ?_
    exact finR (l := [(4, .str [])]) (v := .str []) (H₁ := rdH e r) ⟨(by kernel_rfl), trivial⟩ (by kernel_rfl) (Ent.refl _ _ _) (by kernel_rfl) ⟨by rw [hE], by rw [hE]⟩
  · have h : r.fl.why = 0 := Decidable.of_not_not h
    repeat first | refine opsStep ?_ | refine codeStep ?_ | refine drawStep ?_
    refine loopE_of (ι := {i : Nat // i ≤ L.length ∧ r.sign ∉ L.take i}) (fun i => (fr [(0, .ref 0 0 0), (9, aSs .any L), (10, .int .i64 L.length), (11, .int .i64 i.1)], rdH e r)) (fun i => L.length - i.1)
      ⟨0, Nat.zero_le _, by simp⟩ (Ent.fr' ⟨(by kernel_rfl), (by kernel_rfl), (by kernel_rfl), (by kernel_rfl), trivial⟩ (by kernel_rfl)) ?_
    rintro ⟨i, hi, hn⟩
    repeat first | refine opsStep ?_ | refine codeStep ?_ | refine drawStep ?_
    refine decB_dec (fun hlt => ?_) (fun hlt => ?_)
    · have hi' : i < L.length := by have : (i : Int) < L.length := hlt; omega
      clear hlt
      have hm : L[i]'hi' ∈ L := List.getElem_mem hi'
      have hld : (L.map AV.str)[i]? = some (.str (L[i]'hi')) := by simp [hi']
      have hn' : r.sign ≠ L[i]'hi' → r.sign ∉ L.take (i + 1) := fun hne hm => by
        rw [List.take_succ_eq_append_getElem hi'] at hm
        rcases List.mem_append.1 hm with hm | hm
        · exact hn hm
        · exact hne (by simpa using hm)
      generalize L[i]'hi' = x at *
      repeat first | refine opsStep ?_ | refine codeStep ?_ | refine drawStep ?_
      refine guardE_of ⟨by omega, by show (i : Int) < L.length; omega⟩ ?_
      repeat first | refine opsStep ?_ | refine codeStep ?_ | refine drawStep ?_
      refine optE_of (c := AV.str x) (by show ((L.map AV.str).drop ((i : Int).toNat * 1))[0]? = _; rw [List.getElem?_drop, Int.toNat_natCast]; simpa using hld) ?_
      repeat first | refine opsStep ?_ | refine codeStep ?_ | refine drawStep ?_
      refine callH hsg ?_
      repeat first | refine opsStep ?_ | refine codeStep ?_ | refine drawStep ?_
      refine decB_dec (fun hx => ?_) (fun hx => ?_)
      · have hx : r.sign = x := hx
        have hE : (if r.fl.why = 0 ∧ r.sign ∈ L then (r.sign, (⟨r.ws.tail, r.fl⟩ : Rs)) else ([], r)) = (x, ⟨r.ws.tail, r.fl⟩) := by rw [if_pos ⟨h, hx ▸ hm⟩, hx]
        have hx0 : x ≠ [] := fun h => h0 (h ▸ hm)
        rcases r with ⟨ws, fl⟩
        cases ws with
        | nil => exact absurd hx.symm hx0
        | cons w l =>
          have hcut := wds_cut w l
          repeat first | refine opsStep ?_ | refine codeStep ?_ | refine drawStep ?_
          refine guardE_of (by show (0 : Int) ≤ 1 ∧ (1 : Int) ≤ ((l.length + 1 : Nat) : Int) ∧ ((l.length + 1 : Nat) : Int) ≤ ((l.length + 1 : Nat) : Int); omega) ?_
          repeat first | refine opsStep ?_ | refine codeStep ?_ | refine drawStep ?_
          refine finR (l := [(4, .str x)]) (v := .str x) (H₁ := rdH e ⟨l, fl⟩) ⟨(by kernel_rfl), trivial⟩ (Eq.trans (b := [.cells 0 [.sl .any (((l.length + 1 : Nat) : Int).toNat - 1) (((wdsC (w :: l)).drop (1 * 5)).take ((((l.length + 1 : Nat) : Int).toNat - 1) * 5)), .int .i64 e.1, .int .i64 e.2, .int .i64 fl.why, .int .i64 fl.at', .int .i64 fl.ch]]) (by kernel_rfl) (by rw [Int.toNat_natCast, hcut]; rfl)) (Ent.refl _ _ _) (by kernel_rfl) ⟨by rw [hE], by rw [hE]; rfl⟩
      · have hx : r.sign ≠ x := hx
        repeat first | refine opsStep ?_ | refine codeStep ?_ | refine drawStep ?_
        exact ⟨⟨i + 1, hi', hn' hx⟩, (by show L.length - (i + 1) < L.length - i; omega), Ent.fr' ⟨(by kernel_rfl), (by kernel_rfl), (by kernel_rfl), inc_slot (i := i) (by omega), trivial⟩ (by kernel_rfl)⟩
    · have hi' : i = L.length := by have : ¬ (i : Int) < L.length := hlt; omega
      subst hi'
      rw [List.take_length] at hn
      have hE : (if r.fl.why = 0 ∧ r.sign ∈ L then (r.sign, (⟨r.ws.tail, r.fl⟩ : Rs)) else ([], r)) = ([], r) := if_neg fun k => hn k.2
      repeat first | refine opsStep ?_ | refine codeStep ?_ | refine drawStep ?_
      exact finR (l := [(4, .str [])]) (v := .str []) (H₁ := rdH e r) ⟨(by kernel_rfl), trivial⟩ (by kernel_rfl) (Ent.refl _ _ _) (by kernel_rfl) ⟨by rw [hE], by rw [hE]⟩

theorem rd_need (e : Nat × Nat) (r : Rs) (s : Str) (h0 : s ≠ []) : ACall Tryd.prog 124 [.ref 0 0 0, .str s] (rdH e r) fun o H' => o = .ret (.tup []) ∧ H' = rdH e (r.need e s) := by
  have ht := rd_take e r [s] (by simp) (by simpa using h0.symm)
  unfold Rs.need
  generalize r.take [s] = k at *
  refine ACall.of_sw 11 Tryd.func124 rfl Tryd.ntmps124 (by kernel_rfl) (Nat.le_of_ble_eq_true (by kernel_rfl)) ?_; refine SW.of_vc ?_
  repeat refine codeStep ?_
  iterate 2 refine opsStep ?_
  refine opsFrz ?_
  iterate 1 refine opsStep ?_
  refine callT (args := [.ref 0 0 0, aSs .any [s]]) ht [.fro 0 [.str s]] rfl rfl (by simp [bels, AV.bel, aSs, rdH]) (rdH_bel _ _ _) (rdH_bel _ _ _) (by simp [AV.bel, bels]) ?_
  repeat first | refine opsStep ?_ | refine codeStep ?_ | refine drawStep ?_
  refine decB_dec (fun h => ?_) (fun h => ?_)
  · have hE : (if k.1 = [] then k.2.wrong e 71 else k.2) = k.2.wrong e 71 := if_pos h
    have hw := rd_wrong e k.2 71
    repeat first | refine opsStep ?_ | refine codeStep ?_ | refine drawStep ?_
    refine callT (args := [.ref 0 0 0, .int .i64 71]) hw [.fro 0 [.str s]] rfl rfl (by simp [bels, AV.bel, rdH]) (rdH_bel _ _ _) (rdH_bel _ _ _) (by simp [AV.bel, bels]) ?_
    repeat first | refine opsStep ?_ | refine codeStep ?_ | refine drawStep ?_
    exact finR (l := []) (v := .tup []) (H₁ := rdH e (k.2.wrong e 71) ++ [.fro 0 [.str s]]) trivial (by kernel_rfl) (Ent.frD (l := []) trivial rfl (Nat.le_refl 1) trivial (rdH_bel _ _ _)) (by kernel_rfl) ⟨rfl, by rw [hE]⟩
  · have hE : (if k.1 = [] then k.2.wrong e 71 else k.2) = k.2 := if_neg h
    repeat first | refine opsStep ?_ | refine codeStep ?_ | refine drawStep ?_
    exact finR (l := []) (v := .tup []) (H₁ := rdH e k.2 ++ [.fro 0 [.str s]]) trivial (by kernel_rfl) (Ent.frD (l := []) trivial rfl (Nat.le_refl 1) trivial (rdH_bel _ _ _)) (by kernel_rfl) ⟨rfl, by rw [hE]⟩

def zW : List AV := [.int .i64 0, .str [], .int .i64 0, .int .i64 0, .int .i64 0]
theorem rd_word (e : Nat × Nat) (r : Rs) (k : Int) : ACall Tryd.prog 125 [.ref 0 0 0, .int .i64 k] (rdH e r) fun o H' => o = .ret (.agg (wdC (r.word e k).1)) ∧ H' = rdH e (r.word e k).2 := by
  refine ACall.drop ?_ (Nat.le_refl 1) (by simp only [AV.bel]; exact closeds_bel _ (wdC_closed _)) (rdH_bel _ _ _)
  have hwr := rd_wrong e r 71
  have hbd := rd_bad e r
  rcases r with ⟨ws, fl⟩
  cases ws with
  | nil =>
    have hE : Rs.word e ⟨[], fl⟩ k = (wd0, Rs.wrong e ⟨[], fl⟩ 71) := by unfold Rs.word; rw [if_pos (.inr (.inl rfl))]
    refine ACall.of_sw 45 Tryd.func125 rfl Tryd.ntmps125 (by kernel_rfl) (Nat.le_of_ble_eq_true (by kernel_rfl)) ?_; refine SW.of_vc ?_
    repeat first | refine opsStep ?_ | refine codeStep ?_ | refine drawStep ?_
    refine callT (args := [.ref 0 0 0]) hbd [.cells 0 zW] rfl rfl (by simp [bels, AV.bel, rdH]) (rdH_bel _ _ _) (rdH_bel _ _ _) (by simp [AV.bel, bels]) ?_
    repeat first | refine opsStep ?_ | refine codeStep ?_ | refine drawStep ?_
    refine decB_dec (fun h => ?_) (fun h => ?_)
    · repeat first | refine opsStep ?_ | refine codeStep ?_ | refine drawStep ?_
      refine callT (args := [.ref 0 0 0, .int .i64 71]) hwr [.cells 0 zW] rfl rfl (by simp [bels, AV.bel, rdH]) (rdH_bel _ _ _) (rdH_bel _ _ _) (by simp [AV.bel, bels]) ?_
      repeat first | refine opsStep ?_ | refine codeStep ?_ | refine drawStep ?_
      exact finC [.cells 0 zW] (by kernel_rfl) (v' := .agg (wdC wd0)) (by rw [hE]) (by rw [hE]; rfl)
    · repeat first | refine opsStep ?_ | refine codeStep ?_ | refine drawStep ?_
      refine callT (args := [.ref 0 0 0, .int .i64 71]) hwr [.cells 0 zW] rfl rfl (by simp [bels, AV.bel, rdH]) (rdH_bel _ _ _) (rdH_bel _ _ _) (by simp [AV.bel, bels]) ?_
      repeat first | refine opsStep ?_ | refine codeStep ?_ | refine drawStep ?_
      exact finC [.cells 0 zW] (by kernel_rfl) (v' := .agg (wdC wd0)) (by rw [hE]) (by rw [hE]; rfl)
  | cons w l =>
    have hE0 : fl.why ≠ 0 → Rs.word e ⟨w :: l, fl⟩ k = (wd0, Rs.wrong e ⟨w :: l, fl⟩ 71) := fun h => by unfold Rs.word; rw [if_pos (.inl h)]
    have hE1 : w.kind ≠ k → Rs.word e ⟨w :: l, fl⟩ k = (wd0, Rs.wrong e ⟨w :: l, fl⟩ 71) := fun h => by unfold Rs.word; rw [if_pos (.inr (.inr h))]
    have hE2 : fl.why = 0 → w.kind = k → Rs.word e ⟨w :: l, fl⟩ k = (w, ⟨l, fl⟩) := fun h h' => by
      unfold Rs.word
      rw [if_neg (by rintro (h1 | h1 | h1)
                     · exact h1 h
                     · cases h1
                     · exact h1 h')]
      rfl
    have hcut := wds_cut w l
    refine ACall.of_sw 45 Tryd.func125 rfl Tryd.ntmps125 (by kernel_rfl) (Nat.le_of_ble_eq_true (by kernel_rfl)) ?_; refine SW.of_vc ?_
    repeat first | refine opsStep ?_ | refine codeStep ?_ | refine drawStep ?_
    refine callT (args := [.ref 0 0 0]) hbd [.cells 0 zW] rfl rfl (by simp [bels, AV.bel, rdH]) (rdH_bel _ _ _) (rdH_bel _ _ _) (by simp [AV.bel, bels]) ?_
    repeat first | refine opsStep ?_ | refine codeStep ?_ | refine drawStep ?_
    refine decB_dec (fun h => ?_) (fun h => ?_)
    · have hE := hE0 h
      repeat first | refine opsStep ?_ | refine codeStep ?_ | refine drawStep ?_
      refine callT (args := [.ref 0 0 0, .int .i64 71]) hwr [.cells 0 zW] rfl rfl (by simp [bels, AV.bel, rdH]) (rdH_bel _ _ _) (rdH_bel _ _ _) (by simp [AV.bel, bels]) ?_
      repeat first | refine opsStep ?_ | refine codeStep ?_ | refine drawStep ?_
      exact finC [.cells 0 zW] (by kernel_rfl) (v' := .agg (wdC wd0)) (by rw [hE]) (by rw [hE]; rfl)
    · have h : fl.why = 0 := Decidable.of_not_not h
      repeat first | refine opsStep ?_ | refine codeStep ?_ | refine drawStep ?_
      refine guardE_of ⟨by decide, by show (0 : Int) < ((l.length + 1 : Nat) : Int); omega⟩ ?_
      repeat first | refine opsStep ?_ | refine codeStep ?_ | refine drawStep ?_
      refine decB_dec (fun hk => ?_) (fun hk => ?_)
      · have hE := hE1 hk
        repeat first | refine opsStep ?_ | refine codeStep ?_ | refine drawStep ?_
        refine callT (args := [.ref 0 0 0, .int .i64 71]) hwr [.cells 0 zW] rfl rfl (by simp [bels, AV.bel, rdH]) (rdH_bel _ _ _) (rdH_bel _ _ _) (by simp [AV.bel, bels]) ?_
        repeat first | refine opsStep ?_ | refine codeStep ?_ | refine drawStep ?_
        exact finC [.cells 0 zW] (by kernel_rfl) (v' := .agg (wdC wd0)) (by rw [hE]) (by rw [hE]; rfl)
      · have hE := hE2 h (Decidable.of_not_not hk)
        repeat first | refine opsStep ?_ | refine codeStep ?_ | refine drawStep ?_
        refine guardE_of ⟨by decide, by show (0 : Int) < ((l.length + 1 : Nat) : Int); omega⟩ ?_
        repeat first | refine opsStep ?_ | refine codeStep ?_ | refine drawStep ?_
        refine guardE_of (by show (0 : Int) ≤ 1 ∧ (1 : Int) ≤ ((l.length + 1 : Nat) : Int) ∧ ((l.length + 1 : Nat) : Int) ≤ ((l.length + 1 : Nat) : Int); omega) ?_
        repeat first | refine opsStep ?_ | refine codeStep ?_ | refine drawStep ?_
        exact finC (H₁ := rdH e (Rs.word e ⟨w :: l, fl⟩ k).2) [.cells 0 (wdC w), .cells 0 (wdC w)] (v' := .agg (wdC w)) (by kernel_rfl) (by rw [hE]) (Eq.trans (b := [.cells 0 [.sl .any (((l.length + 1 : Nat) : Int).toNat - 1) (((wdsC (w :: l)).drop (1 * 5)).take ((((l.length + 1 : Nat) : Int).toNat - 1) * 5)), .int .i64 e.1, .int .i64 e.2, .int .i64 fl.why, .int .i64 fl.at', .int .i64 fl.ch], .cells 0 (wdC w), .cells 0 (wdC w)]) (by kernel_rfl) (by rw [Int.toNat_natCast, hcut, hE]; rfl))

end Tab

/- The reader of terms. -/
namespace Tab
open Go Go.Proofs
set_option maxRecDepth 10000
set_option linter.unusedVariables false
set_option linter.unusedSimpArgs false
set_option linter.unusedSectionVars false
set_option maxHeartbeats 1000000

def tcl (t : TT) : List AV := [.int .i64 t.op, .int .i64 t.num, .str t.name, .sl t.k t.args.length (ttsC t.args)]
theorem tcl_closed (t : TT) : closeds (tcl t) := by have := TT.cells_closed t; rwa [TT.cells_eq] at this
theorem tcl_bel (n : Nat) (t : TT) : bels n (tcl t) := closeds_bel _ (tcl_closed t)
theorem tcl_two (op : Int) (a b : TT) : tcl (.mk op 0 [] .any [a, b]) = [.int .i64 op, .int .i64 0, .str [], .sl .any 2 (tcl a ++ tcl b)] := by
  simp only [tcl, TT.op, TT.num, TT.name, TT.k, TT.args, ttsC, TT.cells_eq, List.append_nil]; rfl
theorem tcl_one (op : Int) (a : TT) : tcl (.mk op 0 [] .any [a]) = [.int .i64 op, .int .i64 0, .str [], .sl .any 1 (tcl a)] := by
  simp only [tcl, TT.op, TT.num, TT.name, TT.k, TT.args, ttsC, TT.cells_eq, List.append_nil]; rfl
theorem tcl_nil (op num : Int) (s : Str) : tcl (.mk op num s .nil []) = [.int .i64 op, .int .i64 num, .str s, .sl .nil 0 []] := by
  simp only [tcl, TT.op, TT.num, TT.name, TT.k, TT.args, ttsC]; rfl
def zT : List AV := [.int .i64 0, .int .i64 0, .str [], .sl .nil 0 []]
theorem zT_bel (n : Nat) : bels n zT := by simp [zT, bels, AV.bel]
theorem rdX_bel {n : Nat} (e : Nat × Nat) (r : Rs) {X : List Blk} (h : blksBel n X) : blksBel n (rdH e r ++ X) := ⟨rdC_bel e r n, h⟩

/-- A reading function's contract. -/
def TermC (f : FuncId) (e : Nat × Nat) (r : Rs) (x : TT × Rs) : Prop := ACall Tryd.prog f [.ref 0 0 0] (rdH e r) fun o H' => o = .ret (.agg (tcl x.1)) ∧ H' = rdH e x.2
theorem TermC.of {f : FuncId} {e : Nat × Nat} {r : Rs} {x : TT × Rs} (h : ACall Tryd.prog f [.ref 0 0 0] (rdH e r) fun o H' => ∃ X, o = .ret (.agg (tcl x.1)) ∧ H' = rdH e x.2 ++ X) : TermC f e r x :=
  ACall.drop h (Nat.le_refl 1) (by simp only [AV.bel]; exact tcl_bel _ _) (rdH_bel _ _ _)

/-- In a drawn region: a reading call. -/

theorem w_product (e : Nat × Nat) (n : Nat) (hF : ∀ r : Rs, 16 * r.ws.length + 1 ≤ n → TermC 103 e r (pFa e n r)) (hFm : ∀ m, m < n → ∀ r : Rs, 16 * r.ws.length + 1 ≤ m → TermC 103 e r (pFa e m r)) (r : Rs) (hn : 16 * r.ws.length + 2 ≤ n + 1) : TermC 74 e r (pP e (n + 1) r) := by
  refine TermC.of ?_
  rw [pP]
  have hf := hF r (by omega)
  have hle := (terms_le e n).2.2.2.2 r
  generalize pFa e n r = x0 at *
  rcases x0 with ⟨t0, s0⟩
  simp only at hle hf ⊢
  have hn0 : 16 * s0.ws.length + 1 ≤ n := by omega
  clear hn hle
  generalize hfin : pPL e n (t0, s0) = fin at *
  refine ACall.of_sw 16 Tryd.func74 rfl Tryd.ntmps74 (by kernel_rfl) (Nat.le_of_ble_eq_true (by kernel_rfl)) ?_; refine SW.of_vc ?_
  repeat first | refine opsStep ?_ | refine codeStep ?_ | refine drawStep ?_
  refine callT (args := [.ref 0 0 0]) hf [.cells 0 zT] rfl rfl (by simp [bels, AV.bel, rdH]) (rdH_bel _ _ _) (rdH_bel _ _ _) (by simp only [AV.bel]; exact tcl_bel _ _) ?_
  repeat first | refine opsStep ?_ | refine codeStep ?_ | refine drawStep ?_
  refine loopE_of (ι := {x : (TT × Rs) × Nat // x.2 ≤ n ∧ pPL e x.2 x.1 = fin ∧ 16 * x.1.2.ws.length + 1 ≤ x.2}) (fun x => (fr [(0, .ref 0 0 0), (2, .ref 1 0 0), (3, .ref 2 0 0)], rdH e x.1.1.2 ++ [.cells 0 zT, .cells 0 (tcl x.1.1.1)])) (fun x => x.1.2)
    ⟨((t0, s0), n), Nat.le_refl _, hfin, hn0⟩ (Ent.fr' ⟨(by kernel_rfl), (by kernel_rfl), (by kernel_rfl), trivial⟩ (by kernel_rfl)) ?_
  rintro ⟨⟨⟨t, s⟩, m⟩, h0, h1, h2⟩
  simp only at h0 h1 h2
  obtain ⟨m, rfl⟩ : ∃ k, m = k + 1 := ⟨m - 1, by omega⟩
  have hk := rd_take e s [tMul] (by simp) (by simp [tMul])
  have hlt := @take_lt s [tMul] (by simp [tMul])
  rw [pPL] at h1
  simp only at h1
  generalize s.take [tMul] = k at *
  rcases k with ⟨kt, ks⟩
  simp only at hk hlt h1
  repeat refine codeStep ?_
  iterate 1 refine opsStep ?_
  refine opsFrz ?_
  iterate 1 refine opsStep ?_
  refine callT (args := [.ref 0 0 0, aSs .any [tMul]]) hk [.cells 0 zT, .cells 0 (tcl t), .fro 0 [.str tMul]] rfl rfl (by simp [bels, AV.bel, aSs, rdH]) (rdH_bel _ _ _) (rdH_bel _ _ _) (by simp [AV.bel, bels]) ?_
  repeat first | refine opsStep ?_ | refine codeStep ?_ | refine drawStep ?_
  refine decB_dec (fun hkt => ?_) (fun hkt => ?_)
  · have hkt : kt ≠ [] := hkt
    rw [if_pos hkt] at h1
    have hlt := hlt hkt
    have hf := hFm m (by omega) ks (by omega)
    have hle := (terms_le e m).2.2.2.2 ks
    generalize pFa e m ks = y at *
    rcases y with ⟨u, s'⟩
    simp only at hf hle h1
    repeat refine codeStep ?_
    refine SW.drawn rfl (by kernel_rfl) ?_
    iterate 2 refine drawStep ?_
    refine drawGot ?_
    refine gotCallW 0 hf rfl rfl (by kernel_rfl) (by kernel_rfl) (by kernel_rfl) (by simp [bels, AV.bel]) (rdC_bel _ _ _) (rdC_bel _ _ _) (by simp only [AV.closed]; exact tcl_closed _) ?_
    refine drawFrzN ?_
    refine optX_of (c := tcl t ++ tcl u) (by kernel_rfl) ?_
    repeat first | refine opsStep ?_ | refine codeStep ?_ | refine drawStep ?_
    refine ⟨by kernel_rfl, ?_⟩
    repeat first | refine opsStep ?_ | refine codeStep ?_ | refine drawStep ?_
    exact ⟨⟨((.mk 5 0 [] .any [t, u], s'), m), by omega, h1, by show 16 * s'.ws.length + 1 ≤ m; omega⟩, Nat.lt_succ_self m, Ent.frD (X := [.fro 0 [.str tMul], .fro 0 (tcl t ++ tcl u)]) ⟨(by kernel_rfl), (by kernel_rfl), (by kernel_rfl), trivial⟩ (Eq.trans (b := rdH e s' ++ [.cells 0 zT, .cells 0 [.int .i64 5, .int .i64 0, .str [], .sl .any 2 (tcl t ++ tcl u)], .fro 0 [.str tMul], .fro 0 (tcl t ++ tcl u)]) (by kernel_rfl) (congrArg (fun z => rdH e s' ++ [.cells 0 zT, .cells 0 z, .fro 0 [.str tMul], .fro 0 (tcl t ++ tcl u)]) (tcl_two 5 t u).symm)) (by show 1 ≤ 3; decide) (by simp [frBel, AV.bel, rdH]) (rdX_bel _ _ ⟨zT_bel _, tcl_bel _ _, trivial⟩)⟩
  · have hkt : kt = [] := Decidable.of_not_not hkt
    rw [if_neg (by simp [hkt])] at h1
    subst h1
    repeat first | refine opsStep ?_ | refine codeStep ?_ | refine drawStep ?_
    exact finC [.cells 0 (tcl t), .cells 0 (tcl t), .fro 0 [.str tMul]] (v' := .agg (tcl t)) (by kernel_rfl) rfl (by kernel_rfl)


/-- Behind the signs: a name or a number. -/
def leafT (e : Nat × Nat) (s : Rs) : TT × Rs := if s.fl.why = 0 ∧ s.ws ≠ [] ∧ s.hd.kind = 0 then (.mk 1 0 (s.word e 0).1.text .nil [], (s.word e 0).2) else (.mk 0 (s.word e 1).1.num [] .nil [], (s.word e 1).2)
theorem w_factor (e : Nat × Nat) (n : Nat) (hT : ∀ r : Rs, 16 * r.ws.length + 3 ≤ n → TermC 48 e r (pT e n r)) (hF : ∀ r : Rs, 16 * r.ws.length + 1 ≤ n → TermC 103 e r (pFa e n r)) (r : Rs) (hn : 16 * r.ws.length + 1 ≤ n + 1) : TermC 103 e r (pFa e (n + 1) r) := by
  refine TermC.of ?_
  have hk := rd_take e r [tOpen, tSub] (by simp) (by simp [tOpen, tSub])
  have hlt := @take_lt r [tOpen, tSub] (by simp [tOpen, tSub])
  rw [pFa]
  generalize hfin : (if (r.take [tOpen, tSub]).1 = tOpen then _ else _ : TT × Rs) = fin
  generalize r.take [tOpen, tSub] = k at *
  rcases k with ⟨kt, ks⟩
  simp only at hk hlt hfin
  refine ACall.of_sw 49 Tryd.func103 rfl Tryd.ntmps103 (by kernel_rfl) (Nat.le_of_ble_eq_true (by kernel_rfl)) ?_; refine SW.of_vc ?_
  repeat refine codeStep ?_
  iterate 2 refine opsStep ?_
  repeat refine codeStep ?_
  iterate 1 refine opsStep ?_
  refine opsFrz ?_
  refine optX_of (c := [tOpen, tSub].map AV.str) (by kernel_rfl) ?_
  iterate 1 refine opsStep ?_
  refine callT (args := [.ref 0 0 0, aSs .any [tOpen, tSub]]) hk [.cells 0 zT, .fro 0 [.str tOpen, .str tSub]] rfl rfl (by simp [bels, AV.bel, aSs, rdH]) (rdH_bel _ _ _) (rdH_bel _ _ _) (by simp [AV.bel, bels]) ?_
  repeat first | refine opsStep ?_ | refine codeStep ?_ | refine drawStep ?_
  refine decB_dec (fun h1 => ?_) (fun h1 => ?_)
  · have h1 : kt = tOpen := h1
    rw [if_pos h1] at hfin
    have hlt := hlt (by rw [h1]; simp [tOpen])
    have hT := hT ks (by omega)
    generalize pT e n ks = y at *
    rcases y with ⟨t, s⟩
    simp only at hfin hT
    have hnd := rd_need e s tClose (by simp [tClose])
    repeat first | refine opsStep ?_ | refine codeStep ?_ | refine drawStep ?_
    refine callT (args := [.ref 0 0 0]) hT [.cells 0 zT, .fro 0 [.str tOpen, .str tSub]] rfl rfl (by simp [bels, AV.bel, rdH]) (rdH_bel _ _ _) (rdH_bel _ _ _) (by simp only [AV.bel]; exact tcl_bel _ _) ?_
    repeat first | refine opsStep ?_ | refine codeStep ?_ | refine drawStep ?_
    refine callT (args := [.ref 0 0 0, .str tClose]) hnd [.cells 0 zT, .fro 0 [.str tOpen, .str tSub], .cells 0 (tcl t)] rfl rfl (by simp [bels, AV.bel, rdH]) (rdH_bel _ _ _) (rdH_bel _ _ _) (by simp [AV.bel, bels]) ?_
    repeat first | refine opsStep ?_ | refine codeStep ?_ | refine drawStep ?_
    subst hfin
    exact finC [.cells 0 (tcl t), .fro 0 [.str tOpen, .str tSub], .cells 0 (tcl t)] (v' := .agg (tcl t)) (by kernel_rfl) rfl (by kernel_rfl)
  · have h1 : kt ≠ tOpen := h1
    rw [if_neg h1] at hfin
    repeat first | refine opsStep ?_ | refine codeStep ?_ | refine drawStep ?_
    refine decB_dec (fun h2 => ?_) (fun h2 => ?_)
    · have h2 : kt = tSub := h2
      rw [if_pos h2] at hfin
      have hlt := hlt (by rw [h2]; simp [tSub])
      have hF := hF ks (by omega)
      generalize pFa e n ks = y at *
      rcases y with ⟨t, s⟩
      simp only at hfin hF
      repeat refine codeStep ?_
      iterate 2 refine opsStep ?_
      refine callT (args := [.ref 0 0 0]) hF [.cells 0 zT, .fro 0 [.str tOpen, .str tSub]] rfl rfl (by simp [bels, AV.bel, rdH]) (rdH_bel _ _ _) (rdH_bel _ _ _) (by simp only [AV.bel]; exact tcl_bel _ _) ?_
      refine opsFrz ?_
      repeat first | refine opsStep ?_ | refine codeStep ?_ | refine drawStep ?_
      subst hfin
      exact finC [.cells 0 [.int .i64 2, .int .i64 0, .str [], .sl .any 1 (tcl t)], .fro 0 [.str tOpen, .str tSub], .fro 0 (tcl t)] (v' := .agg [.int .i64 2, .int .i64 0, .str [], .sl .any 1 (tcl t)]) (by kernel_rfl) (by rw [tcl_one]) (by kernel_rfl)
    · have h2 : kt ≠ tSub := h2
      rw [if_neg h2] at hfin
      have hfin : leafT e ks = fin := hfin
      unfold leafT at hfin
      have hbd := rd_bad e ks
      have hw1 := rd_word e ks 1
      have hw0 := rd_word e ks 0
      repeat first | refine opsStep ?_ | refine codeStep ?_ | refine drawStep ?_
      rcases ks with ⟨ws, fl⟩
      cases ws with
      | nil =>
        have hL := hfin.symm.trans (if_neg fun h => h.2.1 rfl)
        clear hfin
        refine callT (args := [.ref 0 0 0]) hbd [.cells 0 zT, .fro 0 [.str tOpen, .str tSub]] rfl rfl (by simp [bels, AV.bel, rdH]) (rdH_bel _ _ _) (rdH_bel _ _ _) (by simp [AV.bel, bels]) ?_
        repeat first | refine opsStep ?_ | refine codeStep ?_ | refine drawStep ?_
        refine decB_split (fun hb => ?_) (fun hb => ?_)
        · repeat first | refine opsStep ?_ | refine codeStep ?_ | refine drawStep ?_
          refine callT (args := [.ref 0 0 0, .int .i64 1]) hw1 [.cells 0 zT, .fro 0 [.str tOpen, .str tSub]] rfl rfl (by simp [bels, AV.bel, rdH]) (rdH_bel _ _ _) (rdH_bel _ _ _) (by simp only [AV.bel]; exact closeds_bel _ (wdC_closed _)) ?_
          generalize Rs.word e _ 1 = w at *
          repeat first | refine opsStep ?_ | refine codeStep ?_ | refine drawStep ?_
          exact finC [_, _] (v' := .agg (tcl (.mk 0 w.1.num [] .nil []))) (by kernel_rfl) (by rw [hL]) (by rw [hL]; try rfl)
        · repeat first | refine opsStep ?_ | refine codeStep ?_ | refine drawStep ?_
          refine callT (args := [.ref 0 0 0, .int .i64 1]) hw1 [.cells 0 zT, .fro 0 [.str tOpen, .str tSub]] rfl rfl (by simp [bels, AV.bel, rdH]) (rdH_bel _ _ _) (rdH_bel _ _ _) (by simp only [AV.bel]; exact closeds_bel _ (wdC_closed _)) ?_
          generalize Rs.word e _ 1 = w at *
          repeat first | refine opsStep ?_ | refine codeStep ?_ | refine drawStep ?_
          exact finC [_, _] (v' := .agg (tcl (.mk 0 w.1.num [] .nil []))) (by kernel_rfl) (by rw [hL]) (by rw [hL]; try rfl)
      | cons w l =>
        refine callT (args := [.ref 0 0 0]) hbd [.cells 0 zT, .fro 0 [.str tOpen, .str tSub]] rfl rfl (by simp [bels, AV.bel, rdH]) (rdH_bel _ _ _) (rdH_bel _ _ _) (by simp [AV.bel, bels]) ?_
        repeat first | refine opsStep ?_ | refine codeStep ?_ | refine drawStep ?_
        refine decB_split (fun hb => ?_) (fun hb => ?_)
        rotate_left
        · have hb : fl.why ≠ 0 := by simpa using hb
          have hL := hfin.symm.trans (if_neg fun h => hb h.1)
          clear hfin
          repeat first | refine opsStep ?_ | refine codeStep ?_ | refine drawStep ?_
          refine callT (args := [.ref 0 0 0, .int .i64 1]) hw1 [.cells 0 zT, .fro 0 [.str tOpen, .str tSub]] rfl rfl (by simp [bels, AV.bel, rdH]) (rdH_bel _ _ _) (rdH_bel _ _ _) (by simp only [AV.bel]; exact closeds_bel _ (wdC_closed _)) ?_
          generalize Rs.word e _ 1 = w at *
          repeat first | refine opsStep ?_ | refine codeStep ?_ | refine drawStep ?_
          exact finC [_, _] (v' := .agg (tcl (.mk 0 w.1.num [] .nil []))) (by kernel_rfl) (by rw [hL]) (by rw [hL]; try rfl)
        · have hb : fl.why = 0 := by simpa using hb
          repeat first | refine opsStep ?_ | refine codeStep ?_ | refine drawStep ?_
          refine decB_true (b := decide (((l.length + 1 : Nat) : Int) > 0)) (by simp) ?_
          repeat first | refine opsStep ?_ | refine codeStep ?_ | refine drawStep ?_
          refine guardE_of ⟨by decide, by show (0 : Int) < ((l.length + 1 : Nat) : Int); omega⟩ ?_
          repeat first | refine opsStep ?_ | refine codeStep ?_ | refine drawStep ?_
          refine decB_dec (fun hk0 => ?_) (fun hk0 => ?_)
          · have hL := hfin.symm.trans (if_pos ⟨hb, by simp, hk0⟩)
            clear hfin
            repeat first | refine opsStep ?_ | refine codeStep ?_ | refine drawStep ?_
            refine callT (args := [.ref 0 0 0, .int .i64 0]) hw0 [.cells 0 zT, .fro 0 [.str tOpen, .str tSub]] rfl rfl (by simp [bels, AV.bel, rdH]) (rdH_bel _ _ _) (rdH_bel _ _ _) (by simp only [AV.bel]; exact closeds_bel _ (wdC_closed _)) ?_
            generalize Rs.word e _ 0 = w at *
            repeat first | refine opsStep ?_ | refine codeStep ?_ | refine drawStep ?_
            exact finC [_, _] (v' := .agg (tcl (.mk 1 0 w.1.text .nil []))) (by kernel_rfl) (by rw [hL]) (by rw [hL]; try rfl)
          · have hL := hfin.symm.trans (if_neg fun h => hk0 h.2.2)
            clear hfin
            repeat first | refine opsStep ?_ | refine codeStep ?_ | refine drawStep ?_
            refine callT (args := [.ref 0 0 0, .int .i64 1]) hw1 [.cells 0 zT, .fro 0 [.str tOpen, .str tSub]] rfl rfl (by simp [bels, AV.bel, rdH]) (rdH_bel _ _ _) (rdH_bel _ _ _) (by simp only [AV.bel]; exact closeds_bel _ (wdC_closed _)) ?_
            generalize Rs.word e _ 1 = w at *
            repeat first | refine opsStep ?_ | refine codeStep ?_ | refine drawStep ?_
            exact finC [_, _] (v' := .agg (tcl (.mk 0 w.1.num [] .nil []))) (by kernel_rfl) (by rw [hL]) (by rw [hL]; try rfl)

theorem w_term (e : Nat × Nat) (n : Nat) (hP : ∀ r : Rs, 16 * r.ws.length + 2 ≤ n → TermC 74 e r (pP e n r)) (hPm : ∀ m, m < n → ∀ r : Rs, 16 * r.ws.length + 2 ≤ m → TermC 74 e r (pP e m r)) (r : Rs) (hn : 16 * r.ws.length + 3 ≤ n + 1) : TermC 48 e r (pT e (n + 1) r) := by
  refine TermC.of ?_
  rw [pT]
  have hf := hP r (by omega)
  have hle := (terms_le e n).2.2.1 r
  generalize pP e n r = x0 at *
  rcases x0 with ⟨t0, s0⟩
  simp only at hle hf ⊢
  have hn0 : 16 * s0.ws.length + 2 ≤ n := by omega
  clear hn hle
  generalize hfin : pTL e n (t0, s0) = fin at *
  refine ACall.of_sw 24 Tryd.func48 rfl Tryd.ntmps48 (by kernel_rfl) (Nat.le_of_ble_eq_true (by kernel_rfl)) ?_; refine SW.of_vc ?_
  repeat first | refine opsStep ?_ | refine codeStep ?_ | refine drawStep ?_
  refine callT (args := [.ref 0 0 0]) hf [.cells 0 zT] rfl rfl (by simp [bels, AV.bel, rdH]) (rdH_bel _ _ _) (rdH_bel _ _ _) (by simp only [AV.bel]; exact tcl_bel _ _) ?_
  repeat first | refine opsStep ?_ | refine codeStep ?_ | refine drawStep ?_
  refine loopE_of (ι := {x : (TT × Rs) × Nat // x.2 ≤ n ∧ pTL e x.2 x.1 = fin ∧ 16 * x.1.2.ws.length + 2 ≤ x.2}) (fun x => (fr [(0, .ref 0 0 0), (2, .ref 1 0 0), (3, .ref 2 0 0)], rdH e x.1.1.2 ++ [.cells 0 zT, .cells 0 (tcl x.1.1.1)])) (fun x => x.1.2)
    ⟨((t0, s0), n), Nat.le_refl _, hfin, hn0⟩ (Ent.fr' ⟨(by kernel_rfl), (by kernel_rfl), (by kernel_rfl), trivial⟩ (by kernel_rfl)) ?_
  rintro ⟨⟨⟨t, s⟩, m⟩, h0, h1, h2⟩
  simp only at h0 h1 h2
  obtain ⟨m, rfl⟩ : ∃ k, m = k + 1 := ⟨m - 1, by omega⟩
  have hk := rd_take e s [tAdd, tSub] (by simp) (by simp [tAdd, tSub])
  have hlt := @take_lt s [tAdd, tSub] (by simp [tAdd, tSub])
  rw [pTL] at h1
  simp only at h1
  generalize s.take [tAdd, tSub] = k at *
  rcases k with ⟨kt, ks⟩
  simp only at hk hlt h1
  repeat refine codeStep ?_
  iterate 1 refine opsStep ?_
  refine opsFrz ?_
  refine optX_of (c := [tAdd, tSub].map AV.str) (by kernel_rfl) ?_
  iterate 1 refine opsStep ?_
  refine callT (args := [.ref 0 0 0, aSs .any [tAdd, tSub]]) hk [.cells 0 zT, .cells 0 (tcl t), .fro 0 [.str tAdd, .str tSub]] rfl rfl (by simp [bels, AV.bel, aSs, rdH]) (rdH_bel _ _ _) (rdH_bel _ _ _) (by simp [AV.bel, bels]) ?_
  repeat first | refine opsStep ?_ | refine codeStep ?_ | refine drawStep ?_
  refine decB_dec (fun ha => ?_) (fun ha => ?_)
  · have ha : kt = tAdd := ha
    rw [if_pos ha] at h1
    have hlt := hlt (by rw [ha]; simp [tAdd])
    have hf := hPm m (by omega) ks (by omega)
    have hle := (terms_le e m).2.2.1 ks
    generalize pP e m ks = y at *
    rcases y with ⟨u, s'⟩
    simp only at hf hle h1
    repeat refine codeStep ?_
    refine SW.drawn rfl (by kernel_rfl) ?_
    iterate 2 refine drawStep ?_
    refine drawGot ?_
    refine gotCallW 0 hf rfl rfl (by kernel_rfl) (by kernel_rfl) (by kernel_rfl) (by simp [bels, AV.bel]) (rdC_bel _ _ _) (rdC_bel _ _ _) (by simp only [AV.closed]; exact tcl_closed _) ?_
    refine drawFrzN ?_
    refine optX_of (c := tcl t ++ tcl u) (by kernel_rfl) ?_
    repeat first | refine opsStep ?_ | refine codeStep ?_ | refine drawStep ?_
    refine ⟨by kernel_rfl, ?_⟩
    repeat first | refine opsStep ?_ | refine codeStep ?_ | refine drawStep ?_
    exact ⟨⟨((.mk 3 0 [] .any [t, u], s'), m), by omega, h1, by show 16 * s'.ws.length + 2 ≤ m; omega⟩, Nat.lt_succ_self m, Ent.frD (X := [.fro 0 [.str tAdd, .str tSub], .fro 0 (tcl t ++ tcl u)]) ⟨(by kernel_rfl), (by kernel_rfl), (by kernel_rfl), trivial⟩ (Eq.trans (b := rdH e s' ++ [.cells 0 zT, .cells 0 [.int .i64 3, .int .i64 0, .str [], .sl .any 2 (tcl t ++ tcl u)], .fro 0 [.str tAdd, .str tSub], .fro 0 (tcl t ++ tcl u)]) (by kernel_rfl) (congrArg (fun z => rdH e s' ++ [.cells 0 zT, .cells 0 z, .fro 0 [.str tAdd, .str tSub], .fro 0 (tcl t ++ tcl u)]) (tcl_two 3 t u).symm)) (by show 1 ≤ 3; decide) (by simp [frBel, AV.bel, rdH]) (rdX_bel _ _ ⟨zT_bel _, tcl_bel _ _, trivial⟩)⟩
  · have ha : kt ≠ tAdd := ha
    rw [if_neg ha] at h1
    repeat first | refine opsStep ?_ | refine codeStep ?_ | refine drawStep ?_
    refine decB_dec (fun hb => ?_) (fun hb => ?_)
    · have hb : kt = tSub := hb
      rw [if_pos hb] at h1
      have hlt := hlt (by rw [hb]; simp [tSub])
      have hf := hPm m (by omega) ks (by omega)
      have hle := (terms_le e m).2.2.1 ks
      generalize pP e m ks = y at *
      rcases y with ⟨u, s'⟩
      simp only at hf hle h1
      repeat refine codeStep ?_
      refine SW.drawn rfl (by kernel_rfl) ?_
      iterate 2 refine drawStep ?_
      refine drawGot ?_
      refine gotCallW 0 hf rfl rfl (by kernel_rfl) (by kernel_rfl) (by kernel_rfl) (by simp [bels, AV.bel]) (rdC_bel _ _ _) (rdC_bel _ _ _) (by simp only [AV.closed]; exact tcl_closed _) ?_
      refine drawFrzN ?_
      refine optX_of (c := tcl t ++ tcl u) (by kernel_rfl) ?_
      repeat first | refine opsStep ?_ | refine codeStep ?_ | refine drawStep ?_
      refine ⟨by kernel_rfl, ?_⟩
      repeat first | refine opsStep ?_ | refine codeStep ?_ | refine drawStep ?_
      exact ⟨⟨((.mk 4 0 [] .any [t, u], s'), m), by omega, h1, by show 16 * s'.ws.length + 2 ≤ m; omega⟩, Nat.lt_succ_self m, Ent.frD (X := [.fro 0 [.str tAdd, .str tSub], .fro 0 (tcl t ++ tcl u)]) ⟨(by kernel_rfl), (by kernel_rfl), (by kernel_rfl), trivial⟩ (Eq.trans (b := rdH e s' ++ [.cells 0 zT, .cells 0 [.int .i64 4, .int .i64 0, .str [], .sl .any 2 (tcl t ++ tcl u)], .fro 0 [.str tAdd, .str tSub], .fro 0 (tcl t ++ tcl u)]) (by kernel_rfl) (congrArg (fun z => rdH e s' ++ [.cells 0 zT, .cells 0 z, .fro 0 [.str tAdd, .str tSub], .fro 0 (tcl t ++ tcl u)]) (tcl_two 4 t u).symm)) (by show 1 ≤ 3; decide) (by simp [frBel, AV.bel, rdH]) (rdX_bel _ _ ⟨zT_bel _, tcl_bel _ _, trivial⟩)⟩
    · have hb : kt ≠ tSub := hb
      rw [if_neg hb] at h1
      subst h1
      repeat first | refine opsStep ?_ | refine codeStep ?_ | refine drawStep ?_
      exact finC [.cells 0 (tcl t), .cells 0 (tcl t), .fro 0 [.str tAdd, .str tSub]] (v' := .agg (tcl t)) (by kernel_rfl) rfl (by kernel_rfl)

theorem w_terms (e : Nat × Nat) : ∀ n, (∀ r : Rs, 16 * r.ws.length + 3 ≤ n → TermC 48 e r (pT e n r)) ∧ (∀ r : Rs, 16 * r.ws.length + 2 ≤ n → TermC 74 e r (pP e n r)) ∧ (∀ r : Rs, 16 * r.ws.length + 1 ≤ n → TermC 103 e r (pFa e n r)) := by
  intro n
  induction n using Nat.strongRecOn with
  | _ n ih =>
    cases n with
    | zero => exact ⟨fun r h => by omega, fun r h => by omega, fun r h => by omega⟩
    | succ n =>
      exact ⟨w_term e n (ih n (by omega)).2.1 (fun m hm => (ih m (by omega)).2.1), w_product e n (ih n (by omega)).2.2 (fun m hm => (ih m (by omega)).2.2), w_factor e n (ih n (by omega)).1 (ih n (by omega)).2.2⟩

end Tab

/- The reader of formulas. -/
namespace Tab
open Go Go.Proofs
set_option maxRecDepth 10000
set_option linter.unusedVariables false
set_option linter.unusedSimpArgs false
set_option linter.unusedSectionVars false
set_option maxHeartbeats 1000000

def fcl (f : FT) : List AV := [.int .i64 f.op, .str f.name, .int .i64 f.md, .sl f.tk f.terms.length (ttsC f.terms), .sl f.ak f.args.length (ftsC f.args)]
theorem fcl_closed (t : FT) : closeds (fcl t) := by have := FT.cells_closed t; rwa [FT.cells_eq] at this
theorem fcl_bel (n : Nat) (t : FT) : bels n (fcl t) := closeds_bel _ (fcl_closed t)
theorem fcl_two (op : Int) (a b : FT) : fcl (twoF op a b) = [.int .i64 op, .str [], .int .i64 0, .sl .nil 0 [], .sl .any 2 (fcl a ++ fcl b)] := by
  simp only [twoF, fcl, FT.op, FT.name, FT.md, FT.tk, FT.ak, FT.terms, FT.args, ttsC, ftsC, FT.cells_eq, List.append_nil]; rfl
theorem fcl_one (op : Int) (s : Str) (a : FT) : fcl (oneF op s a) = [.int .i64 op, .str s, .int .i64 0, .sl .nil 0 [], .sl .any 1 (fcl a)] := by
  simp only [oneF, fcl, FT.op, FT.name, FT.md, FT.tk, FT.ak, FT.terms, FT.args, ttsC, ftsC, FT.cells_eq, List.append_nil]; rfl
theorem fcl_atom (op md : Int) (a b : TT) : fcl (.mk op [] md .any [a, b] .nil []) = [.int .i64 op, .str [], .int .i64 md, .sl .any 2 (tcl a ++ tcl b), .sl .nil 0 []] := by
  simp only [fcl, tcl, FT.op, FT.name, FT.md, FT.tk, FT.ak, FT.terms, FT.args, ttsC, ftsC, TT.cells_eq, List.append_nil]; rfl
def zF : List AV := [.int .i64 0, .str [], .int .i64 0, .sl .nil 0 [], .sl .nil 0 []]
theorem zF_bel (n : Nat) : bels n zF := by simp [zF, bels, AV.bel]

/-- A reading function's contract. -/
def FormC (f : FuncId) (xs : List AV) (e : Nat × Nat) (r : Rs) (x : FT × Rs) : Prop := ACall Tryd.prog f (.ref 0 0 0 :: xs) (rdH e r) fun o H' => o = .ret (.agg (fcl x.1)) ∧ H' = rdH e x.2
theorem FormC.of {f : FuncId} {xs : List AV} {e : Nat × Nat} {r : Rs} {x : FT × Rs} (h : ACall Tryd.prog f (.ref 0 0 0 :: xs) (rdH e r) fun o H' => ∃ X, o = .ret (.agg (fcl x.1)) ∧ H' = rdH e x.2 ++ X) : FormC f xs e r x :=
  ACall.drop h (Nat.le_refl 1) (by simp only [AV.bel]; exact fcl_bel _ _) (rdH_bel _ _ _)
theorem le_pF (e : Nat × Nat) (n : Nat) (r : Rs) : (pF e n r).2.ws.length ≤ r.ws.length := (forms_le e n).1 r
theorem le_pI (e : Nat × Nat) (n : Nat) (r : Rs) : (pI e n r).2.ws.length ≤ r.ws.length := (forms_le e n).2.2.1 r
theorem le_pO (e : Nat × Nat) (n : Nat) (r : Rs) : (pO e n r).2.ws.length ≤ r.ws.length := (forms_le e n).2.2.2.1 r
theorem le_pA (e : Nat × Nat) (n : Nat) (r : Rs) : (pA e n r).2.ws.length ≤ r.ws.length := (forms_le e n).2.2.2.2.2.1 r
theorem le_pU (e : Nat × Nat) (n : Nat) (r : Rs) : (pU e n r).2.ws.length ≤ r.ws.length := (forms_le e n).2.2.2.2.2.2.2.1 r
theorem le_pQ (e : Nat × Nat) (n : Nat) (op : Int) (r : Rs) : (pQ e n op r).2.ws.length ≤ r.ws.length := (forms_le e n).2.2.2.2.2.2.2.2 op r
theorem p_two (op : Int) (a b : FT) : Pure Tryd.prog 63 [.int .i64 op, .agg (fcl a), .agg (fcl b)] (.agg (fcl (twoF op a b))) := by
  rw [fcl_two]
  have ha := fcl_closed a
  have hb := fcl_closed b
  refine Pure.of_sw 12 Tryd.func63 rfl Tryd.ntmps63 (by kernel_rfl) (Nat.le_of_ble_eq_true (by kernel_rfl)) (by simp only [closeds, AV.closed]; exact ⟨trivial, ha, hb, trivial⟩) (by simp only [closeds, AV.closed]; exact ⟨trivial, trivial, trivial, trivial, closeds_iff.2 fun x h => (List.mem_append.1 h).elim (closeds_iff.1 ha x) (closeds_iff.1 hb x), trivial⟩) ?_
  refine SW.of_vc ?_
  repeat refine codeStep ?_
  iterate 4 refine opsStep ?_
  repeat refine codeStep ?_
  iterate 3 refine opsStep ?_
  refine opsFrz ?_
  refine optX_of (c := fcl a ++ fcl b) (by kernel_rfl) ?_
  repeat first | refine opsStep ?_ | refine codeStep ?_ | refine drawStep ?_
  exact finE_of (by kernel_rfl)
theorem p_rel (s : Str) : Pure Tryd.prog 144 [.str s] (.int .i64 (relO s)) := by
  unfold relO
  refine Pure.of_sw 16 Tryd.func144 rfl Tryd.ntmps144 (by kernel_rfl) (Nat.le_of_ble_eq_true (by kernel_rfl)) (by simp [closeds, AV.closed, aSs_closed, aIs_closed, aBs_closed, aRs_closed, aDen_closed]) (by simp [AV.closed, closeds, aSs_closed, aIs_closed, aBs_closed, aRs_closed, aDen_closed]) ?_; refine SW.of_vc ?_
  repeat first | refine opsStep ?_ | refine codeStep ?_ | refine drawStep ?_
  refine decB_dec (fun h1 => ?_) (fun h1 => ?_)
  · have h1 : s = [60, 61] := h1
    repeat first | refine opsStep ?_ | refine codeStep ?_ | refine drawStep ?_
    exact finV (v' := .int .i64 9) (by kernel_rfl) (by rw [if_pos h1])
  have h1 : s ≠ [60, 61] := h1
  repeat first | refine opsStep ?_ | refine codeStep ?_ | refine drawStep ?_
  refine decB_dec (fun h2 => ?_) (fun h2 => ?_)
  · have h2 : s = [60] := h2
    repeat first | refine opsStep ?_ | refine codeStep ?_ | refine drawStep ?_
    exact finV (v' := .int .i64 10) (by kernel_rfl) (by rw [if_neg h1, if_pos h2])
  have h2 : s ≠ [60] := h2
  repeat first | refine opsStep ?_ | refine codeStep ?_ | refine drawStep ?_
  refine decB_dec (fun h3 => ?_) (fun h3 => ?_)
  · have h3 : s = [62, 61] := h3
    repeat first | refine opsStep ?_ | refine codeStep ?_ | refine drawStep ?_
    exact finV (v' := .int .i64 11) (by kernel_rfl) (by rw [if_neg h1, if_neg h2, if_pos h3])
  have h3 : s ≠ [62, 61] := h3
  repeat first | refine opsStep ?_ | refine codeStep ?_ | refine drawStep ?_
  refine decB_dec (fun h4 => ?_) (fun h4 => ?_)
  · have h4 : s = [62] := h4
    repeat first | refine opsStep ?_ | refine codeStep ?_ | refine drawStep ?_
    exact finV (v' := .int .i64 12) (by kernel_rfl) (by rw [if_neg h1, if_neg h2, if_neg h3, if_pos h4])
  have h4 : s ≠ [62] := h4
  repeat first | refine opsStep ?_ | refine codeStep ?_ | refine drawStep ?_
  refine decB_dec (fun h5 => ?_) (fun h5 => ?_)
  · have h5 : s = [61] := h5
    repeat first | refine opsStep ?_ | refine codeStep ?_ | refine drawStep ?_
    exact finV (v' := .int .i64 13) (by kernel_rfl) (by rw [if_neg h1, if_neg h2, if_neg h3, if_neg h4, if_pos h5])
  have h5 : s ≠ [61] := h5
  repeat first | refine opsStep ?_ | refine codeStep ?_ | refine drawStep ?_
  refine decB_dec (fun h6 => ?_) (fun h6 => ?_)
  · have h6 : s = [33, 61] := h6
    repeat first | refine opsStep ?_ | refine codeStep ?_ | refine drawStep ?_
    exact finV (v' := .int .i64 14) (by kernel_rfl) (by rw [if_neg h1, if_neg h2, if_neg h3, if_neg h4, if_neg h5, if_pos h6])
  have h6 : s ≠ [33, 61] := h6
  repeat first | refine opsStep ?_ | refine codeStep ?_ | refine drawStep ?_
  exact finV (v' := .int .i64 15) (by kernel_rfl) (by rw [if_neg h1, if_neg h2, if_neg h3, if_neg h4, if_neg h5, if_neg h6])

/-- In a drawn region: a reading call. -/
theorem w_formula (e : Nat × Nat) (n : Nat) (hP : ∀ r : Rs, 16 * r.ws.length + 7 ≤ n → FormC 61 [] e r (pI e n r)) (hPm : ∀ m, m < n → ∀ r : Rs, 16 * r.ws.length + 7 ≤ m → FormC 61 [] e r (pI e m r)) (r : Rs) (hn : 16 * r.ws.length + 8 ≤ n + 1) : FormC 40 [] e r (pF e (n + 1) r) := by
  refine FormC.of ?_
  rw [pF]
  have hf := hP r (by omega)
  have hle := le_pI e n r
  generalize pI e n r = x0 at *
  rcases x0 with ⟨t0, s0⟩
  simp only at hle hf ⊢
  have hn0 : 16 * s0.ws.length + 7 ≤ n := by omega
  clear hn hle
  generalize hfin : pFL e n (t0, s0) = fin at *
  refine ACall.of_sw 15 Tryd.func40 rfl Tryd.ntmps40 (by kernel_rfl) (Nat.le_of_ble_eq_true (by kernel_rfl)) ?_; refine SW.of_vc ?_
  repeat first | refine opsStep ?_ | refine codeStep ?_ | refine drawStep ?_
  refine callT (args := [.ref 0 0 0]) hf [.cells 0 zF] rfl rfl (by simp [bels, AV.bel, rdH]) (rdH_bel _ _ _) (rdH_bel _ _ _) (by simp only [AV.bel]; exact fcl_bel _ _) ?_
  repeat first | refine opsStep ?_ | refine codeStep ?_ | refine drawStep ?_
  refine loopE_of (ι := {x : (FT × Rs) × Nat // x.2 ≤ n ∧ pFL e x.2 x.1 = fin ∧ 16 * x.1.2.ws.length + 7 ≤ x.2}) (fun x => (fr [(0, .ref 0 0 0), (2, .ref 1 0 0), (3, .ref 2 0 0)], rdH e x.1.1.2 ++ [.cells 0 zF, .cells 0 (fcl x.1.1.1)])) (fun x => x.1.2)
    ⟨((t0, s0), n), Nat.le_refl _, hfin, hn0⟩ (Ent.fr' ⟨(by kernel_rfl), (by kernel_rfl), (by kernel_rfl), trivial⟩ (by kernel_rfl)) ?_
  rintro ⟨⟨⟨t, s⟩, m⟩, h0, h1, h2⟩
  simp only at h0 h1 h2
  obtain ⟨m, rfl⟩ : ∃ k, m = k + 1 := ⟨m - 1, by omega⟩
  have hk := rd_take e s [fIff] (by simp) (by simp [fIff])
  have hlt := @take_lt s [fIff] (by simp [fIff])
  rw [pFL] at h1
  simp only at h1
  generalize s.take [fIff] = k at *
  rcases k with ⟨kt, ks⟩
  simp only at hk hlt h1
  repeat refine codeStep ?_
  iterate 1 refine opsStep ?_
  refine opsFrz ?_
  iterate 1 refine opsStep ?_
  refine callT (args := [.ref 0 0 0, aSs .any [fIff]]) hk [.cells 0 zF, .cells 0 (fcl t), .fro 0 [.str fIff]] rfl rfl (by simp [bels, AV.bel, aSs, rdH]) (rdH_bel _ _ _) (rdH_bel _ _ _) (by simp [AV.bel, bels]) ?_
  repeat first | refine opsStep ?_ | refine codeStep ?_ | refine drawStep ?_
  refine decB_dec (fun hkt => ?_) (fun hkt => ?_)
  · have hkt : kt ≠ [] := hkt
    rw [if_pos hkt] at h1
    have hlt := hlt hkt
    have hf := hPm m (by omega) ks (by omega)
    have hle := le_pI e m ks
    generalize pI e m ks = y at *
    rcases y with ⟨u, s'⟩
    simp only at hf hle h1
    have htwo := p_two 6 t u
    repeat refine codeStep ?_
    refine SW.drawn rfl (by kernel_rfl) ?_
    iterate 2 refine drawStep ?_
    refine drawGot ?_
    refine gotCallW 0 hf rfl rfl (by kernel_rfl) (by kernel_rfl) (by kernel_rfl) (by simp [bels, AV.bel]) (rdC_bel _ _ _) (rdC_bel _ _ _) (by simp only [AV.closed]; exact fcl_closed _) ?_
    iterate 1 refine drawStep ?_
    refine .inl ⟨_, _, [], htwo, RdsN_refl _, .inr rfl, none_need, ?_⟩
    repeat first | refine opsStep ?_ | refine codeStep ?_ | refine drawStep ?_
    refine ⟨by kernel_rfl, ?_⟩
    repeat first | refine opsStep ?_ | refine codeStep ?_ | refine drawStep ?_
    exact ⟨⟨((twoF 6 t u, s'), m), by omega, h1, by show 16 * s'.ws.length + 7 ≤ m; omega⟩, Nat.lt_succ_self m, Ent.frD (X := [.fro 0 [.str fIff]]) ⟨(by kernel_rfl), (by kernel_rfl), (by kernel_rfl), trivial⟩ (by kernel_rfl) (by show 1 ≤ 3; decide) (by simp [frBel, AV.bel, rdH]) (rdX_bel _ _ ⟨zF_bel _, fcl_bel _ _, trivial⟩)⟩
  · have hkt : kt = [] := Decidable.of_not_not hkt
    rw [if_neg (by simp [hkt])] at h1
    subst h1
    repeat first | refine opsStep ?_ | refine codeStep ?_ | refine drawStep ?_
    exact finC [.cells 0 (fcl t), .cells 0 (fcl t), .fro 0 [.str fIff]] (v' := .agg (fcl t)) (by kernel_rfl) rfl (by kernel_rfl)
theorem w_or (e : Nat × Nat) (n : Nat) (hP : ∀ r : Rs, 16 * r.ws.length + 5 ≤ n → FormC 120 [] e r (pA e n r)) (hPm : ∀ m, m < n → ∀ r : Rs, 16 * r.ws.length + 5 ≤ m → FormC 120 [] e r (pA e m r)) (r : Rs) (hn : 16 * r.ws.length + 6 ≤ n + 1) : FormC 88 [] e r (pO e (n + 1) r) := by
  refine FormC.of ?_
  rw [pO]
  have hf := hP r (by omega)
  have hle := le_pA e n r
  generalize pA e n r = x0 at *
  rcases x0 with ⟨t0, s0⟩
  simp only at hle hf ⊢
  have hn0 : 16 * s0.ws.length + 5 ≤ n := by omega
  clear hn hle
  generalize hfin : pOL e n (t0, s0) = fin at *
  refine ACall.of_sw 15 Tryd.func88 rfl Tryd.ntmps88 (by kernel_rfl) (Nat.le_of_ble_eq_true (by kernel_rfl)) ?_; refine SW.of_vc ?_
  repeat first | refine opsStep ?_ | refine codeStep ?_ | refine drawStep ?_
  refine callT (args := [.ref 0 0 0]) hf [.cells 0 zF] rfl rfl (by simp [bels, AV.bel, rdH]) (rdH_bel _ _ _) (rdH_bel _ _ _) (by simp only [AV.bel]; exact fcl_bel _ _) ?_
  repeat first | refine opsStep ?_ | refine codeStep ?_ | refine drawStep ?_
  refine loopE_of (ι := {x : (FT × Rs) × Nat // x.2 ≤ n ∧ pOL e x.2 x.1 = fin ∧ 16 * x.1.2.ws.length + 5 ≤ x.2}) (fun x => (fr [(0, .ref 0 0 0), (2, .ref 1 0 0), (3, .ref 2 0 0)], rdH e x.1.1.2 ++ [.cells 0 zF, .cells 0 (fcl x.1.1.1)])) (fun x => x.1.2)
    ⟨((t0, s0), n), Nat.le_refl _, hfin, hn0⟩ (Ent.fr' ⟨(by kernel_rfl), (by kernel_rfl), (by kernel_rfl), trivial⟩ (by kernel_rfl)) ?_
  rintro ⟨⟨⟨t, s⟩, m⟩, h0, h1, h2⟩
  simp only at h0 h1 h2
  obtain ⟨m, rfl⟩ : ∃ k, m = k + 1 := ⟨m - 1, by omega⟩
  have hk := rd_take e s [fOr] (by simp) (by simp [fOr])
  have hlt := @take_lt s [fOr] (by simp [fOr])
  rw [pOL] at h1
  simp only at h1
  generalize s.take [fOr] = k at *
  rcases k with ⟨kt, ks⟩
  simp only at hk hlt h1
  repeat refine codeStep ?_
  iterate 1 refine opsStep ?_
  refine opsFrz ?_
  iterate 1 refine opsStep ?_
  refine callT (args := [.ref 0 0 0, aSs .any [fOr]]) hk [.cells 0 zF, .cells 0 (fcl t), .fro 0 [.str fOr]] rfl rfl (by simp [bels, AV.bel, aSs, rdH]) (rdH_bel _ _ _) (rdH_bel _ _ _) (by simp [AV.bel, bels]) ?_
  repeat first | refine opsStep ?_ | refine codeStep ?_ | refine drawStep ?_
  refine decB_dec (fun hkt => ?_) (fun hkt => ?_)
  · have hkt : kt ≠ [] := hkt
    rw [if_pos hkt] at h1
    have hlt := hlt hkt
    have hf := hPm m (by omega) ks (by omega)
    have hle := le_pA e m ks
    generalize pA e m ks = y at *
    rcases y with ⟨u, s'⟩
    simp only at hf hle h1
    have htwo := p_two 4 t u
    repeat refine codeStep ?_
    refine SW.drawn rfl (by kernel_rfl) ?_
    iterate 2 refine drawStep ?_
    refine drawGot ?_
    refine gotCallW 0 hf rfl rfl (by kernel_rfl) (by kernel_rfl) (by kernel_rfl) (by simp [bels, AV.bel]) (rdC_bel _ _ _) (rdC_bel _ _ _) (by simp only [AV.closed]; exact fcl_closed _) ?_
    iterate 1 refine drawStep ?_
    refine .inl ⟨_, _, [], htwo, RdsN_refl _, .inr rfl, none_need, ?_⟩
    repeat first | refine opsStep ?_ | refine codeStep ?_ | refine drawStep ?_
    refine ⟨by kernel_rfl, ?_⟩
    repeat first | refine opsStep ?_ | refine codeStep ?_ | refine drawStep ?_
    exact ⟨⟨((twoF 4 t u, s'), m), by omega, h1, by show 16 * s'.ws.length + 5 ≤ m; omega⟩, Nat.lt_succ_self m, Ent.frD (X := [.fro 0 [.str fOr]]) ⟨(by kernel_rfl), (by kernel_rfl), (by kernel_rfl), trivial⟩ (by kernel_rfl) (by show 1 ≤ 3; decide) (by simp [frBel, AV.bel, rdH]) (rdX_bel _ _ ⟨zF_bel _, fcl_bel _ _, trivial⟩)⟩
  · have hkt : kt = [] := Decidable.of_not_not hkt
    rw [if_neg (by simp [hkt])] at h1
    subst h1
    repeat first | refine opsStep ?_ | refine codeStep ?_ | refine drawStep ?_
    exact finC [.cells 0 (fcl t), .cells 0 (fcl t), .fro 0 [.str fOr]] (v' := .agg (fcl t)) (by kernel_rfl) rfl (by kernel_rfl)
theorem w_and (e : Nat × Nat) (n : Nat) (hP : ∀ r : Rs, 16 * r.ws.length + 4 ≤ n → FormC 136 [] e r (pU e n r)) (hPm : ∀ m, m < n → ∀ r : Rs, 16 * r.ws.length + 4 ≤ m → FormC 136 [] e r (pU e m r)) (r : Rs) (hn : 16 * r.ws.length + 5 ≤ n + 1) : FormC 120 [] e r (pA e (n + 1) r) := by
  refine FormC.of ?_
  rw [pA]
  have hf := hP r (by omega)
  have hle := le_pU e n r
  generalize pU e n r = x0 at *
  rcases x0 with ⟨t0, s0⟩
  simp only at hle hf ⊢
  have hn0 : 16 * s0.ws.length + 4 ≤ n := by omega
  clear hn hle
  generalize hfin : pAL e n (t0, s0) = fin at *
  refine ACall.of_sw 15 Tryd.func120 rfl Tryd.ntmps120 (by kernel_rfl) (Nat.le_of_ble_eq_true (by kernel_rfl)) ?_; refine SW.of_vc ?_
  repeat first | refine opsStep ?_ | refine codeStep ?_ | refine drawStep ?_
  refine callT (args := [.ref 0 0 0]) hf [.cells 0 zF] rfl rfl (by simp [bels, AV.bel, rdH]) (rdH_bel _ _ _) (rdH_bel _ _ _) (by simp only [AV.bel]; exact fcl_bel _ _) ?_
  repeat first | refine opsStep ?_ | refine codeStep ?_ | refine drawStep ?_
  refine loopE_of (ι := {x : (FT × Rs) × Nat // x.2 ≤ n ∧ pAL e x.2 x.1 = fin ∧ 16 * x.1.2.ws.length + 4 ≤ x.2}) (fun x => (fr [(0, .ref 0 0 0), (2, .ref 1 0 0), (3, .ref 2 0 0)], rdH e x.1.1.2 ++ [.cells 0 zF, .cells 0 (fcl x.1.1.1)])) (fun x => x.1.2)
    ⟨((t0, s0), n), Nat.le_refl _, hfin, hn0⟩ (Ent.fr' ⟨(by kernel_rfl), (by kernel_rfl), (by kernel_rfl), trivial⟩ (by kernel_rfl)) ?_
  rintro ⟨⟨⟨t, s⟩, m⟩, h0, h1, h2⟩
  simp only at h0 h1 h2
  obtain ⟨m, rfl⟩ : ∃ k, m = k + 1 := ⟨m - 1, by omega⟩
  have hk := rd_take e s [fAnd] (by simp) (by simp [fAnd])
  have hlt := @take_lt s [fAnd] (by simp [fAnd])
  rw [pAL] at h1
  simp only at h1
  generalize s.take [fAnd] = k at *
  rcases k with ⟨kt, ks⟩
  simp only at hk hlt h1
  repeat refine codeStep ?_
  iterate 1 refine opsStep ?_
  refine opsFrz ?_
  iterate 1 refine opsStep ?_
  refine callT (args := [.ref 0 0 0, aSs .any [fAnd]]) hk [.cells 0 zF, .cells 0 (fcl t), .fro 0 [.str fAnd]] rfl rfl (by simp [bels, AV.bel, aSs, rdH]) (rdH_bel _ _ _) (rdH_bel _ _ _) (by simp [AV.bel, bels]) ?_
  repeat first | refine opsStep ?_ | refine codeStep ?_ | refine drawStep ?_
  refine decB_dec (fun hkt => ?_) (fun hkt => ?_)
  · have hkt : kt ≠ [] := hkt
    rw [if_pos hkt] at h1
    have hlt := hlt hkt
    have hf := hPm m (by omega) ks (by omega)
    have hle := le_pU e m ks
    generalize pU e m ks = y at *
    rcases y with ⟨u, s'⟩
    simp only at hf hle h1
    have htwo := p_two 3 t u
    repeat refine codeStep ?_
    refine SW.drawn rfl (by kernel_rfl) ?_
    iterate 2 refine drawStep ?_
    refine drawGot ?_
    refine gotCallW 0 hf rfl rfl (by kernel_rfl) (by kernel_rfl) (by kernel_rfl) (by simp [bels, AV.bel]) (rdC_bel _ _ _) (rdC_bel _ _ _) (by simp only [AV.closed]; exact fcl_closed _) ?_
    iterate 1 refine drawStep ?_
    refine .inl ⟨_, _, [], htwo, RdsN_refl _, .inr rfl, none_need, ?_⟩
    repeat first | refine opsStep ?_ | refine codeStep ?_ | refine drawStep ?_
    refine ⟨by kernel_rfl, ?_⟩
    repeat first | refine opsStep ?_ | refine codeStep ?_ | refine drawStep ?_
    exact ⟨⟨((twoF 3 t u, s'), m), by omega, h1, by show 16 * s'.ws.length + 4 ≤ m; omega⟩, Nat.lt_succ_self m, Ent.frD (X := [.fro 0 [.str fAnd]]) ⟨(by kernel_rfl), (by kernel_rfl), (by kernel_rfl), trivial⟩ (by kernel_rfl) (by show 1 ≤ 3; decide) (by simp [frBel, AV.bel, rdH]) (rdX_bel _ _ ⟨zF_bel _, fcl_bel _ _, trivial⟩)⟩
  · have hkt : kt = [] := Decidable.of_not_not hkt
    rw [if_neg (by simp [hkt])] at h1
    subst h1
    repeat first | refine opsStep ?_ | refine codeStep ?_ | refine drawStep ?_
    exact finC [.cells 0 (fcl t), .cells 0 (fcl t), .fro 0 [.str fAnd]] (v' := .agg (fcl t)) (by kernel_rfl) rfl (by kernel_rfl)


theorem w_implies (e : Nat × Nat) (n : Nat) (hP : ∀ r : Rs, 16 * r.ws.length + 6 ≤ n → FormC 88 [] e r (pO e n r)) (hI : ∀ r : Rs, 16 * r.ws.length + 7 ≤ n → FormC 61 [] e r (pI e n r)) (r : Rs) (hn : 16 * r.ws.length + 7 ≤ n + 1) : FormC 61 [] e r (pI e (n + 1) r) := by
  refine FormC.of ?_
  rw [pI]
  have hf := hP r (by omega)
  have hle := le_pO e n r
  generalize pO e n r = x0 at *
  rcases x0 with ⟨t, s⟩
  simp only at hle hf ⊢
  have hk := rd_take e s [fImp] (by simp) (by simp [fImp])
  have hlt := @take_lt s [fImp] (by simp [fImp])
  generalize s.take [fImp] = k at *
  rcases k with ⟨kt, ks⟩
  simp only at hk hlt ⊢
  generalize hfin : (if kt ≠ [] then (twoF 5 t (pI e n ks).1, (pI e n ks).2) else (t, ks)) = fin
  refine ACall.of_sw 15 Tryd.func61 rfl Tryd.ntmps61 (by kernel_rfl) (Nat.le_of_ble_eq_true (by kernel_rfl)) ?_; refine SW.of_vc ?_
  repeat first | refine opsStep ?_ | refine codeStep ?_ | refine drawStep ?_
  refine callT (args := [.ref 0 0 0]) hf [.cells 0 zF] rfl rfl (by simp [bels, AV.bel, rdH]) (rdH_bel _ _ _) (rdH_bel _ _ _) (by simp only [AV.bel]; exact fcl_bel _ _) ?_
  iterate 3 refine opsStep ?_
  repeat refine codeStep ?_
  iterate 1 refine opsStep ?_
  refine opsFrz ?_
  iterate 1 refine opsStep ?_
  refine callT (args := [.ref 0 0 0, aSs .any [fImp]]) hk [.cells 0 zF, .cells 0 (fcl t), .fro 0 [.str fImp]] rfl rfl (by simp [bels, AV.bel, aSs, rdH]) (rdH_bel _ _ _) (rdH_bel _ _ _) (by simp [AV.bel, bels]) ?_
  repeat first | refine opsStep ?_ | refine codeStep ?_ | refine drawStep ?_
  refine decB_dec (fun hkt => ?_) (fun hkt => ?_)
  · have hkt : kt ≠ [] := hkt
    rw [if_pos hkt] at hfin
    have hlt := hlt hkt
    have hf := hI ks (by omega)
    generalize pI e n ks = y at *
    rcases y with ⟨u, s'⟩
    simp only at hf hfin
    subst hfin
    have htwo := p_two 5 t u
    repeat refine codeStep ?_
    refine SW.drawn rfl (by kernel_rfl) ?_
    iterate 2 refine drawStep ?_
    refine drawGot ?_
    refine gotCallW 0 hf rfl rfl (by kernel_rfl) (by kernel_rfl) (by kernel_rfl) (by simp [bels, AV.bel]) (rdC_bel _ _ _) (rdC_bel _ _ _) (by simp only [AV.closed]; exact fcl_closed _) ?_
    iterate 1 refine drawStep ?_
    refine .inl ⟨_, _, [], htwo, RdsN_refl _, .inr rfl, none_need, ?_⟩
    repeat first | refine opsStep ?_ | refine codeStep ?_ | refine drawStep ?_
    refine ⟨by kernel_rfl, ?_⟩
    repeat first | refine opsStep ?_ | refine codeStep ?_ | refine drawStep ?_
    exact finC [.cells 0 (fcl (twoF 5 t u)), .cells 0 (fcl t), .fro 0 [.str fImp]] (v' := .agg (fcl (twoF 5 t u))) (by kernel_rfl) rfl (by kernel_rfl)
  · have hkt : kt = [] := Decidable.of_not_not hkt
    rw [if_neg (by simp [hkt])] at hfin
    subst hfin
    repeat first | refine opsStep ?_ | refine codeStep ?_ | refine drawStep ?_
    exact finC [.cells 0 (fcl t), .cells 0 (fcl t), .fro 0 [.str fImp]] (v' := .agg (fcl t)) (by kernel_rfl) rfl (by kernel_rfl)

theorem w_quantified (e : Nat × Nat) (n : Nat) (hU : ∀ r : Rs, 16 * r.ws.length + 4 ≤ n → FormC 136 [] e r (pU e n r)) (hQ : ∀ op, ∀ r : Rs, 16 * r.ws.length + 5 ≤ n → FormC 140 [.int .i64 op] e r (pQ e n op r)) (op : Int) (r : Rs) (hn : 16 * r.ws.length + 5 ≤ n + 1) : FormC 140 [.int .i64 op] e r (pQ e (n + 1) op r) := by
  refine FormC.of ?_
  rw [pQ]
  have hw := rd_word e r 0
  have hwl := word_le e r 0
  generalize r.word e 0 = x0 at *
  rcases x0 with ⟨w, s⟩
  simp only at hw hwl ⊢
  have hk := rd_take e s [fComma] (by simp) (by simp [fComma])
  have hlt := @take_lt s [fComma] (by simp [fComma])
  have hkl := take_le s [fComma]
  generalize s.take [fComma] = k at *
  rcases k with ⟨kt, ks⟩
  simp only at hk hlt hkl ⊢
  generalize hfin : (if kt ≠ [] then (oneF op w.text (pQ e n op ks).1, (pQ e n op ks).2) else (oneF op w.text (pU e n (ks.need e fDot)).1, (pU e n (ks.need e fDot)).2)) = fin
  refine ACall.of_sw 28 Tryd.func140 rfl Tryd.ntmps140 (by kernel_rfl) (Nat.le_of_ble_eq_true (by kernel_rfl)) ?_; refine SW.of_vc ?_
  repeat first | refine opsStep ?_ | refine codeStep ?_ | refine drawStep ?_
  refine callT (args := [.ref 0 0 0, .int .i64 0]) hw [.cells 0 zF] rfl rfl (by simp [bels, AV.bel, rdH]) (rdH_bel _ _ _) (rdH_bel _ _ _) (by simp only [AV.bel]; exact closeds_bel _ (wdC_closed _)) ?_
  iterate 5 refine opsStep ?_
  repeat refine codeStep ?_
  iterate 1 refine opsStep ?_
  refine opsFrz ?_
  iterate 1 refine opsStep ?_
  refine callT (args := [.ref 0 0 0, aSs .any [fComma]]) hk [.cells 0 zF, .cells 0 [.int .i64 op, .str w.text, .int .i64 0, .sl .nil 0 [], .sl .nil 0 []], .fro 0 [.str fComma]] rfl rfl (by simp [bels, AV.bel, aSs, rdH]) (rdH_bel _ _ _) (rdH_bel _ _ _) (by simp [AV.bel, bels]) ?_
  repeat first | refine opsStep ?_ | refine codeStep ?_ | refine drawStep ?_
  refine decB_dec (fun hkt => ?_) (fun hkt => ?_)
  · have hkt : kt ≠ [] := hkt
    rw [if_pos hkt] at hfin
    have hlt := hlt hkt
    have hf := hQ op ks (by omega)
    generalize pQ e n op ks = y at *
    rcases y with ⟨u, s'⟩
    simp only at hf hfin
    subst hfin
    repeat refine codeStep ?_
    iterate 3 refine opsStep ?_
    refine callT (args := [.ref 0 0 0, .int .i64 op]) hf [.cells 0 zF, .cells 0 [.int .i64 op, .str w.text, .int .i64 0, .sl .nil 0 [], .sl .nil 0 []], .fro 0 [.str fComma]] rfl rfl (by simp [bels, AV.bel, rdH]) (rdH_bel _ _ _) (rdH_bel _ _ _) (by simp only [AV.bel]; exact fcl_bel _ _) ?_
    refine opsFrz ?_
    repeat first | refine opsStep ?_ | refine codeStep ?_ | refine drawStep ?_
    exact finC [.cells 0 [.int .i64 op, .str w.text, .int .i64 0, .sl .nil 0 [], .sl .any 1 (fcl u)], .cells 0 [.int .i64 op, .str w.text, .int .i64 0, .sl .nil 0 [], .sl .any 1 (fcl u)], .fro 0 [.str fComma], .fro 0 (fcl u)] (v' := .agg [.int .i64 op, .str w.text, .int .i64 0, .sl .nil 0 [], .sl .any 1 (fcl u)]) (by kernel_rfl) (by rw [fcl_one]) (by kernel_rfl)
  · have hkt : kt = [] := Decidable.of_not_not hkt
    rw [if_neg (by simp [hkt])] at hfin
    have hnd := rd_need e ks fDot (by simp [fDot])
    have hnl := need_le e ks fDot
    generalize ks.need e fDot = nd at *
    have hf := hU nd (by omega)
    generalize pU e n nd = y at *
    rcases y with ⟨u, s'⟩
    simp only at hf hfin
    subst hfin
    repeat first | refine opsStep ?_ | refine codeStep ?_ | refine drawStep ?_
    refine callT (args := [.ref 0 0 0, .str fDot]) hnd [.cells 0 zF, .cells 0 [.int .i64 op, .str w.text, .int .i64 0, .sl .nil 0 [], .sl .nil 0 []], .fro 0 [.str fComma]] rfl rfl (by simp [bels, AV.bel, rdH]) (rdH_bel _ _ _) (rdH_bel _ _ _) (by simp [AV.bel, bels]) ?_
    iterate 1 refine opsStep ?_
    repeat refine codeStep ?_
    iterate 2 refine opsStep ?_
    refine callT (args := [.ref 0 0 0]) hf [.cells 0 zF, .cells 0 [.int .i64 op, .str w.text, .int .i64 0, .sl .nil 0 [], .sl .nil 0 []], .fro 0 [.str fComma]] rfl rfl (by simp [bels, AV.bel, rdH]) (rdH_bel _ _ _) (rdH_bel _ _ _) (by simp only [AV.bel]; exact fcl_bel _ _) ?_
    refine opsFrz ?_
    repeat first | refine opsStep ?_ | refine codeStep ?_ | refine drawStep ?_
    exact finC [.cells 0 [.int .i64 op, .str w.text, .int .i64 0, .sl .nil 0 [], .sl .any 1 (fcl u)], .cells 0 [.int .i64 op, .str w.text, .int .i64 0, .sl .nil 0 [], .sl .any 1 (fcl u)], .fro 0 [.str fComma], .fro 0 (fcl u)] (v' := .agg [.int .i64 op, .str w.text, .int .i64 0, .sl .nil 0 [], .sl .any 1 (fcl u)]) (by kernel_rfl) (by rw [fcl_one]) (by kernel_rfl)

end Tab

/- The reader of formulas: atoms, and all of it. -/
namespace Tab
open Go Go.Proofs
set_option maxRecDepth 10000
set_option linter.unusedVariables false
set_option linter.unusedSimpArgs false
set_option linter.unusedSectionVars false
set_option maxHeartbeats 1000000

theorem w_unary (e : Nat × Nat) (n : Nat) (hA : ∀ r : Rs, 16 * r.ws.length + 3 ≤ n → FormC 141 [] e r (pAt e n r)) (hF : ∀ r : Rs, 16 * r.ws.length + 8 ≤ n → FormC 40 [] e r (pF e n r)) (hU : ∀ r : Rs, 16 * r.ws.length + 4 ≤ n → FormC 136 [] e r (pU e n r))
    (hQ : ∀ op, ∀ r : Rs, 16 * r.ws.length + 5 ≤ n → FormC 140 [.int .i64 op] e r (pQ e n op r)) (r : Rs) (hn : 16 * r.ws.length + 4 ≤ n + 1) : FormC 136 [] e r (pU e (n + 1) r) := by
  refine FormC.of ?_
  rw [pU]
  have h0 : [] ∉ unL := by simp [unL, fNot, fEx, fAll, fOpen, fTrue, fFalse]
  have hk := rd_take e r unL (by simp [unL]) h0
  have hlt := @take_lt r unL h0
  have hkl := take_le r unL
  generalize r.take unL = k at *
  rcases k with ⟨kt, ks⟩
  simp only at hk hlt hkl ⊢
  generalize hfin : (if kt = fNot then (oneF 2 [] (pU e n ks).1, (pU e n ks).2) else if kt = fEx then pQ e n 7 ks else if kt = fAll then pQ e n 8 ks else if kt = fOpen then ((pF e n ks).1, (pF e n ks).2.need e fClose) else if kt = fTrue then (nilF 0, ks) else if kt = fFalse then (nilF 1, ks) else pAt e n ks) = fin
  refine ACall.of_sw 36 Tryd.func136 rfl Tryd.ntmps136 (by kernel_rfl) (Nat.le_of_ble_eq_true (by kernel_rfl)) ?_; refine SW.of_vc ?_
  repeat refine codeStep ?_
  iterate 2 refine opsStep ?_
  repeat refine codeStep ?_
  iterate 1 refine opsStep ?_
  refine opsFrz ?_
  refine optX_of (c := unL.map AV.str) (by kernel_rfl) ?_
  iterate 1 refine opsStep ?_
  refine callT (args := [.ref 0 0 0, aSs .any unL]) hk [.cells 0 zF, .fro 0 (unL.map .str)] rfl rfl (by simp only [bels, AV.bel]; exact ⟨by show 0 < 1; decide, aSs_bel _ _ _, trivial⟩) (rdH_bel _ _ _) (rdH_bel _ _ _) (by simp [AV.bel, bels]) ?_
  repeat first | refine opsStep ?_ | refine codeStep ?_ | refine drawStep ?_
  refine decB_dec (fun h1 => ?_) (fun h1 => ?_)
  · have h1 : kt = fNot := h1
    rw [if_pos h1] at hfin
    have hlt := hlt (by rw [h1]; simp [fNot])
    have hf := hU ks (by omega)
    generalize pU e n ks = y at *
    rcases y with ⟨u, s⟩
    simp only at hfin hf
    subst hfin
    repeat refine codeStep ?_
    iterate 2 refine opsStep ?_
    refine callT (args := [.ref 0 0 0]) hf [.cells 0 zF, .fro 0 (unL.map .str)] rfl rfl (by simp [bels, AV.bel, rdH]) (rdH_bel _ _ _) (rdH_bel _ _ _) (by simp only [AV.bel]; exact fcl_bel _ _) ?_
    refine opsFrz ?_
    repeat first | refine opsStep ?_ | refine codeStep ?_ | refine drawStep ?_
    exact finC [.cells 0 [.int .i64 2, .str [], .int .i64 0, .sl .nil 0 [], .sl .any 1 (fcl u)], .fro 0 (unL.map .str), .fro 0 (fcl u)] (v' := .agg [.int .i64 2, .str [], .int .i64 0, .sl .nil 0 [], .sl .any 1 (fcl u)]) (by kernel_rfl) (by rw [fcl_one]) (by kernel_rfl)
  have h1 : kt ≠ fNot := h1
  rw [if_neg h1] at hfin
  repeat first | refine opsStep ?_ | refine codeStep ?_ | refine drawStep ?_
  refine decB_dec (fun h2 => ?_) (fun h2 => ?_)
  · have h2 : kt = fEx := h2
    rw [if_pos h2] at hfin
    have hlt := hlt (by rw [h2]; simp [fEx])
    have hf := hQ 7 ks (by omega)
    generalize pQ e n 7 ks = y at *
    rcases y with ⟨u, s⟩
    subst hfin
    repeat first | refine opsStep ?_ | refine codeStep ?_ | refine drawStep ?_
    refine callT (args := [.ref 0 0 0, .int .i64 7]) hf [.cells 0 zF, .fro 0 (unL.map .str)] rfl rfl (by simp [bels, AV.bel, rdH]) (rdH_bel _ _ _) (rdH_bel _ _ _) (by simp only [AV.bel]; exact fcl_bel _ _) ?_
    repeat first | refine opsStep ?_ | refine codeStep ?_ | refine drawStep ?_
    exact finC [.cells 0 (fcl u), .fro 0 (unL.map .str)] (v' := .agg (fcl u)) (by kernel_rfl) rfl (by kernel_rfl)
  have h2 : kt ≠ fEx := h2
  rw [if_neg h2] at hfin
  repeat first | refine opsStep ?_ | refine codeStep ?_ | refine drawStep ?_
  refine decB_dec (fun h3 => ?_) (fun h3 => ?_)
  · have h3 : kt = fAll := h3
    rw [if_pos h3] at hfin
    have hlt := hlt (by rw [h3]; simp [fAll])
    have hf := hQ 8 ks (by omega)
    generalize pQ e n 8 ks = y at *
    rcases y with ⟨u, s⟩
    subst hfin
    repeat first | refine opsStep ?_ | refine codeStep ?_ | refine drawStep ?_
    refine callT (args := [.ref 0 0 0, .int .i64 8]) hf [.cells 0 zF, .fro 0 (unL.map .str)] rfl rfl (by simp [bels, AV.bel, rdH]) (rdH_bel _ _ _) (rdH_bel _ _ _) (by simp only [AV.bel]; exact fcl_bel _ _) ?_
    repeat first | refine opsStep ?_ | refine codeStep ?_ | refine drawStep ?_
    exact finC [.cells 0 (fcl u), .fro 0 (unL.map .str)] (v' := .agg (fcl u)) (by kernel_rfl) rfl (by kernel_rfl)
  have h3 : kt ≠ fAll := h3
  rw [if_neg h3] at hfin
  repeat first | refine opsStep ?_ | refine codeStep ?_ | refine drawStep ?_
  refine decB_dec (fun h4 => ?_) (fun h4 => ?_)
  · have h4 : kt = fOpen := h4
    rw [if_pos h4] at hfin
    have hlt := hlt (by rw [h4]; simp [fOpen])
    have hf := hF ks (by omega)
    generalize pF e n ks = y at *
    rcases y with ⟨u, s⟩
    simp only at hfin hf
    have hnd := rd_need e s fClose (by simp [fClose])
    subst hfin
    repeat first | refine opsStep ?_ | refine codeStep ?_ | refine drawStep ?_
    refine callT (args := [.ref 0 0 0]) hf [.cells 0 zF, .fro 0 (unL.map .str)] rfl rfl (by simp [bels, AV.bel, rdH]) (rdH_bel _ _ _) (rdH_bel _ _ _) (by simp only [AV.bel]; exact fcl_bel _ _) ?_
    repeat first | refine opsStep ?_ | refine codeStep ?_ | refine drawStep ?_
    refine callT (args := [.ref 0 0 0, .str fClose]) hnd [.cells 0 zF, .fro 0 (unL.map .str), .cells 0 (fcl u)] rfl rfl (by simp [bels, AV.bel, rdH]) (rdH_bel _ _ _) (rdH_bel _ _ _) (by simp [AV.bel, bels]) ?_
    repeat first | refine opsStep ?_ | refine codeStep ?_ | refine drawStep ?_
    exact finC [.cells 0 (fcl u), .fro 0 (unL.map .str), .cells 0 (fcl u)] (v' := .agg (fcl u)) (by kernel_rfl) rfl (by kernel_rfl)
  have h4 : kt ≠ fOpen := h4
  rw [if_neg h4] at hfin
  repeat first | refine opsStep ?_ | refine codeStep ?_ | refine drawStep ?_
  refine decB_dec (fun h5 => ?_) (fun h5 => ?_)
  · have h5 : kt = fTrue := h5
    rw [if_pos h5] at hfin
    subst hfin
    repeat first | refine opsStep ?_ | refine codeStep ?_ | refine drawStep ?_
    exact finC [.cells 0 zF, .fro 0 (unL.map .str)] (v' := .agg zF) (by kernel_rfl) rfl (by kernel_rfl)
  have h5 : kt ≠ fTrue := h5
  rw [if_neg h5] at hfin
  repeat first | refine opsStep ?_ | refine codeStep ?_ | refine drawStep ?_
  refine decB_dec (fun h6 => ?_) (fun h6 => ?_)
  · have h6 : kt = fFalse := h6
    rw [if_pos h6] at hfin
    subst hfin
    repeat first | refine opsStep ?_ | refine codeStep ?_ | refine drawStep ?_
    exact finC [.cells 0 (fcl (nilF 1)), .fro 0 (unL.map .str)] (v' := .agg (fcl (nilF 1))) (by kernel_rfl) rfl (by kernel_rfl)
  have h6 : kt ≠ fFalse := h6
  rw [if_neg h6] at hfin
  have hf := hA ks (by omega)
  generalize pAt e n ks = y at *
  rcases y with ⟨u, s⟩
  subst hfin
  repeat first | refine opsStep ?_ | refine codeStep ?_ | refine drawStep ?_
  refine callT (args := [.ref 0 0 0]) hf [.cells 0 zF, .fro 0 (unL.map .str)] rfl rfl (by simp [bels, AV.bel, rdH]) (rdH_bel _ _ _) (rdH_bel _ _ _) (by simp only [AV.bel]; exact fcl_bel _ _) ?_
  repeat first | refine opsStep ?_ | refine codeStep ?_ | refine drawStep ?_
  exact finC [.cells 0 (fcl u), .fro 0 (unL.map .str)] (v' := .agg (fcl u)) (by kernel_rfl) rfl (by kernel_rfl)


set_option maxHeartbeats 3000000 in
theorem w_atom (e : Nat × Nat) (n : Nat) (hT : ∀ r : Rs, 16 * r.ws.length + 3 ≤ n → TermC 48 e r (pT e n r)) (r : Rs) (hn : 16 * r.ws.length + 3 ≤ n) : FormC 141 [] e r (pAt e n r) := by
  refine FormC.of ?_
  unfold pAt
  have h0 : [] ∉ relL := by simp [relL]
  have ha := hT r hn
  have hal := (terms_le e n).1 r
  generalize pT e n r = x at *
  rcases x with ⟨a, s⟩
  simp only at ha hal ⊢
  have hk := rd_take e s relL (by simp [relL]) h0
  have hkl := take_le s relL
  generalize s.take relL = k at *
  rcases k with ⟨kt, ks⟩
  simp only at hk hkl ⊢
  have hwr := rd_wrong e ks 71
  have hr1 : (if kt = [] then ks.wrong e 71 else ks).ws.length ≤ r.ws.length := by
    split
    · rw [wrong_ws]; omega
    · omega
  generalize hr1e : (if kt = [] then ks.wrong e 71 else ks) = r1 at *
  have hb := hT r1 (by omega)
  generalize pT e n r1 = x at *
  rcases x with ⟨b, s2⟩
  simp only at hb ⊢
  have hrel := p_rel kt
  generalize hro : relO kt = ro at *
  generalize hfin : (if ro = 15 then ((.mk 15 [] (modS e s2).1 .any [a, b] .nil [] : FT), (modS e s2).2) else (.mk ro [] 0 .any [a, b] .nil [], s2)) = fin
  refine ACall.of_sw 65 Tryd.func141 rfl Tryd.ntmps141 (by kernel_rfl) (Nat.le_of_ble_eq_true (by kernel_rfl)) ?_; refine SW.of_vc ?_
  repeat first | refine opsStep ?_ | refine codeStep ?_ | refine drawStep ?_
  refine callT (args := [.ref 0 0 0]) ha [.cells 0 zF] rfl rfl (by simp [bels, AV.bel, rdH]) (rdH_bel _ _ _) (rdH_bel _ _ _) (by simp only [AV.bel]; exact tcl_bel _ _) ?_
  iterate 3 refine opsStep ?_
  repeat refine codeStep ?_
  iterate 1 refine opsStep ?_
  refine opsFrz ?_
  refine optX_of (c := relL.map AV.str) (by kernel_rfl) ?_
  iterate 1 refine opsStep ?_
  refine callT (args := [.ref 0 0 0, aSs .any relL]) hk [.cells 0 zF, .cells 0 (tcl a), .fro 0 (relL.map .str)] rfl rfl (by simp only [bels, AV.bel]; exact ⟨by show 0 < 1; decide, aSs_bel _ _ _, trivial⟩) (rdH_bel _ _ _) (rdH_bel _ _ _) (by simp [AV.bel, bels]) ?_
  iterate 2 refine opsStep ?_
  repeat refine codeStep ?_
  iterate 3 refine opsStep ?_
  refine VCode.join (b := decide (kt = [])) (fr [(0, .ref 0 0 0), (2, .ref 1 0 0), (3, .ref 2 0 0), (4, .str kt)]) (rdH e r1 ++ [.cells 0 zF, .cells 0 (tcl a), .fro 0 (relL.map .str)]) (by kernel_rfl) (fun hz => ?_) (fun hz => ?_) (fun s₁ H₁ he => VCode.ent he ?_)
  · have hz : kt = [] := of_decide_eq_true hz
    rw [if_pos hz] at hr1e
    subst hr1e
    repeat first | refine opsStep ?_ | refine codeStep ?_ | refine drawStep ?_
    refine callT (args := [.ref 0 0 0, .int .i64 71]) hwr [.cells 0 zF, .cells 0 (tcl a), .fro 0 (relL.map .str)] rfl rfl (by simp [bels, AV.bel, rdH]) (rdH_bel _ _ _) (rdH_bel _ _ _) (by simp [AV.bel, bels]) ?_
    repeat first | refine opsStep ?_ | refine codeStep ?_ | refine drawStep ?_
    exact Ent.fr' ⟨(by kernel_rfl), (by kernel_rfl), (by kernel_rfl), (by kernel_rfl), trivial⟩ (by kernel_rfl)
  · have hz : ¬ kt = [] := of_decide_eq_false hz
    rw [if_neg hz] at hr1e
    subst hr1e
    repeat first | refine opsStep ?_ | refine codeStep ?_ | refine drawStep ?_
    exact Ent.fr' ⟨(by kernel_rfl), (by kernel_rfl), (by kernel_rfl), (by kernel_rfl), trivial⟩ (by kernel_rfl)
  repeat refine codeStep ?_
  refine SW.drawn rfl (by kernel_rfl) ?_
  iterate 2 refine drawStep ?_
  refine .inl ⟨_, _, [], hrel, RdsN_refl _, .inr rfl, none_need, ?_⟩
  iterate 2 refine drawStep ?_
  refine drawGot ?_
  refine gotCallW 0 hb rfl rfl (by kernel_rfl) (by kernel_rfl) (by kernel_rfl) (by simp [bels, AV.bel]) (rdC_bel _ _ _) (rdC_bel _ _ _) (by simp only [AV.closed]; exact tcl_closed _) ?_
  refine drawFrzN ?_
  refine optX_of (c := tcl a ++ tcl b) (by kernel_rfl) ?_
  repeat first | refine opsStep ?_ | refine codeStep ?_ | refine drawStep ?_
  refine ⟨by kernel_rfl, ?_⟩
  refine VCode.ent (Ent.fr' (l := [(0, .ref 0 0 0), (2, .ref 1 0 0), (5, .ref 5 0 0)]) (H' := rdH e s2 ++ [.cells 0 zF, .cells 0 (tcl a), .fro 0 (relL.map .str), .fro 0 (tcl a ++ tcl b), .cells 0 [.int .i64 ro, .str [], .int .i64 0, .sl .any 2 (tcl a ++ tcl b), .sl .nil 0 []]]) ⟨(by kernel_rfl), (by kernel_rfl), (by kernel_rfl), trivial⟩ (by kernel_rfl)) ?_
  repeat first | refine opsStep ?_ | refine codeStep ?_ | refine drawStep ?_
  refine decB_dec (fun h15 => ?_) (fun h15 => ?_)
  · have h15 : ro = 15 := h15
    rw [if_pos h15] at hfin
    have hnd := rd_need e s2 fMod (by simp [fMod])
    have hM : ∀ r2 : Rs, (if (s2.need e fMod).fl.why = 0 ∧ (s2.need e fMod).ws ≠ [] ∧ (s2.need e fMod).hd.kind = 1 ∧ (s2.need e fMod).hd.num = 0 then (s2.need e fMod).wrong e 92 else s2.need e fMod) = r2 → fin = (.mk 15 [] (r2.word e 1).1.num .any [a, b] .nil [], (r2.word e 1).2) := fun r2 h => by
      rw [← hfin]
      unfold modS
      simp only [h]
    clear hfin
    generalize s2.need e fMod = nd at *
    have hbd := rd_bad e nd
    have hwr2 := rd_wrong e nd 92
    rcases nd with ⟨ws, fl⟩
    repeat first | refine opsStep ?_ | refine codeStep ?_ | refine drawStep ?_
    refine callT (args := [.ref 0 0 0, .str fMod]) hnd [.cells 0 zF, .cells 0 (tcl a), .fro 0 (relL.map .str), .fro 0 (tcl a ++ tcl b), .cells 0 [.int .i64 ro, .str [], .int .i64 0, .sl .any 2 (tcl a ++ tcl b), .sl .nil 0 []]] rfl rfl (by simp [bels, AV.bel, rdH]) (rdH_bel _ _ _) (rdH_bel _ _ _) (by simp [AV.bel, bels]) ?_
    repeat first | refine opsStep ?_ | refine codeStep ?_ | refine drawStep ?_
    cases ws with
    | nil =>
      have hM := hM _ (if_neg fun h => h.2.1 rfl)
      refine callT (args := [.ref 0 0 0]) hbd [.cells 0 zF, .cells 0 (tcl a), .fro 0 (relL.map .str), .fro 0 (tcl a ++ tcl b), .cells 0 [.int .i64 ro, .str [], .int .i64 0, .sl .any 2 (tcl a ++ tcl b), .sl .nil 0 []]] rfl rfl (by simp [bels, AV.bel, rdH]) (rdH_bel _ _ _) (rdH_bel _ _ _) (by simp [AV.bel, bels]) ?_
      repeat first | refine opsStep ?_ | refine codeStep ?_ | refine drawStep ?_
      refine decB_split (fun hb => ?_) (fun hb => ?_)
      · repeat first | refine opsStep ?_ | refine codeStep ?_ | refine drawStep ?_
        have hw1 := rd_word e (⟨[], fl⟩ : Rs) 1
        have hm := hM
        generalize Rs.word e (⟨[], fl⟩ : Rs) 1 = w at hw1 hm
        refine callT (args := [.ref 0 0 0, .int .i64 1]) hw1 [.cells 0 zF, .cells 0 (tcl a), .fro 0 (relL.map .str), .fro 0 (tcl a ++ tcl b), .cells 0 [.int .i64 ro, .str [], .int .i64 0, .sl .any 2 (tcl a ++ tcl b), .sl .nil 0 []]] rfl rfl (by simp [bels, AV.bel, rdH]) (rdH_bel _ _ _) (rdH_bel _ _ _) (by simp only [AV.bel]; exact closeds_bel _ (wdC_closed _)) ?_
        repeat first | refine opsStep ?_ | refine codeStep ?_ | refine drawStep ?_
        exact finC [.cells 0 [.int .i64 ro, .str [], .int .i64 w.1.num, .sl .any 2 (tcl a ++ tcl b), .sl .nil 0 []], .cells 0 (tcl a), .fro 0 (relL.map .str), .fro 0 (tcl a ++ tcl b), .cells 0 [.int .i64 ro, .str [], .int .i64 w.1.num, .sl .any 2 (tcl a ++ tcl b), .sl .nil 0 []]] (v' := .agg [.int .i64 ro, .str [], .int .i64 w.1.num, .sl .any 2 (tcl a ++ tcl b), .sl .nil 0 []]) (by kernel_rfl) (by rw [hm, h15, fcl_atom]) (by rw [hm]; rfl)
      · repeat first | refine opsStep ?_ | refine codeStep ?_ | refine drawStep ?_
        have hw1 := rd_word e (⟨[], fl⟩ : Rs) 1
        have hm := hM
        generalize Rs.word e (⟨[], fl⟩ : Rs) 1 = w at hw1 hm
        refine callT (args := [.ref 0 0 0, .int .i64 1]) hw1 [.cells 0 zF, .cells 0 (tcl a), .fro 0 (relL.map .str), .fro 0 (tcl a ++ tcl b), .cells 0 [.int .i64 ro, .str [], .int .i64 0, .sl .any 2 (tcl a ++ tcl b), .sl .nil 0 []]] rfl rfl (by simp [bels, AV.bel, rdH]) (rdH_bel _ _ _) (rdH_bel _ _ _) (by simp only [AV.bel]; exact closeds_bel _ (wdC_closed _)) ?_
        repeat first | refine opsStep ?_ | refine codeStep ?_ | refine drawStep ?_
        exact finC [.cells 0 [.int .i64 ro, .str [], .int .i64 w.1.num, .sl .any 2 (tcl a ++ tcl b), .sl .nil 0 []], .cells 0 (tcl a), .fro 0 (relL.map .str), .fro 0 (tcl a ++ tcl b), .cells 0 [.int .i64 ro, .str [], .int .i64 w.1.num, .sl .any 2 (tcl a ++ tcl b), .sl .nil 0 []]] (v' := .agg [.int .i64 ro, .str [], .int .i64 w.1.num, .sl .any 2 (tcl a ++ tcl b), .sl .nil 0 []]) (by kernel_rfl) (by rw [hm, h15, fcl_atom]) (by rw [hm]; rfl)
    | cons w l =>
      refine callT (args := [.ref 0 0 0]) hbd [.cells 0 zF, .cells 0 (tcl a), .fro 0 (relL.map .str), .fro 0 (tcl a ++ tcl b), .cells 0 [.int .i64 ro, .str [], .int .i64 0, .sl .any 2 (tcl a ++ tcl b), .sl .nil 0 []]] rfl rfl (by simp [bels, AV.bel, rdH]) (rdH_bel _ _ _) (rdH_bel _ _ _) (by simp [AV.bel, bels]) ?_
      repeat first | refine opsStep ?_ | refine codeStep ?_ | refine drawStep ?_
      refine decB_split (fun hb => ?_) (fun hb => ?_)
      rotate_left
      · have hb : fl.why ≠ 0 := by simpa using hb
        have hM := hM _ (if_neg fun h => hb h.1)
        repeat first | refine opsStep ?_ | refine codeStep ?_ | refine drawStep ?_
        have hw1 := rd_word e (⟨w :: l, fl⟩ : Rs) 1
        have hm := hM
        generalize Rs.word e (⟨w :: l, fl⟩ : Rs) 1 = w at hw1 hm
        refine callT (args := [.ref 0 0 0, .int .i64 1]) hw1 [.cells 0 zF, .cells 0 (tcl a), .fro 0 (relL.map .str), .fro 0 (tcl a ++ tcl b), .cells 0 [.int .i64 ro, .str [], .int .i64 0, .sl .any 2 (tcl a ++ tcl b), .sl .nil 0 []]] rfl rfl (by simp [bels, AV.bel, rdH]) (rdH_bel _ _ _) (rdH_bel _ _ _) (by simp only [AV.bel]; exact closeds_bel _ (wdC_closed _)) ?_
        repeat first | refine opsStep ?_ | refine codeStep ?_ | refine drawStep ?_
        exact finC [.cells 0 [.int .i64 ro, .str [], .int .i64 w.1.num, .sl .any 2 (tcl a ++ tcl b), .sl .nil 0 []], .cells 0 (tcl a), .fro 0 (relL.map .str), .fro 0 (tcl a ++ tcl b), .cells 0 [.int .i64 ro, .str [], .int .i64 w.1.num, .sl .any 2 (tcl a ++ tcl b), .sl .nil 0 []]] (v' := .agg [.int .i64 ro, .str [], .int .i64 w.1.num, .sl .any 2 (tcl a ++ tcl b), .sl .nil 0 []]) (by kernel_rfl) (by rw [hm, h15, fcl_atom]) (by rw [hm]; rfl)
      · have hb : fl.why = 0 := by simpa using hb
        repeat first | refine opsStep ?_ | refine codeStep ?_ | refine drawStep ?_
        refine decB_true (b := decide (((l.length + 1 : Nat) : Int) > 0)) (by simp) ?_
        repeat first | refine opsStep ?_ | refine codeStep ?_ | refine drawStep ?_
        refine guardE_of ⟨by decide, by show (0 : Int) < ((l.length + 1 : Nat) : Int); omega⟩ ?_
        repeat first | refine opsStep ?_ | refine codeStep ?_ | refine drawStep ?_
        refine decB_dec (fun hk1 => ?_) (fun hk1 => ?_)
        · have hk1 : w.kind = 1 := hk1
          repeat first | refine opsStep ?_ | refine codeStep ?_ | refine drawStep ?_
          refine guardE_of ⟨by decide, by show (0 : Int) < ((l.length + 1 : Nat) : Int); omega⟩ ?_
          repeat first | refine opsStep ?_ | refine codeStep ?_ | refine drawStep ?_
          refine decB_dec (fun hn0 => ?_) (fun hn0 => ?_)
          · have hn0 : w.num = 0 := by have : (w.num : Int) = 0 := hn0; omega
            have hM := hM _ (if_pos ⟨hb, by simp, hk1, hn0⟩)
            repeat first | refine opsStep ?_ | refine codeStep ?_ | refine drawStep ?_
            refine callT (args := [.ref 0 0 0, .int .i64 92]) hwr2 [.cells 0 zF, .cells 0 (tcl a), .fro 0 (relL.map .str), .fro 0 (tcl a ++ tcl b), .cells 0 [.int .i64 ro, .str [], .int .i64 0, .sl .any 2 (tcl a ++ tcl b), .sl .nil 0 []]] rfl rfl (by simp [bels, AV.bel, rdH]) (rdH_bel _ _ _) (rdH_bel _ _ _) (by simp [AV.bel, bels]) ?_
            repeat first | refine opsStep ?_ | refine codeStep ?_ | refine drawStep ?_
            generalize Rs.wrong e ⟨w :: l, fl⟩ 92 = r2 at *
            have hw1 := rd_word e r2 1
            have hm := hM
            generalize Rs.word e r2 1 = w at hw1 hm
            refine callT (args := [.ref 0 0 0, .int .i64 1]) hw1 [.cells 0 zF, .cells 0 (tcl a), .fro 0 (relL.map .str), .fro 0 (tcl a ++ tcl b), .cells 0 [.int .i64 ro, .str [], .int .i64 0, .sl .any 2 (tcl a ++ tcl b), .sl .nil 0 []]] rfl rfl (by simp [bels, AV.bel, rdH]) (rdH_bel _ _ _) (rdH_bel _ _ _) (by simp only [AV.bel]; exact closeds_bel _ (wdC_closed _)) ?_
            repeat first | refine opsStep ?_ | refine codeStep ?_ | refine drawStep ?_
            exact finC [.cells 0 [.int .i64 ro, .str [], .int .i64 w.1.num, .sl .any 2 (tcl a ++ tcl b), .sl .nil 0 []], .cells 0 (tcl a), .fro 0 (relL.map .str), .fro 0 (tcl a ++ tcl b), .cells 0 [.int .i64 ro, .str [], .int .i64 w.1.num, .sl .any 2 (tcl a ++ tcl b), .sl .nil 0 []]] (v' := .agg [.int .i64 ro, .str [], .int .i64 w.1.num, .sl .any 2 (tcl a ++ tcl b), .sl .nil 0 []]) (by kernel_rfl) (by rw [hm, h15, fcl_atom]) (by rw [hm]; rfl)
          · have hn0 : w.num ≠ 0 := by have : ¬ (w.num : Int) = 0 := hn0; omega
            have hM := hM _ (if_neg fun h => hn0 h.2.2.2)
            repeat first | refine opsStep ?_ | refine codeStep ?_ | refine drawStep ?_
            have hw1 := rd_word e (⟨w :: l, fl⟩ : Rs) 1
            have hm := hM
            generalize Rs.word e (⟨w :: l, fl⟩ : Rs) 1 = w at hw1 hm
            refine callT (args := [.ref 0 0 0, .int .i64 1]) hw1 [.cells 0 zF, .cells 0 (tcl a), .fro 0 (relL.map .str), .fro 0 (tcl a ++ tcl b), .cells 0 [.int .i64 ro, .str [], .int .i64 0, .sl .any 2 (tcl a ++ tcl b), .sl .nil 0 []]] rfl rfl (by simp [bels, AV.bel, rdH]) (rdH_bel _ _ _) (rdH_bel _ _ _) (by simp only [AV.bel]; exact closeds_bel _ (wdC_closed _)) ?_
            repeat first | refine opsStep ?_ | refine codeStep ?_ | refine drawStep ?_
            exact finC [.cells 0 [.int .i64 ro, .str [], .int .i64 w.1.num, .sl .any 2 (tcl a ++ tcl b), .sl .nil 0 []], .cells 0 (tcl a), .fro 0 (relL.map .str), .fro 0 (tcl a ++ tcl b), .cells 0 [.int .i64 ro, .str [], .int .i64 w.1.num, .sl .any 2 (tcl a ++ tcl b), .sl .nil 0 []]] (v' := .agg [.int .i64 ro, .str [], .int .i64 w.1.num, .sl .any 2 (tcl a ++ tcl b), .sl .nil 0 []]) (by kernel_rfl) (by rw [hm, h15, fcl_atom]) (by rw [hm]; rfl)
        · have hk1 : w.kind ≠ 1 := hk1
          have hM := hM _ (if_neg fun h => hk1 h.2.2.1)
          repeat first | refine opsStep ?_ | refine codeStep ?_ | refine drawStep ?_
          have hw1 := rd_word e (⟨w :: l, fl⟩ : Rs) 1
          have hm := hM
          generalize Rs.word e (⟨w :: l, fl⟩ : Rs) 1 = w at hw1 hm
          refine callT (args := [.ref 0 0 0, .int .i64 1]) hw1 [.cells 0 zF, .cells 0 (tcl a), .fro 0 (relL.map .str), .fro 0 (tcl a ++ tcl b), .cells 0 [.int .i64 ro, .str [], .int .i64 0, .sl .any 2 (tcl a ++ tcl b), .sl .nil 0 []]] rfl rfl (by simp [bels, AV.bel, rdH]) (rdH_bel _ _ _) (rdH_bel _ _ _) (by simp only [AV.bel]; exact closeds_bel _ (wdC_closed _)) ?_
          repeat first | refine opsStep ?_ | refine codeStep ?_ | refine drawStep ?_
          exact finC [.cells 0 [.int .i64 ro, .str [], .int .i64 w.1.num, .sl .any 2 (tcl a ++ tcl b), .sl .nil 0 []], .cells 0 (tcl a), .fro 0 (relL.map .str), .fro 0 (tcl a ++ tcl b), .cells 0 [.int .i64 ro, .str [], .int .i64 w.1.num, .sl .any 2 (tcl a ++ tcl b), .sl .nil 0 []]] (v' := .agg [.int .i64 ro, .str [], .int .i64 w.1.num, .sl .any 2 (tcl a ++ tcl b), .sl .nil 0 []]) (by kernel_rfl) (by rw [hm, h15, fcl_atom]) (by rw [hm]; rfl)
  · have h15 : ro ≠ 15 := h15
    rw [if_neg h15] at hfin
    repeat first | refine opsStep ?_ | refine codeStep ?_ | refine drawStep ?_
    exact finC [.cells 0 [.int .i64 ro, .str [], .int .i64 0, .sl .any 2 (tcl a ++ tcl b), .sl .nil 0 []], .cells 0 (tcl a), .fro 0 (relL.map .str), .fro 0 (tcl a ++ tcl b), .cells 0 [.int .i64 ro, .str [], .int .i64 0, .sl .any 2 (tcl a ++ tcl b), .sl .nil 0 []]] (v' := .agg [.int .i64 ro, .str [], .int .i64 0, .sl .any 2 (tcl a ++ tcl b), .sl .nil 0 []]) (by kernel_rfl) (by rw [← hfin, fcl_atom]) (by rw [← hfin]; rfl)

end Tab

/- The reader of formulas and terms, all of it. -/
namespace Tab
open Go Go.Proofs
set_option maxRecDepth 10000
set_option linter.unusedVariables false
set_option linter.unusedSimpArgs false
set_option linter.unusedSectionVars false
set_option maxHeartbeats 1000000

theorem w_forms (e : Nat × Nat) : ∀ n, (∀ r : Rs, 16 * r.ws.length + 8 ≤ n → FormC 40 [] e r (pF e n r)) ∧ (∀ r : Rs, 16 * r.ws.length + 7 ≤ n → FormC 61 [] e r (pI e n r)) ∧ (∀ r : Rs, 16 * r.ws.length + 6 ≤ n → FormC 88 [] e r (pO e n r)) ∧
    (∀ r : Rs, 16 * r.ws.length + 5 ≤ n → FormC 120 [] e r (pA e n r)) ∧ (∀ r : Rs, 16 * r.ws.length + 4 ≤ n → FormC 136 [] e r (pU e n r)) ∧ (∀ op, ∀ r : Rs, 16 * r.ws.length + 5 ≤ n → FormC 140 [.int .i64 op] e r (pQ e n op r)) := by
  intro n
  induction n using Nat.strongRecOn with
  | _ n ih =>
    cases n with
    | zero => exact ⟨fun r h => by omega, fun r h => by omega, fun r h => by omega, fun r h => by omega, fun r h => by omega, fun _ r h => by omega⟩
    | succ n =>
      have hn := ih n (by omega)
      exact ⟨w_formula e n hn.2.1 (fun m hm => (ih m (by omega)).2.1), w_implies e n hn.2.2.1 hn.2.1, w_or e n hn.2.2.2.1 (fun m hm => (ih m (by omega)).2.2.2.1), w_and e n hn.2.2.2.2.1 (fun m hm => (ih m (by omega)).2.2.2.2.1),
        w_unary e n (fun r h => w_atom e n (w_terms e n).1 r h) hn.1 hn.2.2.2.2.1 hn.2.2.2.2.2, w_quantified e n hn.2.2.2.2.1 hn.2.2.2.2.2⟩

theorem rd_done (e : Nat × Nat) (r : Rs) : ACall Tryd.prog 41 [.ref 0 0 0] (rdH e r) fun o H' => o = .ret (.tup []) ∧ H' = rdH e (r.done e) := by
  have hw := rd_wrong e r 71
  unfold Rs.done
  rcases r with ⟨ws, fl⟩
  cases ws with
  | nil =>
    refine ACall.of_sw 10 Tryd.func41 rfl Tryd.ntmps41 (by kernel_rfl) (Nat.le_of_ble_eq_true (by kernel_rfl)) ?_; refine SW.of_vc ?_
    repeat first | refine opsStep ?_ | refine codeStep ?_ | refine drawStep ?_
    exact finR (l := []) (v := .tup []) (H₁ := rdH e ⟨[], fl⟩) trivial (by kernel_rfl) (Ent.refl _ _ _) (by kernel_rfl) ⟨rfl, rfl⟩
  | cons w l =>
    refine ACall.of_sw 10 Tryd.func41 rfl Tryd.ntmps41 (by kernel_rfl) (Nat.le_of_ble_eq_true (by kernel_rfl)) ?_; refine SW.of_vc ?_
    repeat first | refine opsStep ?_ | refine codeStep ?_ | refine drawStep ?_
    refine decB_true (b := decide (((l.length + 1 : Nat) : Int) > 0)) (by simp) ?_
    repeat first | refine opsStep ?_ | refine codeStep ?_ | refine drawStep ?_
    refine callT (args := [.ref 0 0 0, .int .i64 71]) hw [] rfl rfl (by simp [bels, AV.bel, rdH]) (rdH_bel _ _ _) (rdH_bel _ _ _) (by simp [AV.bel, bels]) ?_
    repeat first | refine opsStep ?_ | refine codeStep ?_ | refine drawStep ?_
    exact finR (l := []) (v := .tup []) (H₁ := rdH e (Rs.wrong e ⟨w :: l, fl⟩ 71)) trivial (by kernel_rfl) (Ent.refl _ _ _) (by kernel_rfl) ⟨rfl, rfl⟩

theorem p_open (s : Str) (hl : s.length < 2^62) : ACall Tryd.prog 39 [.str s] [] fun o H' => o = .ret (.ref 0 0 0) ∧ H' = rdH (endS s) (rs0 s) := by
  have hlx := lex_Words s hl
  have hrc := runeCount s hl
  have hE : rdH (endS s) (rs0 s) = [.cells 0 [aWs .any (lexS s).1, .int .i64 s.length, .int .i64 (chS s), .int .i64 (lexS s).2.why, .int .i64 (lexS s).2.at', .int .i64 (lexS s).2.ch]] := rfl
  rw [hE]
  generalize lexS s = x at *
  rcases x with ⟨W, F⟩
  simp only at hlx ⊢
  refine ACall.of_sw 19 Tryd.func39 rfl Tryd.ntmps39 (by kernel_rfl) (Nat.le_of_ble_eq_true (by kernel_rfl)) ?_; refine SW.of_vc ?_
  repeat first | refine opsStep ?_ | refine codeStep ?_ | refine drawStep ?_
  refine callP hlx ?_
  repeat first | refine opsStep ?_ | refine codeStep ?_ | refine drawStep ?_
  refine SW.drawn rfl (by kernel_rfl) ?_
  iterate 5 refine drawStep ?_
  refine .inl ⟨_, _, [], hrc, RdsN_refl _, .inr rfl, none_need, ?_⟩
  repeat first | refine opsStep ?_ | refine codeStep ?_ | refine drawStep ?_
  refine ⟨by kernel_rfl, ?_⟩
  repeat first | refine opsStep ?_ | refine codeStep ?_ | refine drawStep ?_
  refine ⟨fr [(2, .ref 0 0 0)], _, .ref 0 0 0, Ent.pick [1] (by decide) (by intro b hb; simp at hb; subst hb; show 1 < 2; decide) (fun b hb => absurd hb (Nat.not_lt_zero _)) _ _ rfl (frOk_rn ⟨(by kernel_rfl), trivial⟩) ?_ (by simp [frBel, AV.bel]) ?_, (by kernel_rfl), rfl, rfl⟩
  · intro i x b hi hb
    match i, hb with
    | 0, hb =>
      simp at hi hb
      subst hi hb
      have hc : closeds [aWs .any W, .int .i64 s.length, .int .i64 (chS s), .int .i64 F.why, .int .i64 F.at', .int .i64 F.ch] := by simp only [closeds, AV.closed]; exact ⟨aWs_closed _ _, trivial, trivial, trivial, trivial, trivial, trivial⟩
      show some (Blk.cells 0 [aWs .any W, .int .i64 s.length, .int .i64 (chS s), .int .i64 F.why, .int .i64 F.at', .int .i64 F.ch]) = some (Blk.cells 0 (rns _ _))
      rw [closeds_rn _ hc]
    | i + 1, hb => simp at hb
  · have hc : closeds [aWs .any W, .int .i64 s.length, .int .i64 (chS s), .int .i64 F.why, .int .i64 F.at', .int .i64 F.ch] := by simp only [closeds, AV.closed]; exact ⟨aWs_closed _ _, trivial, trivial, trivial, trivial, trivial, trivial⟩
    exact ⟨closeds_bel _ hc, trivial⟩


theorem rdC_closed (e : Nat × Nat) (r : Rs) : closeds (rdC e r) := by simp only [rdC, closeds, AV.closed]; exact ⟨aWs_closed _ _, trivial, trivial, trivial, trivial, trivial, trivial⟩
def zL : List AV := [.int .i64 0, .int .i64 0, .int .i64 0]
def setW (r : Rs) (y : Int) : Rs := ⟨r.ws, ⟨y, r.fl.at', r.fl.ch⟩⟩
theorem parse_Formula (s : Str) (hl : s.length < 2^62) : Pure Tryd.prog 20 [.str s] (.tup [.agg (fcl (parF s).1), .agg (fltC (parF s).2)]) := by
  have hop := p_open s hl
  have hrf := (w_forms (endS s) _).1 (rs0 s) (by show 16 * (rs0 s).ws.length + 8 ≤ 16 * (rs0 s).ws.length + 16; omega)
  have hok := readF_ok s
  have hchk := tree_Check (readF s).1 hok
  rw [FT.cells_eq] at hchk
  change Pure Tryd.prog 25 [.agg (fcl (readF s).1)] _ at hchk
  change FormC 40 [] (endS s) (rs0 s) (readF s) at hrf
  have hdn := rd_done (endS s) (readF s).2
  have hE : parF s = if ((readF s).2.done (endS s)).fl.why ≠ 0 then (nilF 0, ((readF s).2.done (endS s)).fl) else if chkF (readF s).1 ≠ 0 then (nilF 0, ⟨chkF (readF s).1, ((readF s).2.done (endS s)).fl.at', ((readF s).2.done (endS s)).fl.ch⟩) else ((readF s).1, ⟨0, ((readF s).2.done (endS s)).fl.at', ((readF s).2.done (endS s)).fl.ch⟩) := rfl
  generalize parF s = res at *
  generalize readF s = x at *
  rcases x with ⟨f, r⟩
  simp only at hrf hchk hdn hE
  generalize r.done (endS s) = r1 at *
  generalize chkF f = c at *
  clear hok
  refine Pure.of_sw 33 Tryd.func20 rfl Tryd.ntmps20 (by kernel_rfl) (Nat.le_of_ble_eq_true (by kernel_rfl)) (by simp only [closeds, AV.closed]; exact ⟨trivial, trivial⟩) (by simp only [AV.closed, closeds]; exact ⟨fcl_closed _, fltC_closed _, trivial⟩) ?_
  refine SW.of_vc ?_
  repeat first | refine opsStep ?_ | refine codeStep ?_ | refine drawStep ?_
  refine callS (args := [.str s]) (by simp [closeds, AV.closed]) hop (fun X h => by simp at h) (fun v X h => ?_)
  obtain ⟨h1, rfl⟩ := h
  cases h1
  iterate 2 refine opsStep ?_
  refine VCode.ent (Ent.fr' (l := [(2, .ref 0 0 0), (3, .ref 1 0 0), (4, .ref 2 0 0)]) (H' := [.cells 0 zF, .cells 0 zL, .cells 0 (rdC (endS s) (rs0 s))]) ⟨(by kernel_rfl), (by kernel_rfl), (by kernel_rfl), trivial⟩ (Eq.trans (b := [.cells 0 zF, .cells 0 zL, .cells 0 (shs 2 (rdC (endS s) (rs0 s)))]) (by kernel_rfl) (by rw [closeds_sh _ (rdC_closed _ _)]))) ?_
  refine VCode.ent (Ent.pick [2, 0, 1] (by decide) (by intro b hb; simp at hb; show b < 3; omega) (fun b hb => absurd hb (Nat.not_lt_zero _)) [(2, .ref 1 0 0), (3, .ref 2 0 0), (4, .ref 0 0 0)] (rdH (endS s) (rs0 s) ++ [.cells 0 zF, .cells 0 zL]) rfl (frOk_rn ⟨(by kernel_rfl), (by kernel_rfl), (by kernel_rfl), trivial⟩) ?_ (by simp [frBel, AV.bel]) (rdX_bel (X := [.cells 0 zF, .cells 0 zL]) _ _ ⟨zF_bel _, by simp [Blk.bel, zL, bels, AV.bel], trivial⟩)) ?_
  · intro zF_bel x b hi hb
    match zF_bel, hb with
    | 0, hb =>
      simp at hb
      subst hb
      have hi : Blk.cells 0 (rdC (endS s) (rs0 s)) = x := Option.some.inj hi
      subst hi
      show some (Blk.cells 0 (rdC (endS s) (rs0 s))) = some (Blk.cells 0 (rns _ _))
      rw [closeds_rn _ (rdC_closed _ _)]
    | 1, hb => simp at hb; subst hb; have hi := Option.some.inj hi; subst hi; exact rfl
    | 2, hb => simp at hb; subst hb; have hi := Option.some.inj hi; subst hi; exact rfl
    | zF_bel + 3, hb => simp at hb
  repeat first | refine opsStep ?_ | refine codeStep ?_ | refine drawStep ?_
  refine callT (args := [.ref 0 0 0]) hrf [.cells 0 zF, .cells 0 zL] rfl rfl (by simp [bels, AV.bel, rdH]) (rdH_bel _ _ _) (rdH_bel _ _ _) (by simp only [AV.bel]; exact fcl_bel _ _) ?_
  repeat first | refine opsStep ?_ | refine codeStep ?_ | refine drawStep ?_
  refine callT (args := [.ref 0 0 0]) hdn [.cells 0 zF, .cells 0 zL, .cells 0 (fcl f)] rfl rfl (by simp [bels, AV.bel, rdH]) (rdH_bel _ _ _) (rdH_bel _ _ _) (by simp [AV.bel, bels]) ?_
  repeat first | refine opsStep ?_ | refine codeStep ?_ | refine drawStep ?_
  refine callT (args := [.ref 0 0 0]) (rd_bad (endS s) r1) [.cells 0 zF, .cells 0 zL, .cells 0 (fcl f)] rfl rfl (by simp [bels, AV.bel, rdH]) (rdH_bel _ _ _) (rdH_bel _ _ _) (by simp [AV.bel, bels]) ?_
  repeat first | refine opsStep ?_ | refine codeStep ?_ | refine drawStep ?_
  refine decB_split (fun hb => ?_) (fun hb => ?_)
  rotate_left
  · have hb : r1.fl.why ≠ 0 := by simpa using hb
    rw [if_pos hb] at hE
    repeat first | refine opsStep ?_ | refine codeStep ?_ | refine drawStep ?_
    refine callT (args := [.ref 0 0 0]) (rd_bad (endS s) r1) [.cells 0 zF, .cells 0 zL, .cells 0 (fcl f)] rfl rfl (by simp [bels, AV.bel, rdH]) (rdH_bel _ _ _) (rdH_bel _ _ _) (by simp [AV.bel, bels]) ?_
    repeat first | refine opsStep ?_ | refine codeStep ?_ | refine drawStep ?_
    refine decB_true (b := decide (r1.fl.why ≠ 0)) (by simpa using hb) ?_
    repeat refine codeStep ?_
    refine SW.drawn rfl (by kernel_rfl) ?_
    repeat first | refine opsStep ?_ | refine codeStep ?_ | refine drawStep ?_
    refine ⟨by kernel_rfl, ?_⟩
    repeat first | refine opsStep ?_ | refine codeStep ?_ | refine drawStep ?_
    exact finV (v' := .tup [.agg zF, .agg (fltC r1.fl)]) (by kernel_rfl) (by rw [hE]; rfl)
  · have hb : r1.fl.why = 0 := by simpa using hb
    rw [if_neg (by simp [hb])] at hE
    repeat first | refine opsStep ?_ | refine codeStep ?_ | refine drawStep ?_
    refine callP hchk ?_
    repeat first | refine opsStep ?_ | refine codeStep ?_ | refine drawStep ?_
    refine callT (args := [.ref 0 0 0]) (rd_bad (endS s) (setW r1 c)) [.cells 0 zF, .cells 0 zL, .cells 0 (fcl f)] rfl rfl (by simp [bels, AV.bel, rdH]) (rdH_bel _ _ _) (rdH_bel _ _ _) (by simp [AV.bel, bels]) ?_
    repeat first | refine opsStep ?_ | refine codeStep ?_ | refine drawStep ?_
    refine decB_dec (fun hc => ?_) (fun hc => ?_)
    · have hc : c ≠ 0 := hc
      rw [if_pos hc] at hE
      repeat refine codeStep ?_
      refine SW.drawn rfl (by kernel_rfl) ?_
      repeat first | refine opsStep ?_ | refine codeStep ?_ | refine drawStep ?_
      refine ⟨by kernel_rfl, ?_⟩
      repeat first | refine opsStep ?_ | refine codeStep ?_ | refine drawStep ?_
      exact finV (v' := .tup [.agg zF, .agg (fltC ⟨c, r1.fl.at', r1.fl.ch⟩)]) (by kernel_rfl) (by rw [hE]; rfl)
    · have hc : c = 0 := Decidable.of_not_not hc
      rw [if_neg (by simp [hc])] at hE
      repeat refine codeStep ?_
      iterate 0 refine opsStep ?_
      repeat first | refine opsStep ?_ | refine codeStep ?_ | refine drawStep ?_
      refine SW.drawn rfl (by kernel_rfl) ?_
      repeat first | refine opsStep ?_ | refine codeStep ?_ | refine drawStep ?_
      refine ⟨by kernel_rfl, ?_⟩
      repeat first | refine opsStep ?_ | refine codeStep ?_ | refine drawStep ?_
      exact finV (v' := .tup [.agg (fcl f), .agg (fltC ⟨c, r1.fl.at', r1.fl.ch⟩)]) (by kernel_rfl) (by rw [hE, hc])

theorem parse_Term (s : Str) (hl : s.length < 2^62) : Pure Tryd.prog 27 [.str s] (.tup [.agg (tcl (parT s).1), .agg (fltC (parT s).2)]) := by
  have hop := p_open s hl
  have hrf := (w_terms (endS s) _).1 (rs0 s) (by show 16 * (rs0 s).ws.length + 3 ≤ 16 * (rs0 s).ws.length + 16; omega)
  have hok := readT_ok s
  have hchk := tree_CheckTerm (readT s).1 hok
  rw [TT.cells_eq] at hchk
  change Pure Tryd.prog 35 [.agg (tcl (readT s).1)] _ at hchk
  change TermC 48 (endS s) (rs0 s) (readT s) at hrf
  have hdn := rd_done (endS s) (readT s).2
  have hE : parT s = if ((readT s).2.done (endS s)).fl.why ≠ 0 then ((.mk 0 0 [] .nil [] : TT), ((readT s).2.done (endS s)).fl) else if chkT (readT s).1 ≠ 0 then ((.mk 0 0 [] .nil [] : TT), ⟨chkT (readT s).1, ((readT s).2.done (endS s)).fl.at', ((readT s).2.done (endS s)).fl.ch⟩) else ((readT s).1, ⟨0, ((readT s).2.done (endS s)).fl.at', ((readT s).2.done (endS s)).fl.ch⟩) := rfl
  generalize parT s = res at *
  generalize readT s = x at *
  rcases x with ⟨f, r⟩
  simp only at hrf hchk hdn hE
  generalize r.done (endS s) = r1 at *
  generalize chkT f = c at *
  clear hok
  refine Pure.of_sw 33 Tryd.func27 rfl Tryd.ntmps27 (by kernel_rfl) (Nat.le_of_ble_eq_true (by kernel_rfl)) (by simp only [closeds, AV.closed]; exact ⟨trivial, trivial⟩) (by simp only [AV.closed, closeds]; exact ⟨tcl_closed _, fltC_closed _, trivial⟩) ?_
  refine SW.of_vc ?_
  repeat first | refine opsStep ?_ | refine codeStep ?_ | refine drawStep ?_
  refine callS (args := [.str s]) (by simp [closeds, AV.closed]) hop (fun X h => by simp at h) (fun v X h => ?_)
  obtain ⟨h1, rfl⟩ := h
  cases h1
  iterate 2 refine opsStep ?_
  refine VCode.ent (Ent.fr' (l := [(2, .ref 0 0 0), (3, .ref 1 0 0), (4, .ref 2 0 0)]) (H' := [.cells 0 zT, .cells 0 zL, .cells 0 (rdC (endS s) (rs0 s))]) ⟨(by kernel_rfl), (by kernel_rfl), (by kernel_rfl), trivial⟩ (Eq.trans (b := [.cells 0 zT, .cells 0 zL, .cells 0 (shs 2 (rdC (endS s) (rs0 s)))]) (by kernel_rfl) (by rw [closeds_sh _ (rdC_closed _ _)]))) ?_
  refine VCode.ent (Ent.pick [2, 0, 1] (by decide) (by intro b hb; simp at hb; show b < 3; omega) (fun b hb => absurd hb (Nat.not_lt_zero _)) [(2, .ref 1 0 0), (3, .ref 2 0 0), (4, .ref 0 0 0)] (rdH (endS s) (rs0 s) ++ [.cells 0 zT, .cells 0 zL]) rfl (frOk_rn ⟨(by kernel_rfl), (by kernel_rfl), (by kernel_rfl), trivial⟩) ?_ (by simp [frBel, AV.bel]) (rdX_bel (X := [.cells 0 zT, .cells 0 zL]) _ _ ⟨zT_bel _, by simp [Blk.bel, zL, bels, AV.bel], trivial⟩)) ?_
  · intro zT_bel x b hi hb
    match zT_bel, hb with
    | 0, hb =>
      simp at hb
      subst hb
      have hi : Blk.cells 0 (rdC (endS s) (rs0 s)) = x := Option.some.inj hi
      subst hi
      show some (Blk.cells 0 (rdC (endS s) (rs0 s))) = some (Blk.cells 0 (rns _ _))
      rw [closeds_rn _ (rdC_closed _ _)]
    | 1, hb => simp at hb; subst hb; have hi := Option.some.inj hi; subst hi; exact rfl
    | 2, hb => simp at hb; subst hb; have hi := Option.some.inj hi; subst hi; exact rfl
    | zT_bel + 3, hb => simp at hb
  repeat first | refine opsStep ?_ | refine codeStep ?_ | refine drawStep ?_
  refine callT (args := [.ref 0 0 0]) hrf [.cells 0 zT, .cells 0 zL] rfl rfl (by simp [bels, AV.bel, rdH]) (rdH_bel _ _ _) (rdH_bel _ _ _) (by simp only [AV.bel]; exact tcl_bel _ _) ?_
  repeat first | refine opsStep ?_ | refine codeStep ?_ | refine drawStep ?_
  refine callT (args := [.ref 0 0 0]) hdn [.cells 0 zT, .cells 0 zL, .cells 0 (tcl f)] rfl rfl (by simp [bels, AV.bel, rdH]) (rdH_bel _ _ _) (rdH_bel _ _ _) (by simp [AV.bel, bels]) ?_
  repeat first | refine opsStep ?_ | refine codeStep ?_ | refine drawStep ?_
  refine callT (args := [.ref 0 0 0]) (rd_bad (endS s) r1) [.cells 0 zT, .cells 0 zL, .cells 0 (tcl f)] rfl rfl (by simp [bels, AV.bel, rdH]) (rdH_bel _ _ _) (rdH_bel _ _ _) (by simp [AV.bel, bels]) ?_
  repeat first | refine opsStep ?_ | refine codeStep ?_ | refine drawStep ?_
  refine decB_split (fun hb => ?_) (fun hb => ?_)
  rotate_left
  · have hb : r1.fl.why ≠ 0 := by simpa using hb
    rw [if_pos hb] at hE
    repeat first | refine opsStep ?_ | refine codeStep ?_ | refine drawStep ?_
    refine callT (args := [.ref 0 0 0]) (rd_bad (endS s) r1) [.cells 0 zT, .cells 0 zL, .cells 0 (tcl f)] rfl rfl (by simp [bels, AV.bel, rdH]) (rdH_bel _ _ _) (rdH_bel _ _ _) (by simp [AV.bel, bels]) ?_
    repeat first | refine opsStep ?_ | refine codeStep ?_ | refine drawStep ?_
    refine decB_true (b := decide (r1.fl.why ≠ 0)) (by simpa using hb) ?_
    repeat refine codeStep ?_
    refine SW.drawn rfl (by kernel_rfl) ?_
    repeat first | refine opsStep ?_ | refine codeStep ?_ | refine drawStep ?_
    refine ⟨by kernel_rfl, ?_⟩
    repeat first | refine opsStep ?_ | refine codeStep ?_ | refine drawStep ?_
    exact finV (v' := .tup [.agg zT, .agg (fltC r1.fl)]) (by kernel_rfl) (by rw [hE]; rfl)
  · have hb : r1.fl.why = 0 := by simpa using hb
    rw [if_neg (by simp [hb])] at hE
    repeat first | refine opsStep ?_ | refine codeStep ?_ | refine drawStep ?_
    refine callP hchk ?_
    repeat first | refine opsStep ?_ | refine codeStep ?_ | refine drawStep ?_
    refine callT (args := [.ref 0 0 0]) (rd_bad (endS s) (setW r1 c)) [.cells 0 zT, .cells 0 zL, .cells 0 (tcl f)] rfl rfl (by simp [bels, AV.bel, rdH]) (rdH_bel _ _ _) (rdH_bel _ _ _) (by simp [AV.bel, bels]) ?_
    repeat first | refine opsStep ?_ | refine codeStep ?_ | refine drawStep ?_
    refine decB_dec (fun hc => ?_) (fun hc => ?_)
    · have hc : c ≠ 0 := hc
      rw [if_pos hc] at hE
      repeat refine codeStep ?_
      refine SW.drawn rfl (by kernel_rfl) ?_
      repeat first | refine opsStep ?_ | refine codeStep ?_ | refine drawStep ?_
      refine ⟨by kernel_rfl, ?_⟩
      repeat first | refine opsStep ?_ | refine codeStep ?_ | refine drawStep ?_
      exact finV (v' := .tup [.agg zT, .agg (fltC ⟨c, r1.fl.at', r1.fl.ch⟩)]) (by kernel_rfl) (by rw [hE]; rfl)
    · have hc : c = 0 := Decidable.of_not_not hc
      rw [if_neg (by simp [hc])] at hE
      repeat refine codeStep ?_
      iterate 0 refine opsStep ?_
      repeat first | refine opsStep ?_ | refine codeStep ?_ | refine drawStep ?_
      refine SW.drawn rfl (by kernel_rfl) ?_
      repeat first | refine opsStep ?_ | refine codeStep ?_ | refine drawStep ?_
      refine ⟨by kernel_rfl, ?_⟩
      repeat first | refine opsStep ?_ | refine codeStep ?_ | refine drawStep ?_
      exact finV (v' := .tup [.agg (tcl f), .agg (fltC ⟨c, r1.fl.at', r1.fl.ch⟩)]) (by kernel_rfl) (by rw [hE, hc])

end Tab

/- The law ParseStops. -/
namespace Tab
open Go Go.Proofs
set_option maxRecDepth 10000
set_option linter.unusedVariables false
set_option linter.unusedSimpArgs false
set_option linter.unusedSectionVars false
set_option maxHeartbeats 1000000

/-! ### What a fault's numbers are -/
theorem lexS_okw (s : Str) : ∀ w ∈ (lexS s).1, okW w := fun w hw => ((lexS_ok s).wd w hw).1
theorem readF_fl (s : Str) : okJ (readF s).2.fl.why ∧ okJ (readF s).2.fl.at' ∧ okJ (readF s).2.fl.ch := by
  have hl := lexS_ok s
  by_cases hz : (lexS s).2.why = 0
  · have hp := readF_plc hz
    obtain ⟨c, hc⟩ := readF_suf s
    obtain ⟨hs, _, _⟩ := lexS_zero hz
    rcases hp with hp | ⟨h1, h2⟩
    · rw [hp]; exact ⟨by decide, by decide, by decide⟩
    · refine ⟨by rcases h1 with h | h <;> rw [h] <;> decide, ?_⟩
      cases hw : (readF s).2.ws with
      | nil =>
        rw [hw] at h2
        have e1 : (readF s).2.fl.at' = s.length := congrArg Prod.fst h2
        have e2 : (readF s).2.fl.ch = chS s := congrArg Prod.snd h2
        have := chS_le _ s rfl
        rw [e1, e2]
        exact ⟨⟨by omega, by omega⟩, ⟨by omega, by omega⟩⟩
      | cons w t =>
        rw [hw] at h2
        have e1 : (readF s).2.fl.at' = w.at' := congrArg Prod.fst h2
        have e2 : (readF s).2.fl.ch = w.ch := congrArg Prod.snd h2
        have := lexS_okw s w (by rw [hc, hw]; simp)
        rw [e1, e2]
        exact ⟨this.at', this.ch⟩
  · rw [readF_lex hz]
    have h1 := hl.at'
    have h2 := hl.ch
    exact ⟨hl.why, ⟨by omega, by omega⟩, ⟨by omega, by omega⟩⟩
theorem done_fl (s : Str) : okJ ((readF s).2.done (endS s)).fl.why ∧ okJ ((readF s).2.done (endS s)).fl.at' ∧ okJ ((readF s).2.done (endS s)).fl.ch := by
  have h := readF_fl s
  unfold Rs.done
  split
  · by_cases h0 : (readF s).2.fl.why = 0
    · rw [wrong_new h0]
      refine ⟨by show okJ 71; decide, ?_⟩
      obtain ⟨c, hc⟩ := readF_suf s
      cases hw : (readF s).2.ws with
      | nil => rename_i hne; exact absurd hw hne
      | cons w t =>
        have := lexS_okw s w (by rw [hc, hw]; simp)
        exact ⟨this.at', this.ch⟩
    · rw [wrong_bad h0]; exact h
  · exact h
theorem chk_j {e : Int} (h : okSize e) : okJ e := by rcases h with h | h | h <;> rw [h] <;> decide
theorem parF_fl (s : Str) : okJ (parF s).2.why ∧ okJ (parF s).2.at' ∧ okJ (parF s).2.ch := by
  by_cases h : ((readF s).2.done (endS s)).fl.why = 0
  · obtain ⟨h1, h2, h3, h4, h5, h6, h7⟩ := parF_size h
    have := readF_fl s
    rw [h3, h6, h7]
    exact ⟨chk_j h4, this.2.1, this.2.2⟩
  · rw [parF_bad h]; exact done_fl s
theorem parF_ok (s : Str) : (parF s).1.ok := by
  by_cases h : ((readF s).2.done (endS s)).fl.why = 0
  · obtain ⟨h1, h2, h3, h4, h5, h6, h7⟩ := parF_size h
    rw [h5]
    split
    · exact readF_ok s
    · exact (made_ok (0, 0)).nil 0 (by decide) (by decide)
  · rw [parF_bad h]; exact (made_ok (0, 0)).nil 0 (by decide) (by decide)
/-! ### What the document fixes -/
def fx1 : Str := [120, 32, 60, 61, 32, 49]
def fx2 : Str := [120, 32, 61, 32, 61, 32, 49]
theorem fx_par1 : (parF fx1).2 = flt0 ∧ (parF fx1).1 = .mk 9 [] 0 .any [.mk 1 0 [120] .nil [], .mk 0 1 [] .nil []] .nil [] := by
  constructor
  · kernel_rfl
  · kernel_rfl
theorem fx_par2 : (parF fx2).2 = ⟨71, 4, 4⟩ ∧ (parF fx2).1 = nilF 0 := by
  constructor
  · kernel_rfl
  · kernel_rfl
theorem law7_fixed : Pure Tryd.prog 22 [] (.bool true) := by
  have h1 := parse_Formula fx1 (by decide)
  have h2 := parse_Formula fx2 (by decide)
  rw [fx_par1.1, fx_par1.2, fcl_atom] at h1
  rw [fx_par2.1, fx_par2.2] at h2
  refine Pure.of_sw 51 Tryd.func22 rfl Tryd.ntmps22 (by kernel_rfl) (Nat.le_of_ble_eq_true (by kernel_rfl)) (by simp [closeds, AV.closed, aSs_closed, aIs_closed, aBs_closed, aRs_closed, aDen_closed]) (by simp [AV.closed, closeds, aSs_closed, aIs_closed, aBs_closed, aRs_closed, aDen_closed]) ?_; refine SW.of_vc ?_
  repeat first | refine opsStep ?_ | refine codeStep ?_ | refine drawStep ?_
  refine callP h1 ?_
  repeat first | refine opsStep ?_ | refine codeStep ?_ | refine drawStep ?_
  refine callP h2 ?_
  repeat first | refine opsStep ?_ | refine codeStep ?_ | refine drawStep ?_
  refine ⟨true, eqlF (w := 0) (a := 0) (b := 0) (w' := 0) (c := 0) (d := 0) (by decide) (by decide) (by decide) (by decide) (by decide) (by decide), ?_⟩
  repeat first | refine opsStep ?_ | refine codeStep ?_ | refine drawStep ?_
  refine ⟨true, eqlF (w := 71) (a := 4) (b := 4) (w' := 71) (c := 4) (d := 4) (by decide) (by decide) (by decide) (by decide) (by decide) (by decide), ?_⟩
  repeat first | refine opsStep ?_ | refine codeStep ?_ | refine drawStep ?_
  exact finB (b' := true) (by kernel_rfl) rfl
theorem law7_great (F : Flt) : Pure Tryd.prog 26 [.agg (fltC F)] (.bool (decide (F.why = 70 ∨ F.why = 73 ∨ F.why = 72))) := by
  refine Pure.of_sw 16 Tryd.func26 rfl Tryd.ntmps26 (by kernel_rfl) (Nat.le_of_ble_eq_true (by kernel_rfl)) (by simp only [closeds, AV.closed]; exact ⟨fltC_closed _, trivial⟩) (by simp only [AV.closed]) ?_
  refine SW.of_vc ?_
  repeat first | refine opsStep ?_ | refine codeStep ?_ | refine drawStep ?_
  refine decB_dec (fun h1 => ?_) (fun h1 => ?_)
  · have h1 : F.why = 70 := h1
    repeat first | refine opsStep ?_ | refine codeStep ?_ | refine drawStep ?_
    exact finB (b' := true) (by kernel_rfl) (by simp [h1])
  have h1 : F.why ≠ 70 := h1
  repeat first | refine opsStep ?_ | refine codeStep ?_ | refine drawStep ?_
  refine decB_dec (fun h2 => ?_) (fun h2 => ?_)
  · have h2 : F.why = 73 := h2
    repeat first | refine opsStep ?_ | refine codeStep ?_ | refine drawStep ?_
    exact finB (b' := true) (by kernel_rfl) (by simp [h2])
  have h2 : F.why ≠ 73 := h2
  repeat first | refine opsStep ?_ | refine codeStep ?_ | refine drawStep ?_
  exact finB (b' := decide (F.why = 72)) (by kernel_rfl) (by simp [h1, h2])

end Tab

/- Trees held against themselves. -/
namespace Tab
open Go Go.Proofs
set_option maxRecDepth 10000
set_option linter.unusedVariables false
set_option linter.unusedSimpArgs false
set_option linter.unusedSectionVars false
set_option maxHeartbeats 1000000

theorem tts_ld {l : List TT} {i : Nat} (h : i < l.length) : ((ttsC l).drop ((i : Int).toNat * 4)).take 4 = tcl (l[i]'h) := by rw [Int.toNat_natCast, ttsC_at h, TT.cells_eq]; rfl
theorem fts_ld {l : List FT} {i : Nat} (h : i < l.length) : ((ftsC l).drop ((i : Int).toNat * 5)).take 5 = fcl (l[i]'h) := by rw [Int.toNat_natCast, ftsC_at h, FT.cells_eq]; rfl
theorem over4' (l : List AV) (h : l.length = 4) (z : List AV) (hz : z.length = 4) : over z 0 l = l := by
  rw [over, h, List.drop_eq_nil_of_le (by omega)]; simp
theorem over5' (l : List AV) (h : l.length = 5) (z : List AV) (hz : z.length = 5) : over z 0 l = l := by
  rw [over, h, List.drop_eq_nil_of_le (by omega)]; simp

theorem eqf_term (k k' : SK) (l : List TT) (hl : l.length < 2 ^ 47) (h : ∀ t ∈ l, Pure Tryd.prog 77 [.agg (tcl t), .agg (tcl t)] (.bool true)) : Pure Tryd.prog 76 [.sl k l.length (ttsC l), .sl k' l.length (ttsC l), .fn (.func 77) [] []] (.bool true) := by
  have hc := ttsC_closed l
  refine Pure.of_sw 32 Tryd.func76 rfl Tryd.ntmps76 (by kernel_rfl) (Nat.le_of_ble_eq_true (by kernel_rfl)) (by simp only [closeds, AV.closed]; exact ⟨hc, hc, ⟨trivial, trivial⟩, trivial⟩) (by simp only [AV.closed]) ?_
  refine SW.of_vc ?_
  repeat first | refine opsStep ?_ | refine codeStep ?_ | refine drawStep ?_
  refine decB_false (b := decide ((l.length : Int) ≠ (l.length : Int))) (by simp) ?_
  repeat first | refine opsStep ?_ | refine codeStep ?_ | refine drawStep ?_
  refine loopE_of (ι := {i : Nat // i ≤ l.length}) (fun i => (fr [(1, .sl k' l.length (ttsC l)), (2, .fn (.func 77) [] []), (15, .sl k l.length (ttsC l)), (16, .int .i64 l.length), (17, .int .i64 i.1)], [])) (fun i => l.length - i.1)
    ⟨0, Nat.zero_le _⟩ (Ent.fr' ⟨(by kernel_rfl), (by kernel_rfl), (by kernel_rfl), (by kernel_rfl), (by kernel_rfl), trivial⟩ (by kernel_rfl)) ?_
  rintro ⟨i, hi⟩
  repeat first | refine opsStep ?_ | refine codeStep ?_ | refine drawStep ?_
  refine decB_dec (fun hlt => ?_) (fun hlt => ?_)
  · have hi' : i < l.length := by have : (i : Int) < l.length := hlt; omega
    clear hlt
    have hld := tts_ld hi'
    have hfit : 4 ≤ ((ttsC l).drop ((i : Int).toNat * 4)).length := by rw [List.length_drop, ttsC_len, Int.toNat_natCast]; omega
    have hone := h _ (List.getElem_mem hi')
    generalize l[i]'hi' = a at *
    have hal : (tcl a).length = 4 := rfl
    repeat first | refine opsStep ?_ | refine codeStep ?_ | refine drawStep ?_
    refine guardE_of ⟨by omega, by show (i : Int) < l.length; omega⟩ ?_
    repeat first | refine opsStep ?_ | refine codeStep ?_ | refine drawStep ?_
    refine guardE_of hfit ?_
    repeat first | refine opsStep ?_ | refine codeStep ?_ | refine drawStep ?_
    refine guardE_of ⟨by show (((ttsC l).drop ((i : Int).toNat * 4)).take 4).length = 4; rw [hld]; rfl, by decide, by decide⟩ ?_
    iterate 1 refine opsStep ?_
    refine VCode.ent (Ent.fr' (l := [(1, .sl k' l.length (ttsC l)), (2, .fn (.func 77) [] []), (7, .int .i64 i), (8, .ref 0 0 0), (15, .sl k l.length (ttsC l)), (16, .int .i64 l.length), (17, .int .i64 i)]) (H' := [.cells 0 (tcl a)]) ⟨(by kernel_rfl), (by kernel_rfl), (by kernel_rfl), (by kernel_rfl), (by kernel_rfl), (by kernel_rfl), (by kernel_rfl), trivial⟩ (Eq.trans (b := [.cells 0 (over zT 0 (((ttsC l).drop ((i : Int).toNat * 4)).take 4))]) (by kernel_rfl) (by rw [hld, over4' _ hal _ rfl]))) ?_
    repeat first | refine opsStep ?_ | refine codeStep ?_ | refine drawStep ?_
    refine guardE_of ⟨by omega, by show (i : Int) < l.length; omega⟩ ?_
    repeat first | refine opsStep ?_ | refine codeStep ?_ | refine drawStep ?_
    refine guardE_of hfit ?_
    repeat first | refine opsStep ?_ | refine codeStep ?_ | refine drawStep ?_
    refine guardE_of ⟨by show (((ttsC l).drop ((i : Int).toNat * 4)).take 4).length = 4; rw [hld]; rfl, by decide, by decide⟩ ?_
    iterate 1 refine opsStep ?_
    refine VCode.ent (Ent.fr' (l := [(1, .sl k' l.length (ttsC l)), (2, .fn (.func 77) [] []), (8, .ref 0 0 0), (9, .ref 1 0 0), (15, .sl k l.length (ttsC l)), (16, .int .i64 l.length), (17, .int .i64 i)]) (H' := [.cells 0 (tcl a), .cells 0 (tcl a)]) ⟨(by kernel_rfl), (by kernel_rfl), (by kernel_rfl), (by kernel_rfl), (by kernel_rfl), (by kernel_rfl), (by kernel_rfl), trivial⟩ (Eq.trans (b := [.cells 0 (tcl a), .cells 0 (over zT 0 (((ttsC l).drop ((i : Int).toNat * 4)).take 4))]) (by kernel_rfl) (by rw [hld, over4' _ hal _ rfl]))) ?_
    repeat first | refine opsStep ?_ | refine codeStep ?_ | refine drawStep ?_
    refine callP hone ?_
    repeat first | refine opsStep ?_ | refine codeStep ?_ | refine drawStep ?_
    exact ⟨⟨i + 1, hi'⟩, (by show l.length - (i + 1) < l.length - i; omega), Ent.frD (X := [.cells 0 (tcl a), .cells 0 (tcl a)]) ⟨(by kernel_rfl), (by kernel_rfl), (by kernel_rfl), (by kernel_rfl), inc_slot (i := i) (by omega), trivial⟩ (by kernel_rfl) (Nat.zero_le _) (by simp only [frBel, AV.bel, bels]; exact ⟨closeds_bel _ hc, ⟨trivial, trivial⟩, closeds_bel _ hc, trivial, trivial, trivial⟩) trivial⟩
  · clear hlt
    repeat first | refine opsStep ?_ | refine codeStep ?_ | refine drawStep ?_
    exact finB (b' := true) (by kernel_rfl) rfl
theorem eqf_formula (k k' : SK) (l : List FT) (hl : l.length < 2 ^ 47) (h : ∀ t ∈ l, Pure Tryd.prog 50 [.agg (fcl t), .agg (fcl t)] (.bool true)) : Pure Tryd.prog 78 [.sl k l.length (ftsC l), .sl k' l.length (ftsC l), .fn (.func 50) [] []] (.bool true) := by
  have hc := ftsC_closed l
  refine Pure.of_sw 32 Tryd.func78 rfl Tryd.ntmps78 (by kernel_rfl) (Nat.le_of_ble_eq_true (by kernel_rfl)) (by simp only [closeds, AV.closed]; exact ⟨hc, hc, ⟨trivial, trivial⟩, trivial⟩) (by simp only [AV.closed]) ?_
  refine SW.of_vc ?_
  repeat first | refine opsStep ?_ | refine codeStep ?_ | refine drawStep ?_
  refine decB_false (b := decide ((l.length : Int) ≠ (l.length : Int))) (by simp) ?_
  repeat first | refine opsStep ?_ | refine codeStep ?_ | refine drawStep ?_
  refine loopE_of (ι := {i : Nat // i ≤ l.length}) (fun i => (fr [(1, .sl k' l.length (ftsC l)), (2, .fn (.func 50) [] []), (15, .sl k l.length (ftsC l)), (16, .int .i64 l.length), (17, .int .i64 i.1)], [])) (fun i => l.length - i.1)
    ⟨0, Nat.zero_le _⟩ (Ent.fr' ⟨(by kernel_rfl), (by kernel_rfl), (by kernel_rfl), (by kernel_rfl), (by kernel_rfl), trivial⟩ (by kernel_rfl)) ?_
  rintro ⟨i, hi⟩
  repeat first | refine opsStep ?_ | refine codeStep ?_ | refine drawStep ?_
  refine decB_dec (fun hlt => ?_) (fun hlt => ?_)
  · have hi' : i < l.length := by have : (i : Int) < l.length := hlt; omega
    clear hlt
    have hld := fts_ld hi'
    have hfit : 5 ≤ ((ftsC l).drop ((i : Int).toNat * 5)).length := by rw [List.length_drop, ftsC_len, Int.toNat_natCast]; omega
    have hone := h _ (List.getElem_mem hi')
    generalize l[i]'hi' = a at *
    have hal : (fcl a).length = 5 := rfl
    repeat first | refine opsStep ?_ | refine codeStep ?_ | refine drawStep ?_
    refine guardE_of ⟨by omega, by show (i : Int) < l.length; omega⟩ ?_
    repeat first | refine opsStep ?_ | refine codeStep ?_ | refine drawStep ?_
    refine guardE_of hfit ?_
    repeat first | refine opsStep ?_ | refine codeStep ?_ | refine drawStep ?_
    refine guardE_of ⟨by show (((ftsC l).drop ((i : Int).toNat * 5)).take 5).length = 5; rw [hld]; rfl, by decide, by decide⟩ ?_
    iterate 1 refine opsStep ?_
    refine VCode.ent (Ent.fr' (l := [(1, .sl k' l.length (ftsC l)), (2, .fn (.func 50) [] []), (7, .int .i64 i), (8, .ref 0 0 0), (15, .sl k l.length (ftsC l)), (16, .int .i64 l.length), (17, .int .i64 i)]) (H' := [.cells 0 (fcl a)]) ⟨(by kernel_rfl), (by kernel_rfl), (by kernel_rfl), (by kernel_rfl), (by kernel_rfl), (by kernel_rfl), (by kernel_rfl), trivial⟩ (Eq.trans (b := [.cells 0 (over zF 0 (((ftsC l).drop ((i : Int).toNat * 5)).take 5))]) (by kernel_rfl) (by rw [hld, over5' _ hal _ rfl]))) ?_
    repeat first | refine opsStep ?_ | refine codeStep ?_ | refine drawStep ?_
    refine guardE_of ⟨by omega, by show (i : Int) < l.length; omega⟩ ?_
    repeat first | refine opsStep ?_ | refine codeStep ?_ | refine drawStep ?_
    refine guardE_of hfit ?_
    repeat first | refine opsStep ?_ | refine codeStep ?_ | refine drawStep ?_
    refine guardE_of ⟨by show (((ftsC l).drop ((i : Int).toNat * 5)).take 5).length = 5; rw [hld]; rfl, by decide, by decide⟩ ?_
    iterate 1 refine opsStep ?_
    refine VCode.ent (Ent.fr' (l := [(1, .sl k' l.length (ftsC l)), (2, .fn (.func 50) [] []), (8, .ref 0 0 0), (9, .ref 1 0 0), (15, .sl k l.length (ftsC l)), (16, .int .i64 l.length), (17, .int .i64 i)]) (H' := [.cells 0 (fcl a), .cells 0 (fcl a)]) ⟨(by kernel_rfl), (by kernel_rfl), (by kernel_rfl), (by kernel_rfl), (by kernel_rfl), (by kernel_rfl), (by kernel_rfl), trivial⟩ (Eq.trans (b := [.cells 0 (fcl a), .cells 0 (over zF 0 (((ftsC l).drop ((i : Int).toNat * 5)).take 5))]) (by kernel_rfl) (by rw [hld, over5' _ hal _ rfl]))) ?_
    repeat first | refine opsStep ?_ | refine codeStep ?_ | refine drawStep ?_
    refine callP hone ?_
    repeat first | refine opsStep ?_ | refine codeStep ?_ | refine drawStep ?_
    exact ⟨⟨i + 1, hi'⟩, (by show l.length - (i + 1) < l.length - i; omega), Ent.frD (X := [.cells 0 (fcl a), .cells 0 (fcl a)]) ⟨(by kernel_rfl), (by kernel_rfl), (by kernel_rfl), (by kernel_rfl), inc_slot (i := i) (by omega), trivial⟩ (by kernel_rfl) (Nat.zero_le _) (by simp only [frBel, AV.bel, bels]; exact ⟨closeds_bel _ hc, ⟨trivial, trivial⟩, closeds_bel _ hc, trivial, trivial, trivial⟩) trivial⟩
  · clear hlt
    repeat first | refine opsStep ?_ | refine codeStep ?_ | refine drawStep ?_
    exact finB (b' := true) (by kernel_rfl) rfl

theorem same_term : ∀ (n : Nat) (t : TT), t.nodes ≤ n → t.ok → Pure Tryd.prog 77 [.agg (tcl t), .agg (tcl t)] (.bool true) := by
  intro n
  induction n with
  | zero => intro t h; rcases t with ⟨op, num, name, k, args⟩; rw [TT.nodes] at h; omega
  | succ n ih =>
    intro t hnodes hok
    have hc := tcl_closed t
    rcases t with ⟨op, num, name, k, args⟩
    rw [TT.ok] at hok
    rw [TT.nodes] at hnodes
    have he := eqf_term k k args (by omega) fun t ht => by
      obtain ⟨i, hi, rfl⟩ := List.mem_iff_getElem.1 ht
      exact ih _ (by have := tts_nodes hi; omega) (ttsOk_iff.1 hok.2.2.2.2 _ ht)
    refine Pure.of_sw 31 Tryd.func77 rfl Tryd.ntmps77 (by kernel_rfl) (Nat.le_of_ble_eq_true (by kernel_rfl)) (by simp only [closeds, AV.closed]; exact ⟨hc, hc, trivial⟩) (by simp only [AV.closed]) ?_
    refine SW.of_vc ?_
    repeat first | refine opsStep ?_ | refine codeStep ?_ | refine drawStep ?_
    refine decB_true (b := decide (op = op)) (by simp) ?_
    repeat first | refine opsStep ?_ | refine codeStep ?_ | refine drawStep ?_
    refine decB_true (b := decide (num = num)) (by simp) ?_
    repeat first | refine opsStep ?_ | refine codeStep ?_ | refine drawStep ?_
    refine decB_true (b := decide (name = name)) (by simp) ?_
    repeat first | refine opsStep ?_ | refine codeStep ?_ | refine drawStep ?_
    refine callP he ?_
    repeat first | refine opsStep ?_ | refine codeStep ?_ | refine drawStep ?_
    exact finB (b' := true) (by kernel_rfl) rfl
theorem same_form : ∀ (n : Nat) (t : FT), t.nodes ≤ n → t.ok → Pure Tryd.prog 50 [.agg (fcl t), .agg (fcl t)] (.bool true) := by
  intro n
  induction n with
  | zero => intro t h; rcases t with ⟨op, name, md, tk, terms, ak, args⟩; rw [FT.nodes] at h; omega
  | succ n ih =>
    intro t hnodes hok
    have hc := fcl_closed t
    rcases t with ⟨op, name, md, tk, terms, ak, args⟩
    rw [FT.ok] at hok
    rw [FT.nodes] at hnodes
    have ht := eqf_term tk tk terms (by omega) fun t ht => same_term _ t (Nat.le_refl _) (ttsOk_iff.1 hok.2.2.2.2.1 _ ht)
    have he := eqf_formula ak ak args (by omega) fun t ht => by
      obtain ⟨i, hi, rfl⟩ := List.mem_iff_getElem.1 ht
      exact ih _ (by have := fts_nodes hi; omega) (ftsOk_iff.1 hok.2.2.2.2.2.2 _ ht)
    refine Pure.of_sw 38 Tryd.func50 rfl Tryd.ntmps50 (by kernel_rfl) (Nat.le_of_ble_eq_true (by kernel_rfl)) (by simp only [closeds, AV.closed]; exact ⟨hc, hc, trivial⟩) (by simp only [AV.closed]) ?_
    refine SW.of_vc ?_
    repeat first | refine opsStep ?_ | refine codeStep ?_ | refine drawStep ?_
    refine decB_true (b := decide (op = op)) (by simp) ?_
    repeat first | refine opsStep ?_ | refine codeStep ?_ | refine drawStep ?_
    refine decB_true (b := decide (name = name)) (by simp) ?_
    repeat first | refine opsStep ?_ | refine codeStep ?_ | refine drawStep ?_
    refine decB_true (b := decide (md = md)) (by simp) ?_
    repeat first | refine opsStep ?_ | refine codeStep ?_ | refine drawStep ?_
    refine callP ht ?_
    repeat first | refine opsStep ?_ | refine codeStep ?_ | refine drawStep ?_
    refine callP he ?_
    repeat first | refine opsStep ?_ | refine codeStep ?_ | refine drawStep ?_
    exact finB (b' := true) (by kernel_rfl) rfl
theorem tree_Same (t : FT) (hok : t.ok) (hchk : chkF t = 0) : Pure Tryd.prog 31 [.agg (fcl t), .agg (fcl t)] (.bool true) := by
  have hc := fcl_closed t
  have h1 := tree_Check t hok
  rw [FT.cells_eq, hchk] at h1
  change Pure Tryd.prog 25 [.agg (fcl t)] _ at h1
  have h2 := same_form _ t (Nat.le_refl _) hok
  refine Pure.of_sw 18 Tryd.func31 rfl Tryd.ntmps31 (by kernel_rfl) (Nat.le_of_ble_eq_true (by kernel_rfl)) (by simp only [closeds, AV.closed]; exact ⟨hc, hc, trivial⟩) (by simp only [AV.closed]) ?_
  refine SW.of_vc ?_
  repeat first | refine opsStep ?_ | refine codeStep ?_ | refine drawStep ?_
  refine callP h1 ?_
  repeat first | refine opsStep ?_ | refine codeStep ?_ | refine drawStep ?_
  refine callP h1 ?_
  repeat first | refine opsStep ?_ | refine codeStep ?_ | refine drawStep ?_
  refine callP h2 ?_
  repeat first | refine opsStep ?_ | refine codeStep ?_ | refine drawStep ?_
  exact finB (b' := true) (by kernel_rfl) rfl

end Tab
