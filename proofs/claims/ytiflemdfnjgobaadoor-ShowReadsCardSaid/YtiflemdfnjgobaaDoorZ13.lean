/- Lemmas for this claim: part 13. No condition. -/
import Derived.Test.YtiflemdfnjgobaaDoorZ9
import Derived.Test.YtiflemdfnjgobaaDoorZ10
import Derived.Test.YtiflemdfnjgobaaDoorZ11
import Derived.Test.YtiflemdfnjgobaaDoorZ12
import Derived.KernelRfl
/- What is known of a text's words, plain. -/
namespace Tab
open Go
set_option maxRecDepth 10000
set_option linter.unusedVariables false
set_option linter.unusedSimpArgs false
set_option linter.unusedSectionVars false

theorem plain_len : (plainT.all fun p => decide (p.2.length ≤ 3)) = true := by kernel_rfl
theorem tok_ok (x : Str) : ((tokS x).kind = 0 ∨ (tokS x).kind = 1 ∨ (tokS x).kind = 2) ∧ (tokS x).text.length ≤ x.length + 3 ∧ (tokS x).num ≤ 9223372036854775807 ∧ 0 ≤ (tokS x).err ∧ (tokS x).err ≤ 52 := by
  by_cases h1 : (dec x 0).1 = 65533 ∧ (dec x 0).2 ≤ 1
  · rw [tokS, if_pos h1]; simp [tokBad]
  by_cases h2 : startR (dec x 0).1 = true
  · rw [tokS, if_neg h1, if_pos h2, nameT]
    have : (x.take (runS restR x)).length ≤ x.length := by rw [List.length_take]; omega
    split
    · exact ⟨by simp, by simp only; omega, by simp, by simp, by simp⟩
    · split
      · exact ⟨by simp, by simp, by simp, by simp, by simp⟩
      · exact ⟨by simp, by simp only; omega, by simp, by simp, by simp⟩
  by_cases h3 : digR (dec x 0).1 = true
  · rw [tokS, if_neg h1, if_neg h2, if_pos h3]
    cases e : numS (x.take (runS digR x)) with
    | none => simp [tokBad]
    | some v =>
      have hv : v ≤ 9223372036854775807 := numL_le _ 0 v (by omega) (fun c hc => by
        have := run_chars digR (fun r hr => by simp [digR] at hr; omega) _ x rfl c hc
        simp [digR] at this; omega) e
      exact ⟨by simp, by simp, hv, by simp, by simp⟩
  by_cases h4 : plainS (dec x 0).1 ≠ []
  · rw [tokS, if_neg h1, if_neg h2, if_neg h3, if_pos h4]
    obtain ⟨p, hp, he⟩ := List.mem_map.1 (plain_mem h4)
    have := List.all_eq_true.1 plain_len p hp
    rw [decide_eq_true_eq, he] at this
    exact ⟨by simp, by simp only; omega, by simp, by simp, by simp⟩
  rw [tokS, if_neg h1, if_neg h2, if_neg h3, if_neg h4, signT]
  split
  · rename_i t e
    have := sign_len t (List.mem_of_find?_eq_some e)
    exact ⟨by simp, by simp only; omega, by simp, by simp, by simp⟩
  · simp [tokBad]

structure WdOk (n : Nat) (w : Wd) : Prop where
  kind : w.kind = 0 ∨ w.kind = 1 ∨ w.kind = 2
  text : w.text.length ≤ n + 3
  num : w.num ≤ 9223372036854775807
theorem WdOk.up {n m : Nat} {w : Wd} (h : WdOk n w) (hm : n ≤ m) : WdOk m w := ⟨h.kind, by have := h.text; omega, h.num⟩
theorem lexW_ok : ∀ (n : Nat) (x : Str), x.length = n → ∀ (a ch : Nat), (∀ w ∈ (lexW x a ch).1, WdOk x.length w) ∧ (lexW x a ch).1.length ≤ x.length ∧ ((lexW x a ch).2.why = 0 → (lexW x a ch).2 = flt0) ∧ 0 ≤ (lexW x a ch).2.why ∧ (lexW x a ch).2.why ≤ 52 := by
  intro n
  induction n using Nat.strongRecOn with
  | _ n ih =>
    intro x hn a ch
    rcases part_of x with h | h
    · rw [lexW_nil h]; simp [flt0]
    · obtain ⟨l1, l2⟩ := h.lt
      have hx1 := h.some
      have hbl : (x.drop (runS blankR x)).length ≤ x.length := by rw [List.length_drop]; omega
      generalize hbe : runS blankR x = b at *
      generalize hxe : x.drop b = x1 at *
      have hok := tok_ok x1
      generalize hte : tokS x1 = t at *
      obtain ⟨o1, o2, o3, o4, o5⟩ := hok
      by_cases he : t.err = 0
      · obtain ⟨n1, n2, n3, _⟩ := h.tokN he
        rw [lexW_tok h he]
        obtain ⟨i1, i2, i3, i4, i5⟩ := ih _ (by rw [List.length_drop]; omega) (x1.drop t.n) rfl (a + b + t.n) (ch + chS (x.take b) + chS (x1.take t.n))
        have hdl : (x1.drop t.n).length ≤ x.length - 1 := by rw [List.length_drop]; omega
        refine ⟨fun w hw => ?_, by simp only [List.length_cons]; omega, i3, i4, i5⟩
        rcases List.mem_cons.1 hw with rfl | hw
        · exact ⟨o1, by simp only; omega, o3⟩
        · exact (i1 w hw).up (by omega)
      · rw [lexW_bad h he]
        exact ⟨by simp, by simp, fun h0 => absurd h0 he, o4, o5⟩

structure LexOk (s : Str) (W : List Wd) (F : Flt) : Prop where
  zero : F.why = 0 → F = flt0
  none : F.why ≠ 0 → W = []
  why : okJ F.why
  at' : F.at' ≤ s.length ∧ F.at' ≤ 4096
  ch : F.ch ≤ 4096
  cnt : W.length ≤ 4096
  wd : ∀ w ∈ W, okW w ∧ WdOk 4096 w ∧ w.at' < s.length
theorem chS_take_le {s : Str} {k : Nat} : chS (s.take k) ≤ k := by
  have := chS_le _ (s.take k) rfl
  rw [List.length_take] at this
  omega
theorem lexS_ok (s : Str) : LexOk s (lexS s).1 (lexS s).2 := by
  rw [lexS_eq]
  by_cases hl : 4096 < s.length
  · rw [if_pos hl]
    exact ⟨by simp, by simp, by simp only; decide, by simp, by simp, by simp, by simp⟩
  rw [if_neg hl]
  obtain ⟨i1, i2, i3, i4, i5⟩ := lexW_ok _ s rfl 0 0
  have hpl := (lex_places _ s rfl 0 0).1
  have hcut := lex_cut _ s rfl 0 0
  generalize lexW s 0 0 = r at *
  rw [finL]
  by_cases hw : r.2.why ≠ 0
  · rw [if_pos hw]
    obtain ⟨k, k1, _, k3, k4, _⟩ := hcut hw
    have := chS_take_le (s := s) (k := k)
    exact ⟨i3, by simp, ⟨by simp only; omega, by simp only; omega⟩, ⟨by simp only; omega, by simp only; omega⟩, by simp only; omega, by simp, by simp⟩
  · rw [if_neg hw]
    have hz := i3 (Decidable.of_not_not hw)
    refine ⟨i3, fun h => absurd h hw, ⟨by omega, by omega⟩, by rw [hz]; simp [flt0], by rw [hz]; simp [flt0], by omega, fun w hm => ?_⟩
    obtain ⟨k, k1, _, k3, k4, _⟩ := hpl w hm
    have := chS_take_le (s := s) (k := k)
    have ho := i1 w hm
    refine ⟨⟨?_, ?_, ?_, ?_, ?_⟩, ho.up (by omega), by omega⟩
    · rcases ho.kind with e | e | e <;> rw [e] <;> decide
    · have := ho.text; have : s.length ≤ 4096 := by omega
      exact Nat.le_trans (by omega : w.text.length ≤ 4099) (by decide)
    · have := ho.num; exact ⟨by omega, by omega⟩
    · exact ⟨by omega, by omega⟩
    · exact ⟨by omega, by omega⟩

end Tab

/- The reader, plain: its trees can be handed on, and are right where there is no fault. -/
namespace Tab
open Go
set_option maxRecDepth 10000
set_option linter.unusedVariables false
set_option linter.unusedSimpArgs false
set_option linter.unusedSectionVars false

def WsOk (r : Rs) : Prop := ∀ w ∈ r.ws, w.text.length ≤ 4099 ∧ w.num ≤ 9223372036854775807
theorem hd_mem {r : Rs} (h : r.ws ≠ []) : r.hd ∈ r.ws := by
  cases hw : r.ws with
  | nil => exact absurd hw h
  | cons w l => rw [Rs.hd, hw]; simp
theorem mono_ws (e : Nat × Nat) (p : Wd → Prop) : Mono e (fun r => ∀ w ∈ r.ws, p w) where
  take r L h := by
    unfold Rs.take
    split
    · exact fun w hw => h w (List.mem_of_mem_tail hw)
    · exact h
  wrong r y _ h := by rw [wrong_ws]; exact h
  word r k h := by
    unfold Rs.word
    split
    · rw [wrong_ws]; exact h
    · exact fun w hw => h w (List.mem_of_mem_tail hw)
theorem word_of (e : Nat × Nat) (r : Rs) (k : Int) : ((r.word e k).1 = wd0 ∧ (r.word e k).2 = r.wrong e 71) ∨ (r.fl.why = 0 ∧ (r.word e k).1 ∈ r.ws ∧ (r.word e k).1.kind = k) := by
  unfold Rs.word
  split
  · exact .inl ⟨rfl, rfl⟩
  · rename_i h
    have h1 : ¬ r.fl.why ≠ 0 := fun k => h (.inl k)
    have h2 : ¬ r.ws = [] := fun k => h (.inr (.inl k))
    have h3 : ¬ r.hd.kind ≠ k := fun k => h (.inr (.inr k))
    exact .inr ⟨Decidable.of_not_not h1, hd_mem h2, Decidable.of_not_not h3⟩
theorem word_ok (e : Nat × Nat) (r : Rs) (k : Int) (h : WsOk r) : (r.word e k).1.text.length ≤ 4099 ∧ (r.word e k).1.num ≤ 9223372036854775807 := by
  rcases word_of e r k with h1 | h1
  · rw [h1.1]; exact ⟨by decide, by decide⟩
  · exact h _ h1.2.1
theorem tt_ok_nil {op num : Int} {s : Str} (h1 : 0 ≤ op ∧ op ≤ 15) (h2 : okI6 num) (h3 : s.length ≤ 4099) : (TT.mk op num s .nil []).ok := by
  rw [TT.ok]; exact ⟨⟨by omega, by omega⟩, h2, by omega, by simp, by rw [ttsOk]; trivial⟩
theorem tt_ok_two {op : Int} {a b : TT} (h1 : 0 ≤ op ∧ op ≤ 15) (ha : a.ok) (hb : b.ok) : (TT.mk op 0 [] .any [a, b]).ok := by
  rw [TT.ok]; exact ⟨⟨by omega, by omega⟩, ⟨by decide, by decide⟩, by simp, by simp, by rw [ttsOk_iff]; intro t ht; simp at ht; rcases ht with rfl | rfl <;> assumption⟩
theorem tt_ok_one {op : Int} {a : TT} (h1 : 0 ≤ op ∧ op ≤ 15) (ha : a.ok) : (TT.mk op 0 [] .any [a]).ok := by
  rw [TT.ok]; exact ⟨⟨by omega, by omega⟩, ⟨by decide, by decide⟩, by simp, by simp, by rw [ttsOk_iff]; intro t ht; simp at ht; subst ht; exact ha⟩
theorem ft_ok_args {op md : Int} {s : Str} {l : List FT} {ts : List TT} {tk ak : SK} (h1 : 0 ≤ op ∧ op ≤ 15) (h2 : okI6 md) (h3 : s.length ≤ 4099) (hl : l.length ≤ 2) (ht : ts.length ≤ 2) (ha : ∀ a ∈ l, a.ok) (hb : ∀ a ∈ ts, a.ok) : (FT.mk op s md tk ts ak l).ok := by
  rw [FT.ok]; exact ⟨⟨by omega, by omega⟩, by omega, h2, by omega, ttsOk_iff.2 hb, by omega, ftsOk_iff.2 ha⟩
theorem made_ok (e : Nat × Nat) : Made e WsOk (fun _ => False) TT.ok FT.ok where
  keep := mono_ws e _
  bad := ⟨fun _ _ h => h, fun _ _ _ h => h, fun _ _ h => h⟩
  zero := tt_ok_nil (by decide) ⟨by decide, by decide⟩ (by simp)
  leaf r h := by
    refine .inr ?_
    unfold leafP
    split
    · exact tt_ok_nil (by decide) ⟨by decide, by decide⟩ (word_ok e r 0 h).1
    · have := (word_ok e r 1 h).2
      exact tt_ok_nil (by decide) ⟨by omega, by omega⟩ (by simp)
  neg a h := tt_ok_one (by decide) h
  two op a b h1 h2 ha hb := tt_ok_two (by omega) ha hb
  nil op h1 h2 := ft_ok_args (by omega) ⟨by decide, by decide⟩ (by simp) (by simp) (by simp) (by simp) (by simp)
  not a h := ft_ok_args (by decide) ⟨by decide, by decide⟩ (by simp) (by simp) (by simp) (by simpa using h) (by simp)
  pair op a b h1 h2 ha hb := ft_ok_args (by omega) ⟨by decide, by decide⟩ (by simp) (by simp) (by simp) (by simp; exact ⟨ha, hb⟩) (by simp)
  quant op r ho h := .inr fun a ha => ft_ok_args (by omega) ⟨by decide, by decide⟩ (word_ok e r 0 h).1 (by simp) (by simp) (by simpa using ha) (by simp)
  rel op a b h1 h2 ha hb := ft_ok_args (by omega) ⟨by decide, by decide⟩ (by simp) (by simp) (by simp) (by simp) (by simp; exact ⟨ha, hb⟩)
  cong r a b h ha hb := by
    refine .inr (ft_ok_args (by decide) ?_ (by simp) (by simp) (by simp) (by simp) (by simp; exact ⟨ha, hb⟩))
    have hn := mono_need (mono_ws e _) r fMod h
    unfold modS
    try simp only
    split
    · have := (word_ok e _ 1 ((mono_ws e _).wrong _ 92 (by simp) hn)).2
      exact ⟨by omega, by omega⟩
    · have := (word_ok e _ 1 hn).2
      exact ⟨by omega, by omega⟩

theorem ws_ok (s : Str) : WsOk (rs0 s) := fun w hw => by
  have h := (lexS_ok s).wd w hw
  exact ⟨by have := h.2.1.text; omega, h.2.1.num⟩
theorem readF_ok (s : Str) : (readF s).1.ok := ((made_forms (made_ok (endS s)) _).1 (rs0 s) (ws_ok s)).2.elim (fun h => h.elim) id
end Tab

/- The reader of formulas and terms, all of it. -/
namespace Tab
open Go Go.Proofs
set_option maxRecDepth 10000
set_option linter.unusedVariables false
set_option linter.unusedSimpArgs false
set_option linter.unusedSectionVars false
set_option maxHeartbeats 1000000

theorem w_forms (e : Nat × Nat) : ∀ n, (∀ r : Rs, 16 * r.ws.length + 8 ≤ n → FormC 40 [] e r (pF e n r)) ∧ (∀ r : Rs, 16 * r.ws.length + 7 ≤ n → FormC 61 [] e r (pI e n r)) ∧ (∀ r : Rs, 16 * r.ws.length + 6 ≤ n → FormC 88 [] e r (pO e n r)) ∧
    (∀ r : Rs, 16 * r.ws.length + 5 ≤ n → FormC 120 [] e r (pA e n r)) ∧ (∀ r : Rs, 16 * r.ws.length + 4 ≤ n → FormC 136 [] e r (pU e n r)) ∧ (∀ op, ∀ r : Rs, 16 * r.ws.length + 5 ≤ n → FormC 140 [.int .i64 op] e r (pQ e n op r)) := by
  intro n
  induction n using Nat.strongRecOn with
  | _ n ih =>
    cases n with
    | zero => exact ⟨fun r h => by omega, fun r h => by omega, fun r h => by omega, fun r h => by omega, fun r h => by omega, fun _ r h => by omega⟩
    | succ n =>
      have hn := ih n (by omega)
      exact ⟨w_formula e n hn.2.1 (fun m hm => (ih m (by omega)).2.1), w_implies e n hn.2.2.1 hn.2.1, w_or e n hn.2.2.2.1 (fun m hm => (ih m (by omega)).2.2.2.1), w_and e n hn.2.2.2.2.1 (fun m hm => (ih m (by omega)).2.2.2.2.1),
        w_unary e n (fun r h => w_atom e n (w_terms e n).1 r h) hn.1 hn.2.2.2.2.1 hn.2.2.2.2.2, w_quantified e n hn.2.2.2.2.1 hn.2.2.2.2.2⟩

theorem rd_done (e : Nat × Nat) (r : Rs) : ACall Tryd.prog 41 [.ref 0 0 0] (rdH e r) fun o H' => o = .ret (.tup []) ∧ H' = rdH e (r.done e) := by
  have hw := rd_wrong e r 71
  unfold Rs.done
  rcases r with ⟨ws, fl⟩
  cases ws with
  | nil =>
    refine ACall.of_sw 10 Tryd.func41 rfl Tryd.ntmps41 (by kernel_rfl) (Nat.le_of_ble_eq_true (by kernel_rfl)) ?_; refine SW.of_vc ?_
    repeat first | refine opsStep ?_ | refine codeStep ?_ | refine drawStep ?_
    exact finR (l := []) (v := .tup []) (H₁ := rdH e ⟨[], fl⟩) trivial (by kernel_rfl) (Ent.refl _ _ _) (by kernel_rfl) ⟨rfl, rfl⟩
  | cons w l =>
    refine ACall.of_sw 10 Tryd.func41 rfl Tryd.ntmps41 (by kernel_rfl) (Nat.le_of_ble_eq_true (by kernel_rfl)) ?_; refine SW.of_vc ?_
    repeat first | refine opsStep ?_ | refine codeStep ?_ | refine drawStep ?_
    refine decB_true (b := decide (((l.length + 1 : Nat) : Int) > 0)) (by simp) ?_
    repeat first | refine opsStep ?_ | refine codeStep ?_ | refine drawStep ?_
    refine callT (args := [.ref 0 0 0, .int .i64 71]) hw [] rfl rfl (by simp [bels, AV.bel, rdH]) (rdH_bel _ _ _) (rdH_bel _ _ _) (by simp [AV.bel, bels]) ?_
    repeat first | refine opsStep ?_ | refine codeStep ?_ | refine drawStep ?_
    exact finR (l := []) (v := .tup []) (H₁ := rdH e (Rs.wrong e ⟨w :: l, fl⟩ 71)) trivial (by kernel_rfl) (Ent.refl _ _ _) (by kernel_rfl) ⟨rfl, rfl⟩

theorem p_open (s : Str) (hl : s.length < 2^62) : ACall Tryd.prog 39 [.str s] [] fun o H' => o = .ret (.ref 0 0 0) ∧ H' = rdH (endS s) (rs0 s) := by
  have hlx := lex_Words s hl
  have hrc := runeCount s hl
  have hE : rdH (endS s) (rs0 s) = [.cells 0 [aWs .any (lexS s).1, .int .i64 s.length, .int .i64 (chS s), .int .i64 (lexS s).2.why, .int .i64 (lexS s).2.at', .int .i64 (lexS s).2.ch]] := rfl
  rw [hE]
  generalize lexS s = x at *
  rcases x with ⟨W, F⟩
  simp only at hlx ⊢
  refine ACall.of_sw 19 Tryd.func39 rfl Tryd.ntmps39 (by kernel_rfl) (Nat.le_of_ble_eq_true (by kernel_rfl)) ?_; refine SW.of_vc ?_
  repeat first | refine opsStep ?_ | refine codeStep ?_ | refine drawStep ?_
  refine callP hlx ?_
  repeat first | refine opsStep ?_ | refine codeStep ?_ | refine drawStep ?_
  refine SW.drawn rfl (by kernel_rfl) ?_
  iterate 5 refine drawStep ?_
  refine .inl ⟨_, _, [], hrc, RdsN_refl _, .inr rfl, none_need, ?_⟩
  repeat first | refine opsStep ?_ | refine codeStep ?_ | refine drawStep ?_
  refine ⟨by kernel_rfl, ?_⟩
  repeat first | refine opsStep ?_ | refine codeStep ?_ | refine drawStep ?_
  refine ⟨fr [(2, .ref 0 0 0)], _, .ref 0 0 0, Ent.pick [1] (by decide) (by intro b hb; simp at hb; subst hb; show 1 < 2; decide) (fun b hb => absurd hb (Nat.not_lt_zero _)) _ _ rfl (frOk_rn ⟨(by kernel_rfl), trivial⟩) ?_ (by simp [frBel, AV.bel]) ?_, (by kernel_rfl), rfl, rfl⟩
  · intro i x b hi hb
    match i, hb with
    | 0, hb =>
      simp at hi hb
      subst hi hb
      have hc : closeds [aWs .any W, .int .i64 s.length, .int .i64 (chS s), .int .i64 F.why, .int .i64 F.at', .int .i64 F.ch] := by simp only [closeds, AV.closed]; exact ⟨aWs_closed _ _, trivial, trivial, trivial, trivial, trivial, trivial⟩
      show some (Blk.cells 0 [aWs .any W, .int .i64 s.length, .int .i64 (chS s), .int .i64 F.why, .int .i64 F.at', .int .i64 F.ch]) = some (Blk.cells 0 (rns _ _))
      rw [closeds_rn _ hc]
    | i + 1, hb => simp at hb
  · have hc : closeds [aWs .any W, .int .i64 s.length, .int .i64 (chS s), .int .i64 F.why, .int .i64 F.at', .int .i64 F.ch] := by simp only [closeds, AV.closed]; exact ⟨aWs_closed _ _, trivial, trivial, trivial, trivial, trivial, trivial⟩
    exact ⟨closeds_bel _ hc, trivial⟩


theorem rdC_closed (e : Nat × Nat) (r : Rs) : closeds (rdC e r) := by simp only [rdC, closeds, AV.closed]; exact ⟨aWs_closed _ _, trivial, trivial, trivial, trivial, trivial, trivial⟩
def zL : List AV := [.int .i64 0, .int .i64 0, .int .i64 0]
def setW (r : Rs) (y : Int) : Rs := ⟨r.ws, ⟨y, r.fl.at', r.fl.ch⟩⟩
theorem parse_Formula (s : Str) (hl : s.length < 2^62) : Pure Tryd.prog 20 [.str s] (.tup [.agg (fcl (parF s).1), .agg (fltC (parF s).2)]) := by
  have hop := p_open s hl
  have hrf := (w_forms (endS s) _).1 (rs0 s) (by show 16 * (rs0 s).ws.length + 8 ≤ 16 * (rs0 s).ws.length + 16; omega)
  have hok := readF_ok s
  have hchk := tree_Check (readF s).1 hok
  rw [FT.cells_eq] at hchk
  change Pure Tryd.prog 25 [.agg (fcl (readF s).1)] _ at hchk
  change FormC 40 [] (endS s) (rs0 s) (readF s) at hrf
  have hdn := rd_done (endS s) (readF s).2
  have hE : parF s = if ((readF s).2.done (endS s)).fl.why ≠ 0 then (nilF 0, ((readF s).2.done (endS s)).fl) else if chkF (readF s).1 ≠ 0 then (nilF 0, ⟨chkF (readF s).1, ((readF s).2.done (endS s)).fl.at', ((readF s).2.done (endS s)).fl.ch⟩) else ((readF s).1, ⟨0, ((readF s).2.done (endS s)).fl.at', ((readF s).2.done (endS s)).fl.ch⟩) := rfl
  generalize parF s = res at *
  generalize readF s = x at *
  rcases x with ⟨f, r⟩
  simp only at hrf hchk hdn hE
  generalize r.done (endS s) = r1 at *
  generalize chkF f = c at *
  clear hok
  refine Pure.of_sw 33 Tryd.func20 rfl Tryd.ntmps20 (by kernel_rfl) (Nat.le_of_ble_eq_true (by kernel_rfl)) (by simp only [closeds, AV.closed]; exact ⟨trivial, trivial⟩) (by simp only [AV.closed, closeds]; exact ⟨fcl_closed _, fltC_closed _, trivial⟩) ?_
  refine SW.of_vc ?_
  repeat first | refine opsStep ?_ | refine codeStep ?_ | refine drawStep ?_
  refine callS (args := [.str s]) (by simp [closeds, AV.closed]) hop (fun X h => by simp at h) (fun v X h => ?_)
  obtain ⟨h1, rfl⟩ := h
  cases h1
  iterate 2 refine opsStep ?_
  refine VCode.ent (Ent.fr' (l := [(2, .ref 0 0 0), (3, .ref 1 0 0), (4, .ref 2 0 0)]) (H' := [.cells 0 zF, .cells 0 zL, .cells 0 (rdC (endS s) (rs0 s))]) ⟨(by kernel_rfl), (by kernel_rfl), (by kernel_rfl), trivial⟩ (Eq.trans (b := [.cells 0 zF, .cells 0 zL, .cells 0 (shs 2 (rdC (endS s) (rs0 s)))]) (by kernel_rfl) (by rw [closeds_sh _ (rdC_closed _ _)]))) ?_
  refine VCode.ent (Ent.pick [2, 0, 1] (by decide) (by intro b hb; simp at hb; show b < 3; omega) (fun b hb => absurd hb (Nat.not_lt_zero _)) [(2, .ref 1 0 0), (3, .ref 2 0 0), (4, .ref 0 0 0)] (rdH (endS s) (rs0 s) ++ [.cells 0 zF, .cells 0 zL]) rfl (frOk_rn ⟨(by kernel_rfl), (by kernel_rfl), (by kernel_rfl), trivial⟩) ?_ (by simp [frBel, AV.bel]) (rdX_bel (X := [.cells 0 zF, .cells 0 zL]) _ _ ⟨zF_bel _, by simp [Blk.bel, zL, bels, AV.bel], trivial⟩)) ?_
  · intro zF_bel x b hi hb
    match zF_bel, hb with
    | 0, hb =>
      simp at hb
      subst hb
      have hi : Blk.cells 0 (rdC (endS s) (rs0 s)) = x := Option.some.inj hi
      subst hi
      show some (Blk.cells 0 (rdC (endS s) (rs0 s))) = some (Blk.cells 0 (rns _ _))
      rw [closeds_rn _ (rdC_closed _ _)]
    | 1, hb => simp at hb; subst hb; have hi := Option.some.inj hi; subst hi; exact rfl
    | 2, hb => simp at hb; subst hb; have hi := Option.some.inj hi; subst hi; exact rfl
    | zF_bel + 3, hb => simp at hb
  repeat first | refine opsStep ?_ | refine codeStep ?_ | refine drawStep ?_
  refine callT (args := [.ref 0 0 0]) hrf [.cells 0 zF, .cells 0 zL] rfl rfl (by simp [bels, AV.bel, rdH]) (rdH_bel _ _ _) (rdH_bel _ _ _) (by simp only [AV.bel]; exact fcl_bel _ _) ?_
  repeat first | refine opsStep ?_ | refine codeStep ?_ | refine drawStep ?_
  refine callT (args := [.ref 0 0 0]) hdn [.cells 0 zF, .cells 0 zL, .cells 0 (fcl f)] rfl rfl (by simp [bels, AV.bel, rdH]) (rdH_bel _ _ _) (rdH_bel _ _ _) (by simp [AV.bel, bels]) ?_
  repeat first | refine opsStep ?_ | refine codeStep ?_ | refine drawStep ?_
  refine callT (args := [.ref 0 0 0]) (rd_bad (endS s) r1) [.cells 0 zF, .cells 0 zL, .cells 0 (fcl f)] rfl rfl (by simp [bels, AV.bel, rdH]) (rdH_bel _ _ _) (rdH_bel _ _ _) (by simp [AV.bel, bels]) ?_
  repeat first | refine opsStep ?_ | refine codeStep ?_ | refine drawStep ?_
  refine decB_split (fun hb => ?_) (fun hb => ?_)
  rotate_left
  · have hb : r1.fl.why ≠ 0 := by simpa using hb
    rw [if_pos hb] at hE
    repeat first | refine opsStep ?_ | refine codeStep ?_ | refine drawStep ?_
    refine callT (args := [.ref 0 0 0]) (rd_bad (endS s) r1) [.cells 0 zF, .cells 0 zL, .cells 0 (fcl f)] rfl rfl (by simp [bels, AV.bel, rdH]) (rdH_bel _ _ _) (rdH_bel _ _ _) (by simp [AV.bel, bels]) ?_
    repeat first | refine opsStep ?_ | refine codeStep ?_ | refine drawStep ?_
    refine decB_true (b := decide (r1.fl.why ≠ 0)) (by simpa using hb) ?_
    repeat refine codeStep ?_
    refine SW.drawn rfl (by kernel_rfl) ?_
    repeat first | refine opsStep ?_ | refine codeStep ?_ | refine drawStep ?_
    refine ⟨by kernel_rfl, ?_⟩
    repeat first | refine opsStep ?_ | refine codeStep ?_ | refine drawStep ?_
    exact finV (v' := .tup [.agg zF, .agg (fltC r1.fl)]) (by kernel_rfl) (by rw [hE]; rfl)
  · have hb : r1.fl.why = 0 := by simpa using hb
    rw [if_neg (by simp [hb])] at hE
    repeat first | refine opsStep ?_ | refine codeStep ?_ | refine drawStep ?_
    refine callP hchk ?_
    repeat first | refine opsStep ?_ | refine codeStep ?_ | refine drawStep ?_
    refine callT (args := [.ref 0 0 0]) (rd_bad (endS s) (setW r1 c)) [.cells 0 zF, .cells 0 zL, .cells 0 (fcl f)] rfl rfl (by simp [bels, AV.bel, rdH]) (rdH_bel _ _ _) (rdH_bel _ _ _) (by simp [AV.bel, bels]) ?_
    repeat first | refine opsStep ?_ | refine codeStep ?_ | refine drawStep ?_
    refine decB_dec (fun hc => ?_) (fun hc => ?_)
    · have hc : c ≠ 0 := hc
      rw [if_pos hc] at hE
      repeat refine codeStep ?_
      refine SW.drawn rfl (by kernel_rfl) ?_
      repeat first | refine opsStep ?_ | refine codeStep ?_ | refine drawStep ?_
      refine ⟨by kernel_rfl, ?_⟩
      repeat first | refine opsStep ?_ | refine codeStep ?_ | refine drawStep ?_
      exact finV (v' := .tup [.agg zF, .agg (fltC ⟨c, r1.fl.at', r1.fl.ch⟩)]) (by kernel_rfl) (by rw [hE]; rfl)
    · have hc : c = 0 := Decidable.of_not_not hc
      rw [if_neg (by simp [hc])] at hE
      repeat refine codeStep ?_
      iterate 0 refine opsStep ?_
      repeat first | refine opsStep ?_ | refine codeStep ?_ | refine drawStep ?_
      refine SW.drawn rfl (by kernel_rfl) ?_
      repeat first | refine opsStep ?_ | refine codeStep ?_ | refine drawStep ?_
      refine ⟨by kernel_rfl, ?_⟩
      repeat first | refine opsStep ?_ | refine codeStep ?_ | refine drawStep ?_
      exact finV (v' := .tup [.agg (fcl f), .agg (fltC ⟨c, r1.fl.at', r1.fl.ch⟩)]) (by kernel_rfl) (by rw [hE, hc])

end Tab

/- Trees held against themselves. -/
namespace Tab
open Go Go.Proofs
set_option maxRecDepth 10000
set_option linter.unusedVariables false
set_option linter.unusedSimpArgs false
set_option linter.unusedSectionVars false
set_option maxHeartbeats 1000000

theorem tts_ld {l : List TT} {i : Nat} (h : i < l.length) : ((ttsC l).drop ((i : Int).toNat * 4)).take 4 = tcl (l[i]'h) := by rw [Int.toNat_natCast, ttsC_at h, TT.cells_eq]; rfl
theorem fts_ld {l : List FT} {i : Nat} (h : i < l.length) : ((ftsC l).drop ((i : Int).toNat * 5)).take 5 = fcl (l[i]'h) := by rw [Int.toNat_natCast, ftsC_at h, FT.cells_eq]; rfl
end Tab

/- The reader, plain: where it goes wrong; what is behind that place changes nothing. -/
namespace Tab
open Go
set_option maxRecDepth 10000
set_option linter.unusedVariables false
set_option linter.unusedSimpArgs false
set_option linter.unusedSectionVars false

def posW (e : Nat × Nat) (ws : List Wd) : Nat × Nat := match ws with | [] => e | w :: _ => (w.at', w.ch)
def Plc (e : Nat × Nat) (r : Rs) : Prop := r.fl = flt0 ∨ ((r.fl.why = 71 ∨ r.fl.why = 92) ∧ (r.fl.at', r.fl.ch) = posW e r.ws)
theorem take_bad {r : Rs} {L : List Str} (h : r.fl.why ≠ 0) : r.take L = ([], r) := by unfold Rs.take; exact if_neg fun k => h k.1
theorem word_bad {e : Nat × Nat} {r : Rs} {k : Int} (h : r.fl.why ≠ 0) : r.word e k = (wd0, r) := by unfold Rs.word; rw [if_pos (.inl h), Rs.wrong, if_pos h]
theorem wrong_bad {e : Nat × Nat} {r : Rs} {y : Int} (h : r.fl.why ≠ 0) : r.wrong e y = r := by rw [Rs.wrong, if_pos h]
theorem wrong_new {e : Nat × Nat} {r : Rs} {y : Int} (h : r.fl.why = 0) : r.wrong e y = ⟨r.ws, ⟨y, (posW e r.ws).1, (posW e r.ws).2⟩⟩ := by
  rw [Rs.wrong, if_neg (by simp [h])]
  cases r.ws <;> rfl
theorem take_cases (r : Rs) (L : List Str) : r.take L = ([], r) ∨ (r.fl.why = 0 ∧ r.sign ∈ L ∧ r.take L = (r.sign, ⟨r.ws.tail, r.fl⟩)) := by
  unfold Rs.take
  by_cases h : r.fl.why = 0 ∧ r.sign ∈ L
  · rw [if_pos h]; exact .inr ⟨h.1, h.2, rfl⟩
  · rw [if_neg h]; exact .inl rfl
theorem word_cases (e : Nat × Nat) (r : Rs) (k : Int) : (r.word e k = (wd0, r.wrong e 71) ∧ (r.fl.why ≠ 0 ∨ r.ws = [] ∨ r.hd.kind ≠ k)) ∨ (r.fl.why = 0 ∧ r.ws ≠ [] ∧ r.hd.kind = k ∧ r.word e k = (r.hd, ⟨r.ws.tail, r.fl⟩)) := by
  unfold Rs.word
  by_cases h : r.fl.why ≠ 0 ∨ r.ws = [] ∨ r.hd.kind ≠ k
  · rw [if_pos h]; exact .inl ⟨rfl, h⟩
  · rw [if_neg h]
    exact .inr ⟨Decidable.of_not_not fun k => h (.inl k), fun k => h (.inr (.inl k)), Decidable.of_not_not fun k => h (.inr (.inr k)), rfl⟩
theorem word_hit {e : Nat × Nat} {f : Flt} {w : Wd} {t : List Wd} {k : Int} (hf : f.why = 0) (hk : w.kind = k) : Rs.word e ⟨w :: t, f⟩ k = (w, ⟨t, f⟩) := by
  rcases word_cases e ⟨w :: t, f⟩ k with ⟨_, j | j | j⟩ | ⟨j1, j2, j3, j4⟩
  · exact absurd hf j
  · cases j
  · exact absurd hk j
  · rw [j4]; rfl
theorem plc_zero {e : Nat × Nat} {r : Rs} (h : Plc e r) (h0 : r.fl.why = 0) : r.fl = flt0 := by
  rcases h with h | ⟨h | h, _⟩
  · exact h
  · rw [h0] at h; cases h
  · rw [h0] at h; cases h
theorem mono_plc (e : Nat × Nat) : Mono e (Plc e) where
  take r L h := by
    rcases take_cases r L with k | ⟨k1, k2, k3⟩
    · rw [k]; exact h
    · rw [k3]; exact .inl (show r.fl = flt0 from plc_zero h k1)
  wrong r y hy h := by
    by_cases h0 : r.fl.why = 0
    · rw [wrong_new h0]; exact .inr ⟨hy, rfl⟩
    · rw [wrong_bad h0]; exact h
  word r k h := by
    rcases word_cases e r k with ⟨j, _⟩ | ⟨j1, j2, j3, j4⟩
    · rw [j]
      by_cases h0 : r.fl.why = 0
      · rw [wrong_new h0]; exact .inr ⟨.inl rfl, rfl⟩
      · rw [wrong_bad h0]; exact h
    · rw [j4]; exact .inl (show r.fl = flt0 from plc_zero h j1)
theorem mono_bad (e : Nat × Nat) (f : Flt) (hf : f.why ≠ 0) : Mono e (fun r => r.fl = f) where
  take r L h := by rw [take_bad (by rw [h]; exact hf)]; exact h
  wrong r y _ h := by rw [wrong_bad (by rw [h]; exact hf)]; exact h
  word r k h := by rw [word_bad (by rw [h]; exact hf)]; exact h
theorem mono_bad' (e : Nat × Nat) : Mono e (fun r => r.fl.why ≠ 0) where
  take r L h := by rw [take_bad h]; exact h
  wrong r y _ h := by rw [wrong_bad h]; exact h
  word r k h := by rw [word_bad h]; exact h
theorem Mono.or {e : Nat × Nat} {A B : Rs → Prop} (a : Mono e A) (b : Mono e B) : Mono e (fun r => A r ∨ B r) where
  take r L h := h.imp (a.take r L) (b.take r L)
  wrong r y hy h := h.imp (a.wrong r y hy) (b.wrong r y hy)
  word r k h := h.imp (a.word r k) (b.word r k)
theorem Mono.and {e : Nat × Nat} {A B : Rs → Prop} (a : Mono e A) (b : Mono e B) : Mono e (fun r => A r ∧ B r) where
  take r L h := ⟨a.take r L h.1, b.take r L h.2⟩
  wrong r y hy h := ⟨a.wrong r y hy h.1, b.wrong r y hy h.2⟩
  word r k h := ⟨a.word r k h.1, b.word r k h.2⟩

def modGo (e : Nat × Nat) (n : Rs) : Nat × Rs := (((if n.fl.why = 0 ∧ n.ws ≠ [] ∧ n.hd.kind = 1 ∧ n.hd.num = 0 then n.wrong e 92 else n).word e 1).1.num, ((if n.fl.why = 0 ∧ n.ws ≠ [] ∧ n.hd.kind = 1 ∧ n.hd.num = 0 then n.wrong e 92 else n).word e 1).2)
theorem modS_eq (e : Nat × Nat) (r : Rs) : modS e r = modGo e (r.need e fMod) := rfl
theorem modGo_nought {e : Nat × Nat} {n : Rs} (h : n.fl.why = 0 ∧ n.ws ≠ [] ∧ n.hd.kind = 1 ∧ n.hd.num = 0) : modGo e n = (0, n.wrong e 92) := by
  have hb : (n.wrong e 92).fl.why ≠ 0 := by rw [wrong_new h.1]; show (92 : Int) ≠ 0; decide
  unfold modGo
  rw [if_pos h, word_bad hb]
  rfl
theorem modGo_else {e : Nat × Nat} {n : Rs} (h : ¬ (n.fl.why = 0 ∧ n.ws ≠ [] ∧ n.hd.kind = 1 ∧ n.hd.num = 0)) : modGo e n = ((n.word e 1).1.num, (n.word e 1).2) := by
  unfold modGo
  rw [if_neg h]
end Tab

/- The reader, plain: what is read of a text is read of it where more stands behind. -/
namespace Tab
open Go
set_option maxRecDepth 10000
set_option linter.unusedVariables false
set_option linter.unusedSimpArgs false
set_option linter.unusedSectionVars false

def Cl (S : List Str) (M : List Wd) : Prop := ∀ f, Rs.sign ⟨M, f⟩ ∉ S
theorem Cl.mono {S S' : List Str} {M : List Wd} (h : Cl S M) (hs : ∀ s ∈ S', s ∈ S) : Cl S' M := fun f k => h f (hs _ k)
def Ext {X : Type} (S : List Str) (M : List Wd) (x x' : X × Rs) : Prop := x.2.fl.why = 0 → (x.2.ws ≠ [] ∨ Cl S M) → ∃ c, x.2 = ⟨c, flt0⟩ ∧ x' = (x.1, ⟨c ++ M, flt0⟩)
theorem Ext.bad {X : Type} {S : List Str} {M : List Wd} {x x' : X × Rs} (h : x.2.fl.why ≠ 0) : Ext S M x x' := fun k => absurd k h
end Tab

/- The reader, plain: what is read is right; where a text stops being one. -/
namespace Tab
open Go
set_option maxRecDepth 10000
set_option linter.unusedVariables false
set_option linter.unusedSimpArgs false
set_option linter.unusedSectionVars false

theorem run_all_step {s : Str} {p : Nat} (hp : p < s.length) (h : runS restR (s.drop p) = s.length - p) : restR (dec s p).1 = true ∧ runS restR (s.drop (p + (dec s p).2)) = s.length - (p + (dec s p).2) := by
  have hd := dec_drop s p 0
  rw [Nat.add_zero] at hd
  have hne : (s.drop p).length ≠ 0 := by rw [List.length_drop]; omega
  cases hr : restR (dec s p).1 with
  | false => rw [runS_no (by rw [hd]; exact hr)] at h; omega
  | true =>
    refine ⟨rfl, ?_⟩
    rw [runS_yes hne (by rw [hd]; exact hr), hd, List.drop_drop] at h
    omega
theorem nmFrom_all (s : Str) : ∀ (f p n : Nat), s.length < p + f → p ≤ s.length → runS restR (s.drop p) = s.length - p → (p = 0 → startR (dec s 0).1 = true) → nmFrom s f p n = some (n + chS (s.drop p))
  | 0, p, n, h, h2, _, _ => by omega
  | f + 1, p, n, h, h2, h3, h4 => by
    rw [nmFrom]
    by_cases hp : p < s.length
    · obtain ⟨k1, k2⟩ := run_all_step hp h3
      have hw := dec_width s p
      have hft := dec_fits hp
      have hd := dec_drop s p 0
      rw [Nat.add_zero] at hd
      rw [if_pos hp, if_neg, nmFrom_all s f _ _ (by omega) hft k2 (fun h => by omega), chS_step (s := s.drop p) (by rw [List.length_drop]; omega), hd, List.drop_drop]
      · congr 1; omega
      · rw [k1]
        by_cases h0 : p = 0
        · subst h0; rw [h4 rfl]; simp
        · simp [h0]
    · rw [if_neg hp, chS_nil (by rw [List.length_drop]; omega)]; rfl
theorem nameS_run {s : Str} (h0 : s.length ≠ 0) (h1 : runS restR s = s.length) (h2 : startR (dec s 0).1 = true) (h3 : chS s ≤ 16) (h4 : resS s = false) : nameS s = true := by
  have hn := nmFrom_all s (s.length + 1) 0 0 (by omega) (by omega) (by simpa using h1) (fun _ => h2)
  have hc := chS_step h0
  rw [nameS, hn]
  simp [h3, h4]
  omega
theorem tok_name {x : Str} (hx : x.length ≠ 0) (he : (tokS x).err = 0) (hk : (tokS x).kind = 0) : nameS (tokS x).text = true := by
  rw [tokS] at he hk ⊢
  split at he
  · cases he
  · rename_i h1
    rw [if_neg h1] at hk ⊢
    split at he
    · rename_i h2
      rw [if_pos h2] at hk ⊢
      have hr := start_rest h2
      have h4 := run_first hx hr
      have h5 := runS_le restR _ x rfl
      have hw := dec_width x 0
      have htl : (x.take (runS restR x)).length = runS restR x := by rw [List.length_take]; omega
      unfold nameT at he hk ⊢
      split at he
      · rename_i h3
        rw [if_pos h3] at hk; cases hk
      · rename_i h3
        rw [if_neg h3] at hk ⊢
        split at he
        · cases he
        · rename_i h6
          rw [if_neg h6] at hk ⊢
          refine nameS_run (by rw [htl]; omega) (by rw [runS_take restR blank_run.2.2.2.1 _ x _ rfl (Nat.le_refl _), htl]) ?_ (by show chS (x.take (runS restR x)) ≤ 16; omega) (by simpa using h3)
          show startR (dec (x.take (runS restR x)) 0).1 = true
          rw [dec_take (by omega)]; exact h2
    · rename_i h2
      rw [if_neg h2] at hk ⊢
      split at he
      · rename_i h3
        rw [if_pos h3] at hk
        cases hn : numS (x.take (runS digR x)) with
        | none => rw [hn] at he; cases he
        | some v => rw [hn] at hk; cases hk
      · rename_i h3
        rw [if_neg h3] at hk
        split at he
        · rename_i h4
          rw [if_pos h4] at hk; cases hk
        · rename_i h4
          rw [if_neg h4] at hk
          obtain ⟨t, _, _, e, _⟩ := sign_ok he
          rw [e] at hk; cases hk
def WsNm (r : Rs) : Prop := ∀ w ∈ r.ws, w.kind = 0 → nameS w.text = true
theorem ws_nm (s : Str) : WsNm (rs0 s) := fun w hw hk => by
  have hw : w ∈ (lexS s).1 := hw
  rw [lexS_eq] at hw
  split at hw
  · simp at hw
  have hw : w ∈ (lexW s 0 0).1 := by
    unfold finL at hw
    split at hw
    · simp at hw
    · exact hw
  obtain ⟨a1, a2⟩ := lex_ag _ s rfl 0 0 w hw
  have hz : wrT w.kind w.text w.num = w.text := by rw [wrT, if_neg (by rw [hk]; decide)]
  rw [hz] at a1 a2
  have := tok_name a2 (by rw [a1]) (by rw [a1]; exact hk)
  rwa [a1] at this

theorem tt_right {op num : Int} {s : Str} {k : SK} {l : List TT} (h : goodT (.mk op num s k l) = true) (hl : ∀ a ∈ l, a.right) : (TT.mk op num s k l).right := by
  rw [TT.right]
  refine ⟨h, ?_⟩
  clear h
  induction l with
  | nil => rw [ttsRight]; trivial
  | cons a l ih => rw [ttsRight]; exact ⟨hl a (by simp), ih fun b hb => hl b (by simp [hb])⟩
theorem ft_right {op md : Int} {s : Str} {tk ak : SK} {ts : List TT} {l : List FT} (h : goodF (.mk op s md tk ts ak l) = true) (ht : ∀ a ∈ ts, a.right) (hl : ∀ a ∈ l, a.right) : (FT.mk op s md tk ts ak l).right := by
  rw [FT.right]
  refine ⟨h, ?_, ?_⟩
  · clear h
    induction ts with
    | nil => rw [ttsRight]; trivial
    | cons a l ih => rw [ttsRight]; exact ⟨ht a (by simp), ih fun b hb => ht b (by simp [hb])⟩
  · clear h
    induction l with
    | nil => rw [ftsRight]; trivial
    | cons a l ih => rw [ftsRight]; exact ⟨hl a (by simp), ih fun b hb => hl b (by simp [hb])⟩
theorem word_nm (e : Nat × Nat) (r : Rs) (h : WsNm r) : (r.word e 0).2.fl.why ≠ 0 ∨ nameS (r.word e 0).1.text = true := by
  rcases word_cases e r 0 with ⟨j, _⟩ | ⟨j1, j2, j3, j4⟩
  · rw [j]
    refine .inl ?_
    by_cases h0 : r.fl.why = 0
    · rw [wrong_new h0]; show (71 : Int) ≠ 0; decide
    · rw [wrong_bad h0]; exact h0
  · rw [j4]; exact .inr (h _ (hd_mem j2) j3)
theorem made_right (e : Nat × Nat) : Made e WsNm (fun r => r.fl.why ≠ 0) TT.right FT.right where
  keep := mono_ws e _
  bad := mono_bad' e
  zero := tt_right (by rfl) (by simp)
  leaf r h := by
    unfold leafP
    split
    · exact (word_nm e r h).imp id fun k => tt_right (by simp [goodT, TT.op, TT.num, TT.name, TT.args, k]) (by simp)
    · exact .inr (tt_right (by simp [goodT, TT.op, TT.num, TT.name, TT.args]) (by simp))
  neg a h := tt_right (by rfl) (by simpa using h)
  two op a b h1 h2 ha hb := tt_right (by
    have : op = 3 ∨ op = 4 ∨ op = 5 := by omega
    rcases this with rfl | rfl | rfl <;> rfl) (by simp; exact ⟨ha, hb⟩)
  nil op h1 h2 := ft_right (by
    have : op = 0 ∨ op = 1 := by omega
    rcases this with rfl | rfl <;> rfl) (by simp) (by simp)
  not a h := ft_right (by rfl) (by simp) (by simpa using h)
  pair op a b h1 h2 ha hb := ft_right (by
    have : op = 3 ∨ op = 4 ∨ op = 5 ∨ op = 6 := by omega
    rcases this with rfl | rfl | rfl | rfl <;> rfl) (by simp) (by simp; exact ⟨ha, hb⟩)
  quant op r ho h := (word_nm e r h).imp id fun k a ha => ft_right (by
    rcases ho with rfl | rfl <;> simp [goodF, FT.op, FT.name, FT.md, FT.terms, FT.args, k]) (by simp) (by simpa using ha)
  rel op a b h1 h2 ha hb := ft_right (by
    have : op = 9 ∨ op = 10 ∨ op = 11 ∨ op = 12 ∨ op = 13 ∨ op = 14 := by omega
    rcases this with rfl | rfl | rfl | rfl | rfl | rfl <;> rfl) (by simp; exact ⟨ha, hb⟩) (by simp)
  cong r a b h ha hb := by
    rw [modS_eq]
    generalize r.need e fMod = n
    by_cases hc : n.fl.why = 0 ∧ n.ws ≠ [] ∧ n.hd.kind = 1 ∧ n.hd.num = 0
    · rw [modGo_nought hc]
      refine .inl ?_
      rw [wrong_new hc.1]; show (92 : Int) ≠ 0; decide
    · rw [modGo_else hc]
      rcases word_cases e n 1 with ⟨j, _⟩ | ⟨j1, j2, j3, j4⟩
      · rw [j]
        refine .inl ?_
        by_cases h0 : n.fl.why = 0
        · rw [wrong_new h0]; show (71 : Int) ≠ 0; decide
        · rw [wrong_bad h0]; exact h0
      · rw [j4]
        have hn : n.hd.num ≠ 0 := fun k => hc ⟨j1, j2, j3, k⟩
        refine .inr (ft_right ?_ (by simp; exact ⟨ha, hb⟩) (by simp))
        have : (1 : Int) ≤ (n.hd.num : Int) := by omega
        simp [goodF, FT.op, FT.name, FT.md, FT.terms, FT.args, this]
theorem readF_right (s : Str) (h : (readF s).2.fl.why = 0) : (readF s).1.right := ((made_forms (made_right (endS s)) _).1 (rs0 s) (ws_nm s)).2.elim (fun k => absurd h k) id
def okSize (e : Int) : Prop := e = 0 ∨ e = 72 ∨ e = 73
theorem node_size {m : Ms} {d : Nat} (h : okSize m.err) : okSize (nodeM m d true).err := by
  unfold nodeM
  simp only
  split
  · exact .inr (.inr rfl)
  split
  · exact .inr (.inl rfl)
  · exact h
mutual
theorem TT.walk_size : ∀ (t : TT) (d : Nat) (m : Ms), t.right → okSize m.err → okSize (t.walk d m).err
  | .mk op num name k args, d, m, h, hm => by
    rw [TT.right] at h
    have hn := node_size (d := d) hm
    rw [TT.walk, h.1]
    split
    · exact hn
    · exact ttsWalk_size args _ _ h.2 hn
theorem ttsWalk_size : ∀ (l : List TT) (d : Nat) (m : Ms), ttsRight l → okSize m.err → okSize (ttsWalk l d m).err
  | [], d, m, _, hm => by rw [ttsWalk]; exact hm
  | t :: l, d, m, h, hm => by
    rw [ttsRight] at h
    have hn := TT.walk_size t d m h.1 hm
    rw [ttsWalk]
    split
    · exact hn
    · exact ttsWalk_size l _ _ h.2 hn
end
mutual
theorem FT.walk_size : ∀ (t : FT) (d : Nat) (m : Ms), t.right → okSize m.err → okSize (t.walk d m).err
  | .mk op name md tk terms ak args, d, m, h, hm => by
    rw [FT.right] at h
    have hn := node_size (d := d) hm
    rw [FT.walk, h.1]
    have ht := ttsWalk_size terms (d + 1) _ h.2.1 hn
    split
    · exact hn
    split
    · exact ht
    · exact ftsWalk_size args _ _ h.2.2 ht
theorem ftsWalk_size : ∀ (l : List FT) (d : Nat) (m : Ms), ftsRight l → okSize m.err → okSize (ftsWalk l d m).err
  | [], d, m, _, hm => by rw [ftsWalk]; exact hm
  | t :: l, d, m, h, hm => by
    rw [ftsRight] at h
    have hn := FT.walk_size t d m h.1 hm
    rw [ftsWalk]
    split
    · exact hn
    · exact ftsWalk_size l _ _ h.2 hn
end
theorem chkF_size {t : FT} (h : t.right) : okSize (chkF t) := FT.walk_size t 1 ms0 h (.inl rfl)
end Tab

/- The law ParseStops, plain. -/
namespace Tab
open Go
set_option maxRecDepth 10000
set_option linter.unusedVariables false
set_option linter.unusedSimpArgs false
set_option linter.unusedSectionVars false

theorem lexS_zero {s : Str} (h : (lexS s).2.why = 0) : s.length ≤ 4096 ∧ lexW s 0 0 = ((lexS s).1, flt0) ∧ (lexS s).2 = flt0 := by
  rw [lexS_eq] at h ⊢
  by_cases hl : 4096 < s.length
  · rw [if_pos hl] at h; cases h
  rw [if_neg hl] at h ⊢
  have hz := (lexW_ok _ s rfl 0 0).2.2.1
  unfold finL at h ⊢
  by_cases hw : (lexW s 0 0).2.why ≠ 0
  · rw [if_pos hw] at h; exact absurd h hw
  · rw [if_neg hw]
    have := hz (Decidable.of_not_not hw)
    exact ⟨by omega, Prod.ext rfl this, this⟩
theorem lexS_of {s : Str} {W : List Wd} (hl : s.length ≤ 4096) (h : lexW s 0 0 = (W, flt0)) : lexS s = (W, flt0) := by
  rw [lexS_eq, if_neg (by omega), h]; rfl
theorem rs0_of {s : Str} {W : List Wd} (h : lexS s = (W, flt0)) : rs0 s = ⟨W, flt0⟩ := by rw [rs0, h]

theorem parF_bad {s : Str} (h : ((readF s).2.done (endS s)).fl.why ≠ 0) : parF s = (nilF 0, ((readF s).2.done (endS s)).fl) := if_pos h
theorem parF_size {s : Str} (h : ((readF s).2.done (endS s)).fl.why = 0) : (readF s).2.fl.why = 0 ∧ (readF s).2.ws = [] ∧ (parF s).2.why = chkF (readF s).1 ∧ okSize (chkF (readF s).1) ∧ (parF s).1 = (if chkF (readF s).1 = 0 then (readF s).1 else nilF 0) ∧ (parF s).2.at' = (readF s).2.fl.at' ∧ (parF s).2.ch = (readF s).2.fl.ch := by
  have hd : (readF s).2.fl.why = 0 ∧ (readF s).2.ws = [] := by
    unfold Rs.done at h
    split at h
    · rename_i hne
      by_cases h0 : (readF s).2.fl.why = 0
      · rw [wrong_new h0] at h; cases h
      · rw [wrong_bad h0] at h; exact absurd h h0
    · rename_i hne; exact ⟨h, Decidable.of_not_not hne⟩
  have hfl : ((readF s).2.done (endS s)) = (readF s).2 := by
    unfold Rs.done; exact if_neg (by rw [hd.2]; simp)
  refine ⟨hd.1, hd.2, ?_, chkF_size (readF_right s hd.1), ?_⟩
  · show (if ((readF s).2.done (endS s)).fl.why ≠ 0 then _ else _ : FT × Flt).2.why = _
    rw [if_neg (by rw [h]; simp)]
    by_cases hc : chkF (readF s).1 ≠ 0
    · rw [if_pos hc]
    · rw [if_neg hc]; exact (Decidable.of_not_not hc).symm
  · have : parF s = (if chkF (readF s).1 ≠ 0 then (nilF 0, ⟨chkF (readF s).1, ((readF s).2.done (endS s)).fl.at', ((readF s).2.done (endS s)).fl.ch⟩) else ((readF s).1, ⟨0, ((readF s).2.done (endS s)).fl.at', ((readF s).2.done (endS s)).fl.ch⟩)) := if_neg (by rw [h]; simp)
    rw [this, hfl]
    by_cases hc : chkF (readF s).1 ≠ 0
    · rw [if_pos hc, if_neg hc]; exact ⟨rfl, rfl, rfl⟩
    · rw [if_neg hc, if_pos (Decidable.of_not_not hc)]; exact ⟨rfl, rfl, rfl⟩
theorem parF_good {s : Str} (h : (parF s).2.why = 0) : chkF (parF s).1 = 0 ∧ (parF s).1 = (readF s).1 ∧ (readF s).2.fl.why = 0 ∧ (readF s).2.ws = [] := by
  by_cases hb : ((readF s).2.done (endS s)).fl.why = 0
  · obtain ⟨h1, h2, h3, h4, h5, h6, h7⟩ := parF_size hb
    rw [h3] at h
    rw [h5, if_pos h]
    exact ⟨h, rfl, h1, h2⟩
  · rw [parF_bad hb] at h; exact absurd h hb

theorem readF_lex {s : Str} (h : (lexS s).2.why ≠ 0) : (readF s).2.fl = (lexS s).2 := ((mono_forms (mono_bad (endS s) _ h) _).1 (rs0 s) rfl)
theorem parF_lex {s : Str} (h : (lexS s).2.why ≠ 0) : (parF s).2 = (lexS s).2 := by
  have hr := readF_lex h
  have hd : ((readF s).2.done (endS s)).fl = (lexS s).2 := by
    unfold Rs.done
    split
    · rw [wrong_bad (by rw [hr]; exact h), hr]
    · exact hr
  rw [parF_bad (by rw [hd]; exact h), hd]

def SufW (W : List Wd) (r : Rs) : Prop := ∃ c, W = c ++ r.ws
theorem mono_suf (e : Nat × Nat) (W : List Wd) : Mono e (SufW W) where
  take r L h := by
    obtain ⟨c, h⟩ := h
    rcases take_cases r L with k | ⟨k1, k2, k3⟩
    · rw [k]; exact ⟨c, h⟩
    · rw [k3]
      cases hw : r.ws with
      | nil => exact ⟨c, by rw [h, hw]; rfl⟩
      | cons w t => exact ⟨c ++ [w], by rw [h, hw]; simp⟩
  wrong r y _ h := by obtain ⟨c, h⟩ := h; exact ⟨c, by rw [wrong_ws]; exact h⟩
  word r k h := by
    obtain ⟨c, h⟩ := h
    rcases word_cases e r k with ⟨j, _⟩ | ⟨j1, j2, j3, j4⟩
    · rw [j]; exact ⟨c, by rw [wrong_ws]; exact h⟩
    · rw [j4]
      cases hw : r.ws with
      | nil => exact ⟨c, by rw [h, hw]; rfl⟩
      | cons w t => exact ⟨c ++ [w], by rw [h, hw]; simp⟩
theorem readF_plc {s : Str} (h : (lexS s).2.why = 0) : Plc (endS s) (readF s).2 := by
  refine (mono_forms (mono_plc (endS s)) _).1 (rs0 s) ?_
  exact .inl (lexS_zero h).2.2
theorem readF_suf (s : Str) : SufW (lexS s).1 (readF s).2 := (mono_forms (mono_suf (endS s) _) _).1 (rs0 s) ⟨[], rfl⟩
end Tab

/- Words of texts that are put together; the grammar by words' kinds. Plain. -/
namespace Tab
open Go
set_option maxRecDepth 10000
set_option linter.unusedVariables false
set_option linter.unusedSimpArgs false
set_option linter.unusedSectionVars false

structure SepC (c : UInt8) : Prop where
  asc : c.toNat < 128
  dig : digR (c.toNat : Nat) = false
  rest : restR (c.toNat : Nat) = false
  sign : ∀ t ∈ signL, c ∉ t ∨ t = [c]
theorem sep40 : SepC 40 := ⟨by decide, by decide, by unfold restR startR; decide, by decide⟩
theorem sep41 : SepC 41 := ⟨by decide, by decide, by unfold restR startR; decide, by decide⟩
theorem sep32 : SepC 32 := ⟨by decide, by decide, by unfold restR startR; decide, by decide⟩
section
variable {c : UInt8} (hc : SepC c)
include hc
theorem bt_sep (x y : Str) : bt (x ++ c :: y) x.length = c.toNat := by simp [bt]
theorem dec_sep0 (y : Str) : dec (c :: y) 0 = (c.toNat, 1) := by
  have h := bt_sep hc [] y
  simp only [List.nil_append, List.length_nil] at h
  rw [dec_ascii (by rw [h]; exact hc.asc), h]
theorem dec_sep {x y : Str} (hx : x.length ≠ 0) : dec (x ++ c :: y) 0 = dec x 0 := by
  have hb : bt (x ++ c :: y) x.length < 128 := by rw [bt_sep hc]; exact hc.asc
  have hs := dec_stop (s := x ++ c :: y) (m := x.length) (p := 0) (by omega) hb
  have := dec_take (s := x ++ c :: y) (m := x.length) (p := 0) hs
  rw [List.take_left] at this
  exact this.symm
theorem run_sep (p : Int → Bool) (hp : p (c.toNat : Nat) = false) (y : Str) : ∀ (n : Nat) (x : Str), x.length = n → runS p (x ++ c :: y) = runS p x := by
  intro n
  induction n using Nat.strongRecOn with
  | _ n ih =>
    intro x hn
    by_cases hs : x.length = 0
    · have : x = [] := List.length_eq_zero_iff.1 hs
      subst this
      rw [runS_nil (s := ([] : Str)) rfl]
      exact runS_no (by rw [List.nil_append, dec_sep0 hc]; exact hp)
    · have hd := dec_sep hc (y := y) hs
      have hw := dec_width x 0
      have hf := dec_fits (s := x) (p := 0) (by omega)
      cases h : p (dec x 0).1 with
      | false => rw [runS_no h, runS_no (by rw [hd]; exact h)]
      | true => rw [runS_yes hs h, runS_yes (by simp) (by rw [hd]; exact h), hd, List.drop_append_of_le_length (by omega), ih _ (by simp; omega) _ rfl]
omit hc in
theorem pre_sep {t : Str} (y : Str) : ∀ (x : Str), (c ∉ t ∨ (t = [c] ∧ x ≠ [])) → t.isPrefixOf (x ++ c :: y) = t.isPrefixOf x := by
  induction t with
  | nil => intro x _; simp [List.isPrefixOf]
  | cons d t ih =>
    intro x h
    cases x with
    | nil =>
      have h := h.resolve_right (fun k => k.2 rfl)
      have : (d == c) = false := by rw [beq_eq_false_iff_ne]; intro e; exact h (by simp [e])
      simp [List.isPrefixOf, this]
    | cons z x =>
      simp only [List.cons_append, List.isPrefixOf]
      rcases h with h | ⟨h, _⟩
      · rw [ih x (.inl fun k => h (by simp [k]))]
      · simp only [List.cons.injEq] at h
        rw [h.2]
        simp [List.isPrefixOf]
theorem signT_sep {x : Str} (hx : x.length ≠ 0) (y : Str) : signT (x ++ c :: y) = signT x := by
  have hne : x ≠ [] := fun h => hx (by rw [h]; rfl)
  rw [signT, signT, find_congr (g := fun t => t.isPrefixOf x) fun t ht => pre_sep y x ((hc.sign t ht).imp id fun k => ⟨k, hne⟩)]
theorem tok_sep {x : Str} (hx : x.length ≠ 0) (y : Str) : tokS (x ++ c :: y) = tokS x := by
  have hr := run_sep hc restR hc.rest y _ x rfl
  have hg := run_sep hc digR hc.dig y _ x rfl
  have l1 := runS_le restR _ x rfl
  have l2 := runS_le digR _ x rfl
  rw [tokS, tokS, dec_sep hc hx, hr, hg, List.take_append_of_le_length l1, List.take_append_of_le_length l2, signT_sep hc hx]
theorem cat_all (p : Int → Bool) (y : Str) : ∀ (n : Nat) (x : Str), x.length = n → runS p x = x.length → runS p (x ++ c :: y) = x.length + runS p (c :: y) := by
  intro n
  induction n using Nat.strongRecOn with
  | _ n ih =>
    intro x hn h
    by_cases hs : x.length = 0
    · have : x = [] := List.length_eq_zero_iff.1 hs
      subst this; simp
    · have hd := dec_sep hc (y := y) hs
      have hw := dec_width x 0
      have hf := dec_fits (s := x) (p := 0) (by omega)
      cases hp : p (dec x 0).1 with
      | false => rw [runS_no hp] at h; omega
      | true =>
        rw [runS_yes hs hp] at h
        rw [runS_yes (by simp) (by rw [hd]; exact hp), hd, List.drop_append_of_le_length (by omega), ih _ (by simp; omega) (x.drop (dec x 0).2) rfl (by rw [List.length_drop]; omega), List.length_drop]
        omega
theorem cat_stop (p : Int → Bool) (y : Str) : ∀ (n : Nat) (x : Str), x.length = n → runS p x < x.length → runS p (x ++ c :: y) = runS p x := by
  intro n
  induction n using Nat.strongRecOn with
  | _ n ih =>
    intro x hn h
    by_cases hs : x.length = 0
    · omega
    · have hd := dec_sep hc (y := y) hs
      have hw := dec_width x 0
      have hf := dec_fits (s := x) (p := 0) (by omega)
      cases hp : p (dec x 0).1 with
      | false => rw [runS_no hp, runS_no (by rw [hd]; exact hp)]
      | true =>
        rw [runS_yes hs hp] at h ⊢
        rw [runS_yes (by simp) (by rw [hd]; exact hp), hd, List.drop_append_of_le_length (by omega), ih _ (by simp; omega) (x.drop (dec x 0).2) rfl (by rw [List.length_drop]; omega)]
theorem Bd.sep {x : Str} {b : Nat} (h : Bd x b) (y : Str) : Bd (x ++ c :: y) b := by
  induction h with
  | zero => exact .zero _
  | @step x b hs h ih =>
    have hd := dec_sep hc (y := y) hs
    have hf := dec_fits (s := x) (p := 0) (by omega)
    have := Bd.step (s := x ++ c :: y) (a := b) (by simp) (by rw [hd, List.drop_append_of_le_length (by omega)]; exact ih)
    rwa [hd] at this
theorem Part.sep {x : Str} {b x1 t} (h : Part x b x1 t) (y : Str) : Part (x ++ c :: y) b (x1 ++ c :: y) t := by
  obtain ⟨l1, l2⟩ := h.lt
  obtain ⟨rfl, rfl, h3, rfl⟩ := h
  exact ⟨cat_stop hc blankR y _ x rfl l1, by rw [List.drop_append_of_le_length (by omega)], by simp, tok_sep hc h3 y⟩
theorem lex_sep (y : Str) : ∀ (n : Nat) (x : Str), x.length = n → ∀ (a ch : Nat), lexW (x ++ c :: y) a ch =
    if (lexW x a ch).2.why ≠ 0 then lexW x a ch else ((lexW x a ch).1 ++ (lexW (c :: y) (a + x.length) (ch + chS x)).1, (lexW (c :: y) (a + x.length) (ch + chS x)).2) := by
  intro n
  induction n using Nat.strongRecOn with
  | _ n ih =>
    intro x hn a ch
    rcases part_of x with h | h
    · rw [lexW_nil h, if_neg (by simp [flt0])]
      have hb := Bd.sep hc (bd_end _ x rfl) y
      have hd : (x ++ c :: y).drop x.length = c :: y := by rw [List.drop_left]
      have hr : runS blankR (x ++ c :: y) = x.length + runS blankR ((x ++ c :: y).drop x.length) := by
        rw [cat_all hc blankR y _ x rfl h, hd]
      rw [lexW_skip hb hr, hd, List.take_left]
      rfl
    · have hj := h.sep hc y
      obtain ⟨l1, l2⟩ := h.lt
      generalize hbe : runS blankR x = b at *
      generalize hxe : x.drop b = x1 at *
      generalize hte : tokS x1 = t at *
      have htk : (x ++ c :: y).take b = x.take b := List.take_append_of_le_length (by omega)
      by_cases he : t.err = 0
      · obtain ⟨n1, n2, n3, _⟩ := h.tokN he
        have hbx := h.bd
        have hcx : chS x = chS (x.take b) + (chS (x1.take t.n) + chS (x1.drop t.n)) := by
          rw [chS_split hbx, hxe, chS_split n1]
        rw [lexW_tok hj he, lexW_tok h he, htk, List.take_append_of_le_length n3, List.drop_append_of_le_length n3, ih _ (by rw [List.length_drop]; omega) (x1.drop t.n) rfl, List.length_drop]
        generalize lexW (x1.drop t.n) (a + b + t.n) (ch + chS (x.take b) + chS (x1.take t.n)) = r
        rw [show a + b + t.n + (x1.length - t.n) = a + x.length by omega, show ch + chS (x.take b) + chS (x1.take t.n) + chS (x1.drop t.n) = ch + chS x by omega]
        by_cases hw : r.2.why ≠ 0
        · simp only [if_pos hw]
        · simp only [if_neg hw, List.cons_append]
      · rw [lexW_bad hj he, lexW_bad h he, htk, if_pos he]
end

def wk (w : Wd) : Int × Str × Nat := (w.kind, w.text, w.num)
abbrev Ky := Int × Str × Nat
def Lx (x : Str) (K : List Ky) : Prop := ∃ W, lexW x 0 0 = (W, flt0) ∧ W.map wk = K
theorem Lx.at {x : Str} {K : List Ky} (h : Lx x K) (a ch : Nat) : ∃ W, lexW x a ch = (W, flt0) ∧ W.map wk = K := by
  obtain ⟨W, h1, h2⟩ := h
  have := lexW_mv a ch _ x rfl 0 0
  rw [Nat.zero_add, Nat.zero_add, h1] at this
  refine ⟨W.map (mvW a ch), by rw [this]; rfl, ?_⟩
  rw [List.map_map, ← h2]
  exact List.map_congr_left fun w _ => rfl
theorem Lx.sep {c : UInt8} (hc : SepC c) {x y : Str} {K K' : List Ky} (h : Lx x K) (h' : Lx (c :: y) K') : Lx (x ++ c :: y) (K ++ K') := by
  obtain ⟨W, h1, h2⟩ := h
  obtain ⟨V, h3, h4⟩ := h'.at (0 + x.length) (0 + chS x)
  refine ⟨W ++ V, ?_, by rw [List.map_append, h2, h4]⟩
  rw [lex_sep hc y _ x rfl, h1, if_neg (by simp [flt0]), h3]
theorem Lx.one {c : UInt8} (hc : SepC c) (hb : blankR (c.toNat : Nat) = false) (hs : startR (c.toNat : Nat) = false) (hp : plainS (c.toNat : Nat) = []) (hf : ∀ y : Str, (signL.find? fun t => t.isPrefixOf (c :: y)) = some [c]) {y : Str} {K : List Ky} (h : Lx y K) : Lx (c :: y) ((2, [c], 0) :: K) := by
  have hd := dec_sep0 hc y
  have hr : runS blankR (c :: y) = 0 := runS_no (by rw [hd]; exact hb)
  have ht : tokS (c :: y) = ⟨2, [c], 0, 1, 0⟩ := by
    rw [tokS, hd, if_neg (by
      rintro ⟨h1, _⟩
      have h1 : c.toNat = 65533 := h1
      have := hc.asc
      omega), if_neg (by rw [hs]; simp), if_neg (by rw [hc.dig]; simp), if_neg (by rw [hp]; simp), signT, hf]
    rfl
  have hpt : Part (c :: y) 0 (c :: y) ⟨2, [c], 0, 1, 0⟩ := ⟨hr, rfl, by simp, ht⟩
  obtain ⟨V, h3, h4⟩ := h.at (0 + 0 + 1) (0 + chS ((c :: y).take 0) + chS ((c :: y).take 1))
  refine ⟨⟨2, [c], 0, 0 + 0, 0 + chS ((c :: y).take 0)⟩ :: V, ?_, ?_⟩
  · rw [lexW_tok hpt rfl]
    show (_ :: (lexW y (0 + 0 + 1) (0 + chS ((c :: y).take 0) + chS ((c :: y).take 1))).1, (lexW y (0 + 0 + 1) (0 + chS ((c :: y).take 0) + chS ((c :: y).take 1))).2) = _
    rw [h3]
  · rw [List.map_cons, h4]; rfl
theorem Lx.open {y : Str} {K : List Ky} (h : Lx y K) : Lx (40 :: y) ((2, [40], 0) :: K) := Lx.one sep40 (by decide) (by unfold startR; decide) (by decide) (fun y => by simp [signL, List.isPrefixOf]) h
theorem Lx.close {y : Str} {K : List Ky} (h : Lx y K) : Lx (41 :: y) ((2, [41], 0) :: K) := Lx.one sep41 (by decide) (by unfold startR; decide) (by decide) (fun y => by simp [signL, List.isPrefixOf]) h
theorem Lx.nil : Lx [] [] := ⟨[], by kernel_rfl, rfl⟩
theorem Lx.of {s : Str} (h : (lexS s).2.why = 0) : Lx s ((lexS s).1.map wk) := ⟨(lexS s).1, (lexS_zero h).2.1, rfl⟩
theorem Lx.lexS {s : Str} {K : List Ky} (h : Lx s K) (hl : s.length ≤ 4096) : ∃ W, lexS s = (W, flt0) ∧ W.map wk = K := by
  obtain ⟨W, h1, h2⟩ := h
  exact ⟨W, lexS_of hl h1, h2⟩
end Tab

/- The grammar by words' kinds, plain: what is read of what. -/
namespace Tab
open Go
set_option maxRecDepth 10000
set_option linter.unusedVariables false
set_option linter.unusedSimpArgs false
set_option linter.unusedSectionVars false

def Okp {X : Type} (C : Nat) (p : Nat × Nat → Nat → Rs → X × Rs) (K : List Ky) (f : X) (R : List Ky) : Prop :=
  ∀ e n W, W.map wk = K → 16 * K.length + C ≤ n → ∃ V, p e n ⟨W, flt0⟩ = (f, ⟨V, flt0⟩) ∧ V.map wk = R
def Okl {X : Type} (C : Nat) (p : Nat × Nat → Nat → X × Rs → X × Rs) (x : X) (K : List Ky) (f : X) (R : List Ky) : Prop :=
  ∀ e n W, W.map wk = K → 16 * K.length + C ≤ n → ∃ V, p e n (x, ⟨W, flt0⟩) = (f, ⟨V, flt0⟩) ∧ V.map wk = R
def sgK (K : List Ky) : Str := match K with | [] => [] | k :: _ => if k.1 = 2 then k.2.1 else []
theorem sgK_sign {W : List Wd} {K : List Ky} (h : W.map wk = K) (f : Flt) : Rs.sign ⟨W, f⟩ = sgK K := by
  subst h
  cases W with
  | nil => rfl
  | cons w t => rfl
theorem take_no {W : List Wd} {K : List Ky} {L : List Str} (h : W.map wk = K) (hn : sgK K ∉ L) : (Rs.mk W flt0).take L = ([], ⟨W, flt0⟩) := by
  unfold Rs.take; exact if_neg fun k => hn (sgK_sign h flt0 ▸ k.2)
theorem take_hit {W : List Wd} {s : Str} {K : List Ky} {L : List Str} {v : Nat} (h : W.map wk = (2, s, v) :: K) (hm : s ∈ L) : ∃ V, (Rs.mk W flt0).take L = (s, ⟨V, flt0⟩) ∧ V.map wk = K := by
  cases W with
  | nil => cases h
  | cons w t =>
    obtain ⟨h1, h2⟩ := List.cons.inj h
    have hs : Rs.sign ⟨w :: t, flt0⟩ = s := by rw [sgK_sign h]; rfl
    exact ⟨t, by unfold Rs.take; rw [if_pos ⟨rfl, by rw [hs]; exact hm⟩, hs]; rfl, h2⟩
theorem need_hit {e : Nat × Nat} {W : List Wd} {s : Str} {K : List Ky} {v : Nat} (h : W.map wk = (2, s, v) :: K) (h0 : s ≠ []) : ∃ V, (Rs.mk W flt0).need e s = ⟨V, flt0⟩ ∧ V.map wk = K := by
  obtain ⟨V, h1, h2⟩ := take_hit (L := [s]) h (by simp)
  refine ⟨V, ?_, h2⟩
  unfold Rs.need
  rw [h1, if_neg h0]
theorem word_hit' {e : Nat × Nat} {W : List Wd} {k : Int} {s : Str} {v : Nat} {K : List Ky} (h : W.map wk = (k, s, v) :: K) : ∃ w V, (Rs.mk W flt0).word e k = (w, ⟨V, flt0⟩) ∧ w.text = s ∧ w.num = v ∧ V.map wk = K := by
  cases W with
  | nil => cases h
  | cons w t =>
    obtain ⟨h1, h2⟩ := List.cons.inj h
    simp only [wk, Prod.mk.injEq] at h1
    exact ⟨w, t, word_hit rfl h1.1, h1.2.1, h1.2.2, h2⟩
theorem len_wk {W : List Wd} {K : List Ky} (h : W.map wk = K) : W.length = K.length := by rw [← h]; simp

abbrev OkT := Okp (X := TT) 3 pT
abbrev OkP := Okp (X := TT) 2 pP
abbrev OkFa := Okp (X := TT) 1 pFa
abbrev OkF := Okp (X := FT) 8 pF
abbrev OkI := Okp (X := FT) 7 pI
abbrev OkO := Okp (X := FT) 6 pO
abbrev OkA := Okp (X := FT) 5 pA
abbrev OkU := Okp (X := FT) 4 pU
abbrev OkQ (op : Int) := Okp (X := FT) 5 (fun e n => pQ e n op)
def kS (s : Str) : Ky := (2, s, 0)

theorem okp_le {X : Type} {C : Nat} {p : Nat × Nat → Nat → Rs → X × Rs} {K R : List Ky} {f : X} (h : Okp C p K f R) (hl : ∀ e n r, (p e n r).2.ws.length ≤ r.ws.length) : R.length ≤ K.length := by
  obtain ⟨V, h1, h2⟩ := h (0, 0) (16 * K.length + C) (K.map fun k => ⟨k.1, k.2.1, k.2.2, 0, 0⟩) (by rw [List.map_map]; exact (List.map_congr_left fun k _ => rfl).trans (List.map_id K)) (Nat.le_refl _)
  have := hl (0, 0) (16 * K.length + C) ⟨K.map fun k => ⟨k.1, k.2.1, k.2.2, 0, 0⟩, flt0⟩
  rw [h1] at this
  simp only [List.length_map] at this
  rw [← len_wk h2]
  exact this
theorem le_P (e n r) : (pP e n r).2.ws.length ≤ r.ws.length := (terms_le e n).2.2.1 r
theorem le_Fa (e n r) : (pFa e n r).2.ws.length ≤ r.ws.length := (terms_le e n).2.2.2.2 r
theorem le_T (e n r) : (pT e n r).2.ws.length ≤ r.ws.length := (terms_le e n).1 r
theorem le_I (e n r) : (pI e n r).2.ws.length ≤ r.ws.length := (forms_le e n).2.2.1 r
theorem le_O (e n r) : (pO e n r).2.ws.length ≤ r.ws.length := (forms_le e n).2.2.2.1 r
theorem le_A (e n r) : (pA e n r).2.ws.length ≤ r.ws.length := (forms_le e n).2.2.2.2.2.1 r
theorem le_U (e n r) : (pU e n r).2.ws.length ≤ r.ws.length := (forms_le e n).2.2.2.2.2.2.2.1 r

theorem pl_stop {x} {K : List Ky} (h : sgK K ≠ tMul) : Okl 1 pPL x K x K := by
  intro e n W hW hn
  obtain ⟨n, rfl⟩ : ∃ k, n = k + 1 := ⟨n - 1, by omega⟩
  refine ⟨W, ?_, hW⟩
  rw [pPL, take_no hW (by simpa using h)]
  rfl
theorem pl_step {x u g} {K K1 R : List Ky} (hu : OkFa K u K1) (hg : Okl 1 pPL ((fun (a b : TT) => TT.mk 5 0 [] .any [a, b]) x u) K1 g R) : Okl 1 pPL x (kS tMul :: K) g R := by
  intro e n W hW hn
  have hl := okp_le hu le_Fa
  simp only [List.length_cons] at hn
  obtain ⟨n, rfl⟩ : ∃ k, n = k + 1 := ⟨n - 1, by omega⟩
  obtain ⟨V, h1, h2⟩ := take_hit (L := [tMul]) hW (by simp)
  obtain ⟨V1, h3, h4⟩ := hu e n V h2 (by omega)
  obtain ⟨V2, h5, h6⟩ := hg e n V1 h4 (by omega)
  refine ⟨V2, ?_, h6⟩
  rw [pPL, h1]
  simp only
  rw [if_pos (by simp [tMul]), h3]
  exact h5
theorem p_intro {u g} {K K1 R : List Ky} (hu : OkFa K u K1) (hg : Okl 1 pPL u K1 g R) : OkP K g R := by
  intro e n W hW hn
  have hl := okp_le hu le_Fa
  obtain ⟨n, rfl⟩ : ∃ k, n = k + 1 := ⟨n - 1, by omega⟩
  obtain ⟨V1, h3, h4⟩ := hu e n W hW (by omega)
  obtain ⟨V2, h5, h6⟩ := hg e n V1 h4 (by omega)
  refine ⟨V2, ?_, h6⟩
  rw [pP, h3]
  exact h5
theorem al_stop {x} {K : List Ky} (h : sgK K ≠ fAnd) : Okl 4 pAL x K x K := by
  intro e n W hW hn
  obtain ⟨n, rfl⟩ : ∃ k, n = k + 1 := ⟨n - 1, by omega⟩
  refine ⟨W, ?_, hW⟩
  rw [pAL, take_no hW (by simpa using h)]
  rfl
theorem al_step {x u g} {K K1 R : List Ky} (hu : OkU K u K1) (hg : Okl 4 pAL (twoF 3 x u) K1 g R) : Okl 4 pAL x (kS fAnd :: K) g R := by
  intro e n W hW hn
  have hl := okp_le hu le_U
  simp only [List.length_cons] at hn
  obtain ⟨n, rfl⟩ : ∃ k, n = k + 1 := ⟨n - 1, by omega⟩
  obtain ⟨V, h1, h2⟩ := take_hit (L := [fAnd]) hW (by simp)
  obtain ⟨V1, h3, h4⟩ := hu e n V h2 (by omega)
  obtain ⟨V2, h5, h6⟩ := hg e n V1 h4 (by omega)
  refine ⟨V2, ?_, h6⟩
  rw [pAL, h1]
  simp only
  rw [if_pos (by simp [fAnd]), h3]
  exact h5
theorem a_intro {u g} {K K1 R : List Ky} (hu : OkU K u K1) (hg : Okl 4 pAL u K1 g R) : OkA K g R := by
  intro e n W hW hn
  have hl := okp_le hu le_U
  obtain ⟨n, rfl⟩ : ∃ k, n = k + 1 := ⟨n - 1, by omega⟩
  obtain ⟨V1, h3, h4⟩ := hu e n W hW (by omega)
  obtain ⟨V2, h5, h6⟩ := hg e n V1 h4 (by omega)
  refine ⟨V2, ?_, h6⟩
  rw [pA, h3]
  exact h5
theorem ol_stop {x} {K : List Ky} (h : sgK K ≠ fOr) : Okl 5 pOL x K x K := by
  intro e n W hW hn
  obtain ⟨n, rfl⟩ : ∃ k, n = k + 1 := ⟨n - 1, by omega⟩
  refine ⟨W, ?_, hW⟩
  rw [pOL, take_no hW (by simpa using h)]
  rfl
theorem ol_step {x u g} {K K1 R : List Ky} (hu : OkA K u K1) (hg : Okl 5 pOL (twoF 4 x u) K1 g R) : Okl 5 pOL x (kS fOr :: K) g R := by
  intro e n W hW hn
  have hl := okp_le hu le_A
  simp only [List.length_cons] at hn
  obtain ⟨n, rfl⟩ : ∃ k, n = k + 1 := ⟨n - 1, by omega⟩
  obtain ⟨V, h1, h2⟩ := take_hit (L := [fOr]) hW (by simp)
  obtain ⟨V1, h3, h4⟩ := hu e n V h2 (by omega)
  obtain ⟨V2, h5, h6⟩ := hg e n V1 h4 (by omega)
  refine ⟨V2, ?_, h6⟩
  rw [pOL, h1]
  simp only
  rw [if_pos (by simp [fOr]), h3]
  exact h5
theorem o_intro {u g} {K K1 R : List Ky} (hu : OkA K u K1) (hg : Okl 5 pOL u K1 g R) : OkO K g R := by
  intro e n W hW hn
  have hl := okp_le hu le_A
  obtain ⟨n, rfl⟩ : ∃ k, n = k + 1 := ⟨n - 1, by omega⟩
  obtain ⟨V1, h3, h4⟩ := hu e n W hW (by omega)
  obtain ⟨V2, h5, h6⟩ := hg e n V1 h4 (by omega)
  refine ⟨V2, ?_, h6⟩
  rw [pO, h3]
  exact h5
theorem fl_stop {x} {K : List Ky} (h : sgK K ≠ fIff) : Okl 7 pFL x K x K := by
  intro e n W hW hn
  obtain ⟨n, rfl⟩ : ∃ k, n = k + 1 := ⟨n - 1, by omega⟩
  refine ⟨W, ?_, hW⟩
  rw [pFL, take_no hW (by simpa using h)]
  rfl
theorem fl_step {x u g} {K K1 R : List Ky} (hu : OkI K u K1) (hg : Okl 7 pFL (twoF 6 x u) K1 g R) : Okl 7 pFL x (kS fIff :: K) g R := by
  intro e n W hW hn
  have hl := okp_le hu le_I
  simp only [List.length_cons] at hn
  obtain ⟨n, rfl⟩ : ∃ k, n = k + 1 := ⟨n - 1, by omega⟩
  obtain ⟨V, h1, h2⟩ := take_hit (L := [fIff]) hW (by simp)
  obtain ⟨V1, h3, h4⟩ := hu e n V h2 (by omega)
  obtain ⟨V2, h5, h6⟩ := hg e n V1 h4 (by omega)
  refine ⟨V2, ?_, h6⟩
  rw [pFL, h1]
  simp only
  rw [if_pos (by simp [fIff]), h3]
  exact h5
theorem f_intro {u g} {K K1 R : List Ky} (hu : OkI K u K1) (hg : Okl 7 pFL u K1 g R) : OkF K g R := by
  intro e n W hW hn
  have hl := okp_le hu le_I
  obtain ⟨n, rfl⟩ : ∃ k, n = k + 1 := ⟨n - 1, by omega⟩
  obtain ⟨V1, h3, h4⟩ := hu e n W hW (by omega)
  obtain ⟨V2, h5, h6⟩ := hg e n V1 h4 (by omega)
  refine ⟨V2, ?_, h6⟩
  rw [pF, h3]
  exact h5
theorem tl_stop {x} {K : List Ky} (h1 : sgK K ≠ tAdd) (h2 : sgK K ≠ tSub) : Okl 2 pTL x K x K := by
  intro e n W hW hn
  obtain ⟨n, rfl⟩ : ∃ k, n = k + 1 := ⟨n - 1, by omega⟩
  refine ⟨W, ?_, hW⟩
  rw [pTL, take_no hW (by simp; exact ⟨h1, h2⟩)]
  rfl
theorem tl_add {x u g} {K K1 R : List Ky} (hu : OkP K u K1) (hg : Okl 2 pTL (.mk 3 0 [] .any [x, u]) K1 g R) : Okl 2 pTL x (kS tAdd :: K) g R := by
  intro e n W hW hn
  have hl := okp_le hu le_P
  simp only [List.length_cons] at hn
  obtain ⟨n, rfl⟩ : ∃ k, n = k + 1 := ⟨n - 1, by omega⟩
  obtain ⟨V, h1, h2⟩ := take_hit (L := [tAdd, tSub]) hW (by simp)
  obtain ⟨V1, h3, h4⟩ := hu e n V h2 (by omega)
  obtain ⟨V2, h5, h6⟩ := hg e n V1 h4 (by omega)
  refine ⟨V2, ?_, h6⟩
  rw [pTL, h1]
  simp only
  rw [if_pos trivial, h3]
  exact h5
theorem tl_sub {x u g} {K K1 R : List Ky} (hu : OkP K u K1) (hg : Okl 2 pTL (.mk 4 0 [] .any [x, u]) K1 g R) : Okl 2 pTL x (kS tSub :: K) g R := by
  intro e n W hW hn
  have hl := okp_le hu le_P
  simp only [List.length_cons] at hn
  obtain ⟨n, rfl⟩ : ∃ k, n = k + 1 := ⟨n - 1, by omega⟩
  obtain ⟨V, h1, h2⟩ := take_hit (L := [tAdd, tSub]) hW (by simp)
  obtain ⟨V1, h3, h4⟩ := hu e n V h2 (by omega)
  obtain ⟨V2, h5, h6⟩ := hg e n V1 h4 (by omega)
  refine ⟨V2, ?_, h6⟩
  rw [pTL, h1]
  simp only
  rw [if_neg (by decide), if_pos trivial, h3]
  exact h5
theorem t_intro {u g} {K K1 R : List Ky} (hu : OkP K u K1) (hg : Okl 2 pTL u K1 g R) : OkT K g R := by
  intro e n W hW hn
  have hl := okp_le hu le_P
  obtain ⟨n, rfl⟩ : ∃ k, n = k + 1 := ⟨n - 1, by omega⟩
  obtain ⟨V1, h3, h4⟩ := hu e n W hW (by omega)
  obtain ⟨V2, h5, h6⟩ := hg e n V1 h4 (by omega)
  refine ⟨V2, ?_, h6⟩
  rw [pT, h3]
  exact h5
theorem i_one {a} {K K1 : List Ky} (ha : OkO K a K1) (h : sgK K1 ≠ fImp) : OkI K a K1 := by
  intro e n W hW hn
  obtain ⟨n, rfl⟩ : ∃ k, n = k + 1 := ⟨n - 1, by omega⟩
  obtain ⟨V1, h3, h4⟩ := ha e n W hW (by omega)
  refine ⟨V1, ?_, h4⟩
  rw [pI, h3]
  simp only
  rw [take_no h4 (by simpa using h), if_neg (by simp)]
theorem i_two {a b} {K K1 R : List Ky} (ha : OkO K a (kS fImp :: K1)) (hb : OkI K1 b R) : OkI K (twoF 5 a b) R := by
  intro e n W hW hn
  have hl := okp_le ha le_O
  simp only [List.length_cons] at hl
  obtain ⟨n, rfl⟩ : ∃ k, n = k + 1 := ⟨n - 1, by omega⟩
  obtain ⟨V1, h3, h4⟩ := ha e n W hW (by omega)
  obtain ⟨V, h1, h2⟩ := take_hit (L := [fImp]) h4 (by simp)
  obtain ⟨V2, h5, h6⟩ := hb e n V h2 (by omega)
  refine ⟨V2, ?_, h6⟩
  rw [pI, h3]
  simp only
  rw [h1]
  simp only
  rw [if_pos (by simp [fImp]), h5]

theorem fa_name {s : Str} {K : List Ky} : OkFa ((0, s, 0) :: K) (.mk 1 0 s .nil []) K := by
  intro e n W hW hn
  obtain ⟨n, rfl⟩ : ∃ k, n = k + 1 := ⟨n - 1, by omega⟩
  obtain ⟨w, V, h1, h2, h3, h4⟩ := word_hit' (e := e) hW
  refine ⟨V, ?_, h4⟩
  rw [pFa, take_no hW (by simp [sgK, tOpen, tSub])]
  simp only
  have hc : (Rs.mk W flt0).fl.why = 0 ∧ (Rs.mk W flt0).ws ≠ [] ∧ (Rs.mk W flt0).hd.kind = 0 := by
    cases W with
    | nil => cases hW
    | cons w t =>
      obtain ⟨h1, _⟩ := List.cons.inj hW
      simp only [wk, Prod.mk.injEq] at h1
      exact ⟨rfl, by simp, h1.1⟩
  rw [if_neg (by simp [tOpen]), if_neg (by simp [tSub]), if_pos hc, h1]
  simp only [h2]
theorem fa_num {v : Nat} {s : Str} {K : List Ky} : OkFa ((1, s, v) :: K) (.mk 0 v [] .nil []) K := by
  intro e n W hW hn
  obtain ⟨n, rfl⟩ : ∃ k, n = k + 1 := ⟨n - 1, by omega⟩
  obtain ⟨w, V, h1, h2, h3, h4⟩ := word_hit' (e := e) hW
  refine ⟨V, ?_, h4⟩
  rw [pFa, take_no hW (by simp [sgK, tOpen, tSub])]
  simp only
  have hc : ¬ ((Rs.mk W flt0).fl.why = 0 ∧ (Rs.mk W flt0).ws ≠ [] ∧ (Rs.mk W flt0).hd.kind = 0) := by
    cases W with
    | nil => cases hW
    | cons w t =>
      obtain ⟨h1, _⟩ := List.cons.inj hW
      simp only [wk, Prod.mk.injEq] at h1
      rintro ⟨_, _, h⟩
      have h : w.kind = 0 := h
      rw [h1.1] at h
      cases h
  rw [if_neg (by simp [tOpen]), if_neg (by simp [tSub]), if_neg hc, h1]
  simp only [h3]
theorem fa_neg {a} {K R : List Ky} (ha : OkFa K a R) : OkFa (kS tSub :: K) (.mk 2 0 [] .any [a]) R := by
  intro e n W hW hn
  simp only [List.length_cons] at hn
  obtain ⟨n, rfl⟩ : ∃ k, n = k + 1 := ⟨n - 1, by omega⟩
  obtain ⟨V, h1, h2⟩ := take_hit (L := [tOpen, tSub]) hW (by simp)
  obtain ⟨V1, h3, h4⟩ := ha e n V h2 (by omega)
  refine ⟨V1, ?_, h4⟩
  rw [pFa, h1]
  simp only
  rw [if_neg (by decide), if_pos trivial, h3]
theorem fa_open {a} {K R : List Ky} (ha : OkT K a (kS tClose :: R)) : OkFa (kS tOpen :: K) a R := by
  intro e n W hW hn
  simp only [List.length_cons] at hn
  obtain ⟨n, rfl⟩ : ∃ k, n = k + 1 := ⟨n - 1, by omega⟩
  obtain ⟨V, h1, h2⟩ := take_hit (L := [tOpen, tSub]) hW (by simp)
  obtain ⟨V1, h3, h4⟩ := ha e n V h2 (by omega)
  obtain ⟨V2, h5, h6⟩ := need_hit (e := e) h4 (by simp [tClose])
  refine ⟨V2, ?_, h6⟩
  rw [pFa, h1]
  simp only
  rw [if_pos trivial, h3]
  simp only
  rw [h5]
theorem u_open {a} {K R : List Ky} (ha : OkF K a (kS fClose :: R)) : OkU (kS fOpen :: K) a R := by
  intro e n W hW hn
  simp only [List.length_cons] at hn
  obtain ⟨n, rfl⟩ : ∃ k, n = k + 1 := ⟨n - 1, by omega⟩
  obtain ⟨V, h1, h2⟩ := take_hit (L := unL) hW (by simp [unL])
  obtain ⟨V1, h3, h4⟩ := ha e n V h2 (by omega)
  obtain ⟨V2, h5, h6⟩ := need_hit (e := e) h4 (by simp [fClose])
  refine ⟨V2, ?_, h6⟩
  rw [pU, h1]
  simp only
  rw [if_neg (by decide), if_neg (by decide), if_neg (by decide), if_pos trivial, h3]
  simp only
  rw [h5]
theorem u_not {a} {K R : List Ky} (ha : OkU K a R) : OkU (kS fNot :: K) (oneF 2 [] a) R := by
  intro e n W hW hn
  simp only [List.length_cons] at hn
  obtain ⟨n, rfl⟩ : ∃ k, n = k + 1 := ⟨n - 1, by omega⟩
  obtain ⟨V, h1, h2⟩ := take_hit (L := unL) hW (by simp [unL])
  obtain ⟨V1, h3, h4⟩ := ha e n V h2 (by omega)
  refine ⟨V1, ?_, h4⟩
  rw [pU, h1]
  simp only
  rw [if_pos trivial, h3]
theorem u_true {K : List Ky} : OkU (kS fTrue :: K) (nilF 0) K := by
  intro e n W hW hn
  obtain ⟨n, rfl⟩ : ∃ k, n = k + 1 := ⟨n - 1, by omega⟩
  obtain ⟨V, h1, h2⟩ := take_hit (L := unL) hW (by simp [unL])
  refine ⟨V, ?_, h2⟩
  rw [pU, h1]
  rfl
theorem u_false {K : List Ky} : OkU (kS fFalse :: K) (nilF 1) K := by
  intro e n W hW hn
  obtain ⟨n, rfl⟩ : ∃ k, n = k + 1 := ⟨n - 1, by omega⟩
  obtain ⟨V, h1, h2⟩ := take_hit (L := unL) hW (by simp [unL])
  refine ⟨V, ?_, h2⟩
  rw [pU, h1]
  rfl
theorem u_ex {a} {K R : List Ky} (ha : OkQ 7 K a R) : OkU (kS fEx :: K) a R := by
  intro e n W hW hn
  simp only [List.length_cons] at hn
  obtain ⟨n, rfl⟩ : ∃ k, n = k + 1 := ⟨n - 1, by omega⟩
  obtain ⟨V, h1, h2⟩ := take_hit (L := unL) hW (by simp [unL])
  obtain ⟨V1, h3, h4⟩ := ha e n V h2 (by omega)
  refine ⟨V1, ?_, h4⟩
  rw [pU, h1]
  simp only
  rw [if_neg (by decide), if_pos trivial]
  exact h3
theorem u_all {a} {K R : List Ky} (ha : OkQ 8 K a R) : OkU (kS fAll :: K) a R := by
  intro e n W hW hn
  simp only [List.length_cons] at hn
  obtain ⟨n, rfl⟩ : ∃ k, n = k + 1 := ⟨n - 1, by omega⟩
  obtain ⟨V, h1, h2⟩ := take_hit (L := unL) hW (by simp [unL])
  obtain ⟨V1, h3, h4⟩ := ha e n V h2 (by omega)
  refine ⟨V1, ?_, h4⟩
  rw [pU, h1]
  simp only
  rw [if_neg (by decide), if_neg (by decide), if_pos trivial]
  exact h3
theorem q_last {op : Int} {x : Str} {v : Nat} {a} {K R : List Ky} (ha : OkU K a R) : OkQ op ((0, x, v) :: kS fDot :: K) (oneF op x a) R := by
  intro e n W hW hn
  simp only [List.length_cons] at hn
  obtain ⟨n, rfl⟩ : ∃ k, n = k + 1 := ⟨n - 1, by omega⟩
  obtain ⟨w, V, h1, h2, h3, h4⟩ := word_hit' (e := e) hW
  obtain ⟨V1, h5, h6⟩ := need_hit (e := e) h4 (by simp [fDot])
  obtain ⟨V2, h7, h8⟩ := ha e n V1 h6 (by omega)
  refine ⟨V2, ?_, h8⟩
  show pQ e (n + 1) op ⟨W, flt0⟩ = _
  rw [pQ, h1]
  simp only
  rw [take_no h4 (by simp [sgK, kS, fDot, fComma]), if_neg (by simp)]
  simp only
  rw [h5, h7, h2]
abbrev OkAt := Okp (X := FT) 3 pAt
theorem u_atom {f} {K R : List Ky} (hn0 : sgK K ∉ unL) (ha : OkAt K f R) : OkU K f R := by
  intro e n W hW hn
  obtain ⟨n, rfl⟩ : ∃ k, n = k + 1 := ⟨n - 1, by omega⟩
  obtain ⟨V, h1, h2⟩ := ha e n W hW (by omega)
  refine ⟨V, ?_, h2⟩
  rw [pU, take_no hW hn0]
  exact h1
theorem at_rel {s : Str} {a b : TT} {K K1 R : List Ky} (hs : s ∈ relL) (ho : relO s ≠ 15) (ha : OkT K a (kS s :: K1)) (hb : OkT K1 b R) : OkAt K (.mk (relO s) [] 0 .any [a, b] .nil []) R := by
  intro e n W hW hn
  have hl := okp_le ha le_T
  simp only [List.length_cons] at hl
  obtain ⟨V1, h3, h4⟩ := ha e n W hW (by omega)
  obtain ⟨V, h1, h2⟩ := take_hit (L := relL) h4 hs
  obtain ⟨V2, h5, h6⟩ := hb e n V h2 (by omega)
  have hs0 : s ≠ [] := by rintro rfl; revert hs; simp [relL]
  refine ⟨V2, ?_, h6⟩
  unfold pAt
  simp only
  rw [h3]
  simp only
  rw [h1]
  simp only
  rw [if_neg ho, if_neg hs0, h5]
theorem at_cong {a b : TT} {t : Str} {v : Nat} {K K1 R : List Ky} (hv : v ≠ 0) (ha : OkT K a (kS [126] :: K1)) (hb : OkT K1 b (kS fMod :: (1, t, v) :: R)) : OkAt K (.mk 15 [] v .any [a, b] .nil []) R := by
  intro e n W hW hn
  have hl := okp_le ha le_T
  simp only [List.length_cons] at hl
  obtain ⟨V1, h3, h4⟩ := ha e n W hW (by omega)
  obtain ⟨V, h1, h2⟩ := take_hit (L := relL) h4 (by simp [relL])
  obtain ⟨V2, h5, h6⟩ := hb e n V h2 (by omega)
  obtain ⟨V3, h7, h8⟩ := need_hit (e := e) h6 (by simp [fMod])
  obtain ⟨w, V4, h9, h10, h11, h12⟩ := word_hit' (e := e) h8
  refine ⟨V4, ?_, h12⟩
  have hc : ¬ ((Rs.mk V3 flt0).fl.why = 0 ∧ (Rs.mk V3 flt0).ws ≠ [] ∧ (Rs.mk V3 flt0).hd.kind = 1 ∧ (Rs.mk V3 flt0).hd.num = 0) := by
    cases V3 with
    | nil => cases h8
    | cons w t =>
      obtain ⟨h1, _⟩ := List.cons.inj h8
      simp only [wk, Prod.mk.injEq] at h1
      rintro ⟨_, _, _, h⟩
      have h : w.num = 0 := h
      exact hv (h1.2.2 ▸ h)
  have hm : modS e ⟨V2, flt0⟩ = (v, ⟨V4, flt0⟩) := by
    rw [modS_eq, h7, modGo_else hc, h9]
    simp only [h11]
  unfold pAt
  simp only
  rw [h3]
  simp only
  rw [h1]
  simp only
  rw [if_pos (by decide), if_neg (by decide), h5]
  simp only
  rw [hm]

end Tab

/- Texts put together, read: plain. -/
namespace Tab
open Go
set_option maxRecDepth 10000
set_option linter.unusedVariables false
set_option linter.unusedSimpArgs false
set_option linter.unusedSectionVars false

theorem readF_of {z : Str} {K : List Ky} {f : FT} (hl : z.length ≤ 4096) (hz : Lx z K) (h : OkF K f []) : readF z = (f, ⟨[], flt0⟩) := by
  obtain ⟨W, h1, h2⟩ := hz.lexS hl
  have h0 := rs0_of h1
  have := len_wk h2
  obtain ⟨V, h3, h4⟩ := h (endS z) (16 * W.length + 16) W h2 (by omega)
  rw [List.map_eq_nil_iff] at h4
  subst h4
  rw [readF, h0]
  exact h3
theorem parF_of {z : Str} {K : List Ky} {f : FT} (hl : z.length ≤ 4096) (hz : Lx z K) (h : OkF K f []) : parF z = if chkF f ≠ 0 then (nilF 0, ⟨chkF f, 0, 0⟩) else (f, flt0) := by
  have hr := readF_of hl hz h
  unfold parF
  rw [hr]
  rfl
structure Read (s : Str) (f : FT) (K : List Ky) : Prop where
  lx : Lx s K
  ok : OkF K f []
theorem Read.lxb {s : Str} {f : FT} {K : List Ky} (h : Read s f K) {y : Str} {M : List Ky} (hy : Lx y M) : Lx (40 :: (s ++ 41 :: y)) ((2, [40], 0) :: (K ++ (2, [41], 0) :: M)) := Lx.open (h.lx.sep sep41 (Lx.close hy))

end Tab

/- The texts of ParseBrackets and ParseBinds, plain. -/
namespace Tab
open Go
set_option maxRecDepth 10000
set_option linter.unusedVariables false
set_option linter.unusedSimpArgs false
set_option linter.unusedSectionVars false

theorem Lx.lit {x : Str} {K : List Ky} (h1 : (lexW x 0 0).2.why = 0) (h2 : (lexW x 0 0).1.map wk = K) : Lx x K := ⟨(lexW x 0 0).1, Prod.ext rfl ((lexW_ok _ x rfl 0 0).2.2.1 h1), h2⟩
theorem up_A {K R : List Ky} {f : FT} (h : OkU K f R) (h1 : sgK R ≠ fAnd) : OkA K f R := a_intro h (al_stop h1)
theorem up_O {K R : List Ky} {f : FT} (h : OkA K f R) (h1 : sgK R ≠ fOr) : OkO K f R := o_intro h (ol_stop h1)
theorem up_I {K R : List Ky} {f : FT} (h : OkO K f R) (h1 : sgK R ≠ fImp) : OkI K f R := i_one h h1
theorem up_F {K R : List Ky} {f : FT} (h : OkI K f R) (h1 : sgK R ≠ fIff) : OkF K f R := f_intro h (fl_stop h1)
theorem fin_A {K : List Ky} {f : FT} (h : OkA K f []) : OkF K f [] := up_F (up_I (up_O h (by decide)) (by decide)) (by decide)
theorem fin_U {K : List Ky} {f : FT} (h : OkU K f []) : OkF K f [] := fin_A (up_A h (by decide))
section
variable {s t : Str} {f g : FT} {K L : List Ky} (hs : Read s f K) (ht : Read t g L)
include hs ht
omit ht
end

def bk (s : Str) : Str := ([40] ++ s) ++ [41]
theorem Read.next {s : Str} {f : FT} {K : List Ky} (h : Read s f K) {m y : Str} {M Y : List Ky} (hm : Lx m M) (hy : Lx (40 :: y) Y) : Lx (bk s ++ m ++ 40 :: y) ((2, [40], 0) :: (K ++ (2, [41], 0) :: (M ++ Y))) := by
  have hz : bk s ++ m ++ 40 :: y = 40 :: (s ++ 41 :: (m ++ 40 :: y)) := by simp [bk]
  rw [hz]
  exact h.lxb (Lx.sep sep40 hm hy)
section
variable {s t u : Str} {a b c : FT} {K L N : List Ky} (hs : Read s a K) (ht : Read t b L) (hu : Read u c N)
include hs ht
omit hs ht
end

end Tab

/- Texts of terms and formulas are read as what they are of: plain. -/
namespace Tab
open Go
set_option maxRecDepth 10000
set_option linter.unusedVariables false
set_option linter.unusedSimpArgs false
set_option linter.unusedSectionVars false

theorem sep93 : SepC 93 := ⟨by decide, by decide, by unfold restR startR; decide, by decide⟩
theorem sep91 : SepC 91 := ⟨by decide, by decide, by unfold restR startR; decide, by decide⟩
theorem sep46 : SepC 46 := ⟨by decide, by decide, by unfold restR startR; decide, by decide⟩
theorem Lx.opn {y : Str} {K : List Ky} (h : Lx y K) : Lx (91 :: y) (kS tOpen :: K) := Lx.one sep91 (by decide) (by unfold startR; decide) (by decide) (fun y => by simp [signL, List.isPrefixOf]) h
theorem Lx.cls {y : Str} {K : List Ky} (h : Lx y K) : Lx (93 :: y) (kS tClose :: K) := Lx.one sep93 (by decide) (by unfold startR; decide) (by decide) (fun y => by simp [signL, List.isPrefixOf]) h
theorem Lx.dot {y : Str} {K : List Ky} (h : Lx y K) : Lx (46 :: y) (kS fDot :: K) := Lx.one sep46 (by decide) (by unfold startR; decide) (by decide) (fun y => by simp [signL, List.isPrefixOf]) h
theorem Lx.blank {y : Str} {K : List Ky} (h : Lx y K) : Lx (32 :: y) K := by
  have hj := lex_join y 0 [] rfl 0 0
  obtain ⟨V, h3, h4⟩ := h.at (0 + ([] : Str).length + 1) (0 + chS [] + 1)
  obtain ⟨W, h1, h2⟩ := Lx.nil
  have : W = [] := List.map_eq_nil_iff.1 h2
  subst this
  rw [h1, if_neg (by simp [flt0]), h3] at hj
  exact ⟨V, hj, h4⟩
theorem Lx.minus {y : Str} {K : List Ky} (hy : ∀ z, y ≠ 62 :: z) (h : Lx y K) : Lx (45 :: y) (kS tSub :: K) := by
  have hd : dec (45 :: y) 0 = (45, 1) := dec_ascii (by simp [bt])
  have hr : runS blankR (45 :: y) = 0 := runS_no (by rw [hd]; decide)
  have hf : (signL.find? fun t => t.isPrefixOf (45 :: y)) = some [45] := by
    cases y with
    | nil => decide
    | cons c z =>
      have hc : c ≠ 62 := fun k => hy z (by rw [k])
      have hb : ((62 : UInt8) == c) = false := by rw [beq_eq_false_iff_ne]; exact fun k => hc k.symm
      simp [signL, List.isPrefixOf, hb]
  have ht : tokS (45 :: y) = ⟨2, [45], 0, 1, 0⟩ := by
    rw [tokS, hd, if_neg (by decide), if_neg (by unfold startR; decide), if_neg (by decide), if_neg (by decide), signT, hf]
    rfl
  have hpt : Part (45 :: y) 0 (45 :: y) ⟨2, [45], 0, 1, 0⟩ := ⟨hr, rfl, by simp, ht⟩
  obtain ⟨V, h3, h4⟩ := h.at (0 + 0 + 1) (0 + chS ((45 :: y : Str).take 0) + chS ((45 :: y : Str).take 1))
  refine ⟨⟨2, [45], 0, 0 + 0, 0 + chS ((45 :: y : Str).take 0)⟩ :: V, ?_, ?_⟩
  · rw [lexW_tok hpt rfl]
    show (_ :: (lexW y (0 + 0 + 1) (0 + chS ((45 :: y : Str).take 0) + chS ((45 :: y : Str).take 1))).1, (lexW y (0 + 0 + 1) (0 + chS ((45 :: y : Str).take 0) + chS ((45 :: y : Str).take 1))).2) = _
    rw [h3]
  · rw [List.map_cons, h4]; rfl
theorem Lx.word {z : Str} {k : Int} {t : Str} {v : Nat} (h0 : z.length ≠ 0) (hb : runS blankR z = 0) (ht : tokS z = ⟨k, t, v, z.length, 0⟩) : Lx z [(k, t, v)] := by
  have hpt : Part z 0 z ⟨k, t, v, z.length, 0⟩ := ⟨hb, by simp, h0, ht⟩
  refine ⟨[⟨k, t, v, 0 + 0, 0 + chS (z.take 0)⟩], ?_, rfl⟩
  rw [lexW_tok hpt rfl]
  simp only [List.drop_length]
  rw [lexW_nil (x := ([] : Str)) (by rfl)]
theorem Lx.num {n : Nat} (hn : n ≤ 9223372036854775807) : Lx (dgL n) [(1, [], n)] := by
  have ht := tok_dg hn
  have h0 : (dgL n).length ≠ 0 := fun h => dg_ne n (List.length_eq_zero_iff.1 h)
  exact Lx.word h0 (tok_noblank h0 (by rw [ht])) ht
theorem nm_all (s : Str) : ∀ (f p n m : Nat), s.length < p + f → p ≤ s.length → nmFrom s f p n = some m → (p = 0 → 0 < s.length → startR (dec s 0).1 = true) ∧ runS restR (s.drop p) = s.length - p ∧ m = n + chS (s.drop p)
  | 0, p, n, m, h, h2, _ => by omega
  | f + 1, p, n, m, h, h2, h3 => by
    rw [nmFrom] at h3
    by_cases hp : p < s.length
    · rw [if_pos hp] at h3
      have hd := dec_drop s p 0
      rw [Nat.add_zero] at hd
      have hw := dec_width s p
      have hft := dec_fits hp
      have hne : (s.drop p).length ≠ 0 := by rw [List.length_drop]; omega
      split at h3
      · cases h3
      · rename_i hc
        have hc : ((decide (p = 0) && !startR (dec s p).1) || !restR (dec s p).1) = false := by simpa using hc
        rw [Bool.or_eq_false_iff] at hc
        have hr : restR (dec s p).1 = true := by simpa using hc.2
        obtain ⟨_, k2, k3⟩ := nm_all s f _ _ m (by omega) hft h3
        refine ⟨fun h0 _ => ?_, ?_, ?_⟩
        · subst h0; simpa using hc.1
        · rw [runS_yes hne (by rw [hd]; exact hr), hd, List.drop_drop, k2]; omega
        · rw [k3, chS_step hne, hd, List.drop_drop]; omega
    · rw [if_neg hp] at h3
      have : m = n := (Option.some.inj h3).symm
      have hl : (s.drop p).length = 0 := by rw [List.length_drop]; omega
      exact ⟨fun h0 h1 => by omega, by rw [runS_nil hl]; omega, by rw [chS_nil hl, this]; omega⟩
theorem Lx.name {s : Str} (h : nameS s = true) : Lx s [(0, s, 0)] := by
  unfold nameS at h
  cases hn : nmFrom s (s.length + 1) 0 0 with
  | none => rw [hn] at h; cases h
  | some m =>
    rw [hn] at h
    simp only [Bool.and_eq_true, decide_eq_true_eq, Bool.not_eq_true'] at h
    obtain ⟨⟨h1, h2⟩, h3⟩ := h
    obtain ⟨k1, k2, k3⟩ := nm_all s _ 0 0 m (by omega) (by omega) hn
    rw [List.drop_zero] at k2 k3
    have h0 : s.length ≠ 0 := fun hl => by rw [chS_nil hl] at k3; omega
    have hs := k1 rfl (by omega)
    have hrun : runS restR s = s.length := by omega
    have hw := dec_width s 0
    have ht : tokS s = ⟨0, s, 0, s.length, 0⟩ := by
      rw [tokS, if_neg, if_pos hs, hrun, List.take_length, nameT, if_neg (by simp [h3]), if_neg (by omega)]
      rintro ⟨q, _⟩
      rw [q] at hs
      have h5 : startR 65533 = false := by unfold startR; decide
      have hs : startR 65533 = true := hs
      rw [h5] at hs
      cases hs
    exact Lx.word h0 (tok_noblank h0 (by rw [ht])) ht

mutual
def TT.nk : TT → TT
  | .mk op num name _ args => .mk op num name (if args = [] then .nil else .any) (ttsNk args)
def ttsNk : List TT → List TT
  | [] => []
  | t :: l => t.nk :: ttsNk l
end
def partK (x : List Ky × Int) (least : Int) : List Ky := if bindsV x.2 < least then kS tOpen :: (x.1 ++ [kS tClose]) else x.1
def joinK' (op num : Int) (name : Str) (l : List (List Ky × Int)) : List Ky :=
  if op = 0 then [(1, [], num.toNat)] else if op = 1 then [(0, name, 0)]
  else if op = 2 then kS tSub :: partK (l.getD 0 ([], 0)) 2
  else if op = 3 then partK (l.getD 0 ([], 0)) 0 ++ kS tAdd :: partK (l.getD 1 ([], 0)) 1
  else if op = 4 then partK (l.getD 0 ([], 0)) 0 ++ kS tSub :: partK (l.getD 1 ([], 0)) 1
  else partK (l.getD 0 ([], 0)) 1 ++ kS tMul :: partK (l.getD 1 ([], 0)) 2
mutual
def TT.ks : TT → List Ky
  | .mk op num name _ args => joinK' op num name (ttsKs args)
def ttsKs : List TT → List (List Ky × Int)
  | [] => []
  | t :: l => (t.ks, t.op) :: ttsKs l
end
inductive TT.Kind : TT → Prop
  | num (v : Nat) (k : SK) : v ≤ 9223372036854775807 → TT.Kind (.mk 0 v [] k [])
  | name (s : Str) (k : SK) : nameS s = true → TT.Kind (.mk 1 0 s k [])
  | neg (k : SK) (a : TT) : a.right → a.ok → TT.Kind (.mk 2 0 [] k [a])
  | two (op : Int) (k : SK) (a b : TT) : (op = 3 ∨ op = 4 ∨ op = 5) → a.right → b.right → a.ok → b.ok → TT.Kind (.mk op 0 [] k [a, b])
theorem TT.kind {t : TT} (h : t.right) (hok : t.ok) : t.Kind := by
  rcases t with ⟨op, num, name, k, args⟩
  rw [TT.right] at h
  rw [TT.ok] at hok
  obtain ⟨hg, hr⟩ := h
  obtain ⟨_, hnum, _, _, hao⟩ := hok
  have hg : (if op = 0 then decide (0 ≤ num) && decide (name = []) && decide (args.length = 0) else if op = 1 then decide (num = 0) && nameS name && decide (args.length = 0) else if op = 2 then decide (num = 0) && decide (name = []) && decide (args.length = 1)
    else if op = 3 ∨ op = 4 ∨ op = 5 then decide (num = 0) && decide (name = []) && decide (args.length = 2) else false) = true := hg
  by_cases h0 : op = 0
  · rw [if_pos h0] at hg
    simp only [Bool.and_eq_true, decide_eq_true_eq] at hg
    obtain ⟨⟨h1, h2⟩, h3⟩ := hg
    have h3 := List.length_eq_zero_iff.1 h3
    subst h0 h2 h3
    have : num = (num.toNat : Int) := by omega
    rw [this]
    exact .num _ _ (by have := hnum.2; omega)
  rw [if_neg h0] at hg
  clear h0
  by_cases h0 : op = 1
  · rw [if_pos h0] at hg
    simp only [Bool.and_eq_true, decide_eq_true_eq] at hg
    obtain ⟨⟨h1, h2⟩, h3⟩ := hg
    have h3 := List.length_eq_zero_iff.1 h3
    subst h0 h1 h3
    exact .name _ _ h2
  rw [if_neg h0] at hg
  clear h0
  by_cases h0 : op = 2
  · rw [if_pos h0] at hg
    simp only [Bool.and_eq_true, decide_eq_true_eq] at hg
    obtain ⟨⟨h1, h2⟩, h3⟩ := hg
    subst h0 h1 h2
    match args, h3 with
    | [a], _ =>
      rw [ttsRight] at hr
      rw [ttsOk] at hao
      exact .neg _ _ hr.1 hao.1
  rw [if_neg h0] at hg
  clear h0
  by_cases h0 : op = 3 ∨ op = 4 ∨ op = 5
  · rw [if_pos h0] at hg
    simp only [Bool.and_eq_true, decide_eq_true_eq] at hg
    obtain ⟨⟨h1, h2⟩, h3⟩ := hg
    subst h1 h2
    match args, h3 with
    | [a, b], _ =>
      rw [ttsRight, ttsRight] at hr
      rw [ttsOk, ttsOk] at hao
      exact .two _ _ _ _ h0 hr.1 hr.2.1 hao.1 hao.2.1
  · rw [if_neg h0] at hg; cases hg
theorem nodes_pos (t : TT) : 1 ≤ t.nodes := by rcases t with ⟨op, num, name, k, args⟩; rw [TT.nodes]; omega
theorem no_gt {n : Nat} : ∀ z, dgL n ≠ 62 :: z := fun z h => by
  have := dg_chars n 62 (by rw [h]; simp)
  exact absurd this.2 (by decide)
theorem start62 : startR 62 = false := by unfold startR; decide
theorem nm_gt {s : Str} (h : nameS s = true) : ∀ z, s ≠ 62 :: z := fun z e => by
  unfold nameS at h
  cases hn : nmFrom s (s.length + 1) 0 0 with
  | none => rw [hn] at h; cases h
  | some m =>
    obtain ⟨k1, _, _⟩ := nm_all s _ 0 0 m (by omega) (by omega) hn
    have := k1 rfl (by rw [e]; simp)
    rw [e, dec_ascii (by simp [bt])] at this
    have h62 : startR 62 = true := this
    rw [start62] at h62
    cases h62

end Tab

/- A term's text is read as the term: plain. -/
namespace Tab
open Go
set_option maxRecDepth 10000
set_option linter.unusedVariables false
set_option linter.unusedSimpArgs false
set_option linter.unusedSectionVars false

theorem partS_lx {x : Str} {K : List Ky} (o l : Int) (h : Lx x K) : Lx (partS (x, o) l) (partK (K, o) l) := by
  unfold partS partK
  by_cases hb : bindsV o < l
  · rw [if_pos hb, if_pos hb]
    have : ([91] ++ x) ++ [93] = 91 :: (x ++ 93 :: []) := by simp
    rw [this]
    exact Lx.opn (h.sep sep93 (Lx.cls Lx.nil))
  · rw [if_neg hb, if_neg hb]; exact h
theorem partS_gt {x : Str} (o l : Int) (h : ∀ z, x ≠ 62 :: z) : ∀ z, partS (x, o) l ≠ 62 :: z := fun z => by
  unfold partS
  by_cases hb : bindsV o < l
  · rw [if_pos hb]; simp
  · rw [if_neg hb]; exact h z
theorem partS_ne {x : Str} (o l : Int) (h : x ≠ []) : partS (x, o) l ≠ [] := by
  unfold partS
  by_cases hb : bindsV o < l
  · rw [if_pos hb]; simp
  · rw [if_neg hb]; exact h
theorem mid_lx {x y m : Str} {K L M : List Ky} (hx : Lx x K) (hm : Lx m M) (hy : Lx y L) : Lx ((x ++ (32 :: (m ++ [32]))) ++ y) (K ++ (M ++ L)) := by
  have : (x ++ (32 :: (m ++ [32]))) ++ y = x ++ 32 :: (m ++ 32 :: y) := by simp
  rw [this]
  exact hx.sep sep32 (Lx.blank (hm.sep sep32 (Lx.blank hy)))
theorem tx_num (v : Nat) (k : SK) : (TT.mk 0 v [] k []).tx = dgL v ∧ (TT.mk 0 v [] k []).ks = [(1, [], v)] ∧ (TT.mk 0 v [] k []).nk = .mk 0 v [] .nil [] := by
  refine ⟨by rw [TT.tx, ttsTx]; rfl, by rw [TT.ks, ttsKs]; rfl, by rw [TT.nk, ttsNk]; rfl⟩
theorem tx_name (s : Str) (k : SK) : (TT.mk 1 0 s k []).tx = s ∧ (TT.mk 1 0 s k []).ks = [(0, s, 0)] ∧ (TT.mk 1 0 s k []).nk = .mk 1 0 s .nil [] := by
  refine ⟨by rw [TT.tx, ttsTx]; rfl, by rw [TT.ks, ttsKs]; rfl, by rw [TT.nk, ttsNk]; rfl⟩
theorem tx_neg (k : SK) (a : TT) : (TT.mk 2 0 [] k [a]).tx = 45 :: partS (a.tx, a.op) 2 ∧ (TT.mk 2 0 [] k [a]).ks = kS tSub :: partK (a.ks, a.op) 2 ∧ (TT.mk 2 0 [] k [a]).nk = .mk 2 0 [] .any [a.nk] := by
  refine ⟨by rw [TT.tx, ttsTx, ttsTx]; rfl, by rw [TT.ks, ttsKs, ttsKs]; rfl, by rw [TT.nk, ttsNk, ttsNk]; rfl⟩
theorem tx_two (op : Int) (k : SK) (a b : TT) (h : op = 3 ∨ op = 4 ∨ op = 5) :
    (TT.mk op 0 [] k [a, b]).tx = (partS (a.tx, a.op) (if op = 5 then 1 else 0) ++ (32 :: ((if op = 3 then tAdd else if op = 4 then tSub else tMul) ++ [32]))) ++ partS (b.tx, b.op) (if op = 5 then 2 else 1) ∧
    (TT.mk op 0 [] k [a, b]).ks = partK (a.ks, a.op) (if op = 5 then 1 else 0) ++ kS (if op = 3 then tAdd else if op = 4 then tSub else tMul) :: partK (b.ks, b.op) (if op = 5 then 2 else 1) ∧
    (TT.mk op 0 [] k [a, b]).nk = .mk op 0 [] .any [a.nk, b.nk] := by
  rw [TT.tx, TT.ks, TT.nk, ttsTx, ttsTx, ttsTx, ttsKs, ttsKs, ttsKs, ttsNk, ttsNk, ttsNk]
  rcases h with rfl | rfl | rfl
  · exact ⟨rfl, rfl, rfl⟩
  · exact ⟨rfl, rfl, rfl⟩
  · exact ⟨rfl, rfl, rfl⟩
theorem lit_op {op : Int} (h : op = 3 ∨ op = 4 ∨ op = 5) : Lx (if op = 3 then tAdd else if op = 4 then tSub else tMul) [kS (if op = 3 then tAdd else if op = 4 then tSub else tMul)] := by
  rcases h with rfl | rfl | rfl
  · exact Lx.lit (x := [43]) (K := [kS tAdd]) (by kernel_rfl) (by kernel_rfl)
  · exact Lx.lit (x := [45]) (K := [kS tSub]) (by kernel_rfl) (by kernel_rfl)
  · exact Lx.lit (x := [42]) (K := [kS tMul]) (by kernel_rfl) (by kernel_rfl)
theorem tt_lx : ∀ (n : Nat) (t : TT), t.nodes ≤ n → t.right → t.ok → Lx t.tx t.ks ∧ (∀ z, t.tx ≠ 62 :: z) ∧ t.tx ≠ [] := by
  intro n
  induction n with
  | zero => intro t h; have := nodes_pos t; omega
  | succ n ih =>
    intro t hn hr hok
    cases TT.kind hr hok with
    | num v k hv =>
      obtain ⟨e1, e2, _⟩ := tx_num v k
      rw [e1, e2]
      exact ⟨Lx.num hv, no_gt, dg_ne v⟩
    | name s k hs =>
      obtain ⟨e1, e2, _⟩ := tx_name s k
      rw [e1, e2]
      refine ⟨Lx.name hs, nm_gt hs, ?_⟩
      rintro rfl
      exact absurd hs (by simp [nameS, nmFrom])
    | neg k a ha ho =>
      rw [TT.nodes, ttsNodes, ttsNodes] at hn
      obtain ⟨i1, i2, i3⟩ := ih a (by omega) ha ho
      obtain ⟨e1, e2, _⟩ := tx_neg k a
      rw [e1, e2]
      exact ⟨Lx.minus (partS_gt _ _ i2) (partS_lx _ _ i1), fun z => by simp, by simp⟩
    | two op k a b ho ha hb hoa hob =>
      rw [TT.nodes, ttsNodes, ttsNodes, ttsNodes] at hn
      obtain ⟨i1, i2, i3⟩ := ih a (by omega) ha hoa
      obtain ⟨j1, j2, j3⟩ := ih b (by omega) hb hob
      obtain ⟨e1, e2, _⟩ := tx_two op k a b ho
      rw [e1, e2]
      refine ⟨mid_lx (partS_lx _ _ i1) (lit_op ho) (partS_lx _ _ j1), fun z h => ?_, ?_⟩
      · have hne := partS_ne a.op (if op = 5 then 1 else 0) i3
        have hgt := partS_gt a.op (if op = 5 then 1 else 0) i2
        cases hp : partS (a.tx, a.op) (if op = 5 then 1 else 0) with
        | nil => exact hne hp
        | cons c x =>
          rw [hp] at h
          simp only [List.cons_append] at h
          exact hgt x (by rw [hp, (List.cons.inj h).1])
      · have hne := partS_ne a.op (if op = 5 then 1 else 0) i3
        intro h
        have := (List.append_eq_nil_iff.1 (List.append_eq_nil_iff.1 h).1).1
        exact hne this

structure TG (t : TT) : Prop where
  fa : bindsV t.op = 2 → ∀ M, OkFa (t.ks ++ M) t.nk M
  cp : 1 ≤ bindsV t.op → ∀ M g R, Okl 1 pPL t.nk M g R → OkP (t.ks ++ M) g R
  ct : ∀ M g R, sgK M ≠ tMul → Okl 2 pTL t.nk M g R → OkT (t.ks ++ M) g R
theorem binds_range (o : Int) : 0 ≤ bindsV o ∧ bindsV o ≤ 2 := by
  unfold bindsV
  repeat' split
  all_goals decide
section
variable {t : TT} (h : TG t)
include h
theorem TG.okT {M : List Ky} (h1 : sgK M ≠ tMul) (h2 : sgK M ≠ tAdd) (h3 : sgK M ≠ tSub) : OkT (t.ks ++ M) t.nk M := h.ct M _ _ h1 (tl_stop h2 h3)
theorem TG.brk (M : List Ky) : OkFa ((kS tOpen :: (t.ks ++ [kS tClose])) ++ M) t.nk M := by
  have : (kS tOpen :: (t.ks ++ [kS tClose])) ++ M = kS tOpen :: (t.ks ++ kS tClose :: M) := by simp
  rw [this]
  exact fa_open (h.okT (by simp [sgK, kS, tClose, tMul]) (by simp [sgK, kS, tClose, tAdd]) (by simp [sgK, kS, tClose, tSub]))
theorem TG.faP (M : List Ky) : OkFa (partK (t.ks, t.op) 2 ++ M) t.nk M := by
  have hr := binds_range t.op
  unfold partK
  by_cases hb : bindsV t.op < 2
  · rw [if_pos hb]; exact h.brk M
  · rw [if_neg hb]; exact h.fa (by omega) M
theorem TG.cpP (M : List Ky) (g : TT) (R : List Ky) (hl : Okl 1 pPL t.nk M g R) : OkP (partK (t.ks, t.op) 1 ++ M) g R := by
  unfold partK
  by_cases hb : bindsV t.op < 1
  · rw [if_pos hb]; exact p_intro (h.brk M) hl
  · rw [if_neg hb]; exact h.cp (by omega) M g R hl
theorem TG.ctP (M : List Ky) (g : TT) (R : List Ky) (hm : sgK M ≠ tMul) (hl : Okl 2 pTL t.nk M g R) : OkT (partK (t.ks, t.op) 0 ++ M) g R := by
  have hr := binds_range t.op
  unfold partK
  rw [if_neg (by show ¬ bindsV t.op < 0; omega)]
  exact h.ct M g R hm hl
omit h in
theorem TG.of_fa (h : ∀ M, OkFa (t.ks ++ M) t.nk M) : TG t :=
  ⟨fun _ => h, fun _ M g R hl => p_intro (h M) hl, fun M g R hm hl => t_intro (p_intro (h M) (pl_stop hm)) hl⟩
end
theorem tt_ok : ∀ (n : Nat) (t : TT), t.nodes ≤ n → t.right → t.ok → TG t := by
  intro n
  induction n with
  | zero => intro t h; have := nodes_pos t; omega
  | succ n ih =>
    intro t hn hr hok
    cases TT.kind hr hok with
    | num v k hv =>
      obtain ⟨_, e2, e3⟩ := tx_num v k
      exact TG.of_fa fun M => by rw [e2, e3]; exact fa_num
    | name s k hs =>
      obtain ⟨_, e2, e3⟩ := tx_name s k
      exact TG.of_fa fun M => by rw [e2, e3]; exact fa_name
    | neg k a ha ho =>
      rw [TT.nodes, ttsNodes, ttsNodes] at hn
      have i := ih a (by omega) ha ho
      obtain ⟨_, e2, e3⟩ := tx_neg k a
      exact TG.of_fa fun M => by rw [e2, e3]; exact fa_neg (i.faP M)
    | two op k a b ho ha hb hoa hob =>
      rw [TT.nodes, ttsNodes, ttsNodes, ttsNodes] at hn
      have i := ih a (by omega) ha hoa
      have j := ih b (by omega) hb hob
      obtain ⟨_, e2, e3⟩ := tx_two op k a b ho
      rcases ho with rfl | rfl | rfl
      · refine ⟨(fun h => absurd h (by simp [TT.op, bindsV])), (fun h => absurd h (by simp [TT.op, bindsV])), fun M g R hm hl => ?_⟩
        rw [e3] at hl
        rw [e2, List.append_assoc, List.cons_append]
        exact i.ctP _ g R (show tAdd ≠ tMul by decide) (tl_add (j.cpP M _ M (pl_stop hm)) hl)
      · refine ⟨(fun h => absurd h (by simp [TT.op, bindsV])), (fun h => absurd h (by simp [TT.op, bindsV])), fun M g R hm hl => ?_⟩
        rw [e3] at hl
        rw [e2, List.append_assoc, List.cons_append]
        exact i.ctP _ g R (show tSub ≠ tMul by decide) (tl_sub (j.cpP M _ M (pl_stop hm)) hl)
      · have hcp : ∀ M g R, Okl 1 pPL (TT.mk 5 0 [] k [a, b]).nk M g R → OkP ((TT.mk 5 0 [] k [a, b]).ks ++ M) g R := fun M g R hl => by
          rw [e3] at hl
          rw [e2, List.append_assoc, List.cons_append]
          exact i.cpP _ g R (pl_step (j.faP M) hl)
        exact ⟨(fun h => absurd h (by simp [TT.op, bindsV])), fun _ => hcp, fun M g R hm hl => t_intro (hcp M _ M (pl_stop hm)) hl⟩
theorem tt_back {t : TT} (hr : t.right) (ho : t.ok) : Lx t.tx t.ks ∧ ∀ M, sgK M ≠ tMul → sgK M ≠ tAdd → sgK M ≠ tSub → OkT (t.ks ++ M) t.nk M :=
  ⟨(tt_lx _ t (Nat.le_refl _) hr ho).1, fun M h1 h2 h3 => (tt_ok _ t (Nat.le_refl _) hr ho).okT h1 h2 h3⟩

end Tab

/- A formula's text is read as the formula: plain. -/
namespace Tab
open Go
set_option maxRecDepth 10000
set_option linter.unusedVariables false
set_option linter.unusedSimpArgs false
set_option linter.unusedSectionVars false

mutual
def FT.nk : FT → FT
  | .mk op name md _ terms _ args => .mk op name md (if terms = [] then .nil else .any) (ttsNk terms) (if args = [] then .nil else .any) (ftsNk args)
def ftsNk : List FT → List FT
  | [] => []
  | t :: l => t.nk :: ftsNk l
end
def sgnF (op : Int) : Str := if op = 3 then fAnd else if op = 4 then fOr else if op = 5 then fImp else if op = 6 then fIff else if op = 9 then [60, 61] else if op = 10 then [60] else if op = 11 then [62, 61] else if op = 12 then [62] else if op = 13 then [61] else if op = 14 then [33, 61] else [126]
def joinKF (op : Int) (name : Str) (md : Int) (ts l : List (List Ky)) : List Ky :=
  if op = 0 then [kS fTrue] else if op = 1 then [kS fFalse]
  else if op = 2 then kS fNot :: l.getD 0 []
  else if op = 7 then kS fEx :: (0, name, 0) :: kS fDot :: l.getD 0 []
  else if op = 8 then kS fAll :: (0, name, 0) :: kS fDot :: l.getD 0 []
  else if 3 ≤ op ∧ op ≤ 6 then kS fOpen :: ((l.getD 0 [] ++ ([kS (sgnF op)] ++ l.getD 1 [])) ++ [kS fClose])
  else if op = 15 then (ts.getD 0 [] ++ ([kS [126]] ++ ts.getD 1 [])) ++ ([kS fMod] ++ [(1, [], md.toNat)])
  else ts.getD 0 [] ++ ([kS (sgnF op)] ++ ts.getD 1 [])
mutual
def FT.ks : FT → List Ky
  | .mk op name md _ terms _ args => joinKF op name md (terms.map TT.ks) (ftsKs args)
def ftsKs : List FT → List (List Ky)
  | [] => []
  | t :: l => t.ks :: ftsKs l
end
inductive FT.Kind : FT → Prop
  | leaf (op : Int) (tk ak : SK) : (op = 0 ∨ op = 1) → FT.Kind (.mk op [] 0 tk [] ak [])
  | not (tk ak : SK) (a : FT) : a.right → a.ok → FT.Kind (.mk 2 [] 0 tk [] ak [a])
  | quant (op : Int) (s : Str) (tk ak : SK) (a : FT) : (op = 7 ∨ op = 8) → nameS s = true → a.right → a.ok → FT.Kind (.mk op s 0 tk [] ak [a])
  | two (op : Int) (tk ak : SK) (a b : FT) : (op = 3 ∨ op = 4 ∨ op = 5 ∨ op = 6) → a.right → b.right → a.ok → b.ok → FT.Kind (.mk op [] 0 tk [] ak [a, b])
  | rel (op : Int) (tk ak : SK) (x y : TT) : (op = 9 ∨ op = 10 ∨ op = 11 ∨ op = 12 ∨ op = 13 ∨ op = 14) → x.right → y.right → x.ok → y.ok → FT.Kind (.mk op [] 0 tk [x, y] ak [])
  | cong (m : Nat) (tk ak : SK) (x y : TT) : m ≠ 0 → m ≤ 9223372036854775807 → x.right → y.right → x.ok → y.ok → FT.Kind (.mk 15 [] m tk [x, y] ak [])
theorem FT.kind {f : FT} (h : f.right) (hok : f.ok) : f.Kind := by
  rcases f with ⟨op, name, md, tk, terms, ak, args⟩
  rw [FT.right] at h
  rw [FT.ok] at hok
  obtain ⟨hg, htr, har⟩ := h
  obtain ⟨_, _, hmd, _, hto, _, hao⟩ := hok
  have hg : (if op = 0 ∨ op = 1 then decide (name = []) && decide (md = 0) && decide (terms.length = 0) && decide (args.length = 0)
    else if op = 2 then decide (name = []) && decide (md = 0) && decide (terms.length = 0) && decide (args.length = 1)
    else if 3 ≤ op ∧ op ≤ 6 then decide (name = []) && decide (md = 0) && decide (terms.length = 0) && decide (args.length = 2)
    else if op = 7 ∨ op = 8 then nameS name && decide (md = 0) && decide (terms.length = 0) && decide (args.length = 1)
    else if 9 ≤ op ∧ op ≤ 14 then decide (name = []) && decide (md = 0) && decide (terms.length = 2) && decide (args.length = 0)
    else if op = 15 then decide (name = []) && decide (1 ≤ md) && decide (terms.length = 2) && decide (args.length = 0)
    else false) = true := hg
  by_cases h0 : op = 0 ∨ op = 1
  · rw [if_pos h0] at hg
    simp only [Bool.and_eq_true, decide_eq_true_eq] at hg
    obtain ⟨⟨⟨h1, h2⟩, h3⟩, h4⟩ := hg
    have h3 := List.length_eq_zero_iff.1 h3
    have h4 := List.length_eq_zero_iff.1 h4
    subst h1 h2 h3 h4
    exact .leaf _ _ _ h0
  rw [if_neg h0] at hg
  by_cases h2 : op = 2
  · rw [if_pos h2] at hg
    simp only [Bool.and_eq_true, decide_eq_true_eq] at hg
    obtain ⟨⟨⟨k1, k2⟩, k3⟩, k4⟩ := hg
    have k3 := List.length_eq_zero_iff.1 k3
    subst h2 k1 k2 k3
    match args, k4 with
    | [a], _ =>
      rw [ftsRight] at har
      rw [ftsOk] at hao
      exact .not _ _ _ har.1 hao.1
  rw [if_neg h2] at hg
  by_cases h3 : 3 ≤ op ∧ op ≤ 6
  · rw [if_pos h3] at hg
    simp only [Bool.and_eq_true, decide_eq_true_eq] at hg
    obtain ⟨⟨⟨k1, k2⟩, k3⟩, k4⟩ := hg
    have k3 := List.length_eq_zero_iff.1 k3
    subst k1 k2 k3
    match args, k4 with
    | [a, b], _ =>
      rw [ftsRight, ftsRight] at har
      rw [ftsOk, ftsOk] at hao
      exact .two _ _ _ _ _ (by omega) har.1 har.2.1 hao.1 hao.2.1
  rw [if_neg h3] at hg
  by_cases h7 : op = 7 ∨ op = 8
  · rw [if_pos h7] at hg
    simp only [Bool.and_eq_true, decide_eq_true_eq] at hg
    obtain ⟨⟨⟨k1, k2⟩, k3⟩, k4⟩ := hg
    have k3 := List.length_eq_zero_iff.1 k3
    subst k2 k3
    match args, k4 with
    | [a], _ =>
      rw [ftsRight] at har
      rw [ftsOk] at hao
      exact .quant _ _ _ _ _ h7 k1 har.1 hao.1
  rw [if_neg h7] at hg
  by_cases h9 : 9 ≤ op ∧ op ≤ 14
  · rw [if_pos h9] at hg
    simp only [Bool.and_eq_true, decide_eq_true_eq] at hg
    obtain ⟨⟨⟨k1, k2⟩, k3⟩, k4⟩ := hg
    have k4 := List.length_eq_zero_iff.1 k4
    subst k1 k2 k4
    match terms, k3 with
    | [a, b], _ =>
      rw [ttsRight, ttsRight] at htr
      rw [ttsOk, ttsOk] at hto
      exact .rel _ _ _ _ _ (by omega) htr.1 htr.2.1 hto.1 hto.2.1
  rw [if_neg h9] at hg
  by_cases h15 : op = 15
  · rw [if_pos h15] at hg
    simp only [Bool.and_eq_true, decide_eq_true_eq] at hg
    obtain ⟨⟨⟨k1, k2⟩, k3⟩, k4⟩ := hg
    have k4 := List.length_eq_zero_iff.1 k4
    subst h15 k1 k4
    match terms, k3 with
    | [a, b], _ =>
      rw [ttsRight, ttsRight] at htr
      rw [ttsOk, ttsOk] at hto
      have e : md = (md.toNat : Int) := by omega
      have hm := hmd.2
      rw [e]
      exact .cong _ _ _ _ _ (by omega) (by omega) htr.1 htr.2.1 hto.1 hto.2.1
  · rw [if_neg h15] at hg; cases hg

theorem fx_leaf0 (tk ak : SK) : (FT.mk 0 [] 0 tk [] ak []).tx = fTrue ∧ (FT.mk 0 [] 0 tk [] ak []).ks = [kS fTrue] ∧ (FT.mk 0 [] 0 tk [] ak []).nk = nilF 0 :=
  ⟨by rw [FT.tx]; rfl, by rw [FT.ks]; rfl, by rw [FT.nk, ttsNk, ftsNk]; rfl⟩
theorem fx_leaf1 (tk ak : SK) : (FT.mk 1 [] 0 tk [] ak []).tx = fFalse ∧ (FT.mk 1 [] 0 tk [] ak []).ks = [kS fFalse] ∧ (FT.mk 1 [] 0 tk [] ak []).nk = nilF 1 :=
  ⟨by rw [FT.tx]; rfl, by rw [FT.ks]; rfl, by rw [FT.nk, ttsNk, ftsNk]; rfl⟩
theorem fx_not (tk ak : SK) (a : FT) : (FT.mk 2 [] 0 tk [] ak [a]).tx = fNot ++ 32 :: a.tx ∧ (FT.mk 2 [] 0 tk [] ak [a]).ks = kS fNot :: a.ks ∧ (FT.mk 2 [] 0 tk [] ak [a]).nk = oneF 2 [] a.nk :=
  ⟨by rw [FT.tx, ftsTx, ftsTx]; rfl, by rw [FT.ks, ftsKs, ftsKs]; rfl, by rw [FT.nk, ttsNk, ftsNk, ftsNk]; rfl⟩
theorem fx_ex (s : Str) (tk ak : SK) (a : FT) : (FT.mk 7 s 0 tk [] ak [a]).tx = fEx ++ 32 :: (s ++ 46 :: 32 :: a.tx) ∧ (FT.mk 7 s 0 tk [] ak [a]).ks = kS fEx :: (0, s, 0) :: kS fDot :: a.ks ∧ (FT.mk 7 s 0 tk [] ak [a]).nk = oneF 7 s a.nk := by
  refine ⟨?_, by rw [FT.ks, ftsKs, ftsKs]; rfl, by rw [FT.nk, ttsNk, ftsNk, ftsNk]; rfl⟩
  rw [FT.tx, ftsTx, ftsTx]
  show (([101, 120, 32] ++ s) ++ [46, 32]) ++ a.tx = _
  simp [fEx]
theorem fx_all (s : Str) (tk ak : SK) (a : FT) : (FT.mk 8 s 0 tk [] ak [a]).tx = fAll ++ 32 :: (s ++ 46 :: 32 :: a.tx) ∧ (FT.mk 8 s 0 tk [] ak [a]).ks = kS fAll :: (0, s, 0) :: kS fDot :: a.ks ∧ (FT.mk 8 s 0 tk [] ak [a]).nk = oneF 8 s a.nk := by
  refine ⟨?_, by rw [FT.ks, ftsKs, ftsKs]; rfl, by rw [FT.nk, ttsNk, ftsNk, ftsNk]; rfl⟩
  rw [FT.tx, ftsTx, ftsTx]
  show (([97, 108, 108, 32] ++ s) ++ [46, 32]) ++ a.tx = _
  simp [fAll]
theorem fx_two {op : Int} (tk ak : SK) (a b : FT) (h : op = 3 ∨ op = 4 ∨ op = 5 ∨ op = 6) : (FT.mk op [] 0 tk [] ak [a, b]).tx = 40 :: (((a.tx ++ (32 :: (sgnF op ++ [32]))) ++ b.tx) ++ 41 :: []) ∧ (FT.mk op [] 0 tk [] ak [a, b]).ks = kS fOpen :: ((a.ks ++ ([kS (sgnF op)] ++ b.ks)) ++ [kS fClose]) ∧
    (FT.mk op [] 0 tk [] ak [a, b]).nk = twoF op a.nk b.nk := by
  rw [FT.tx, FT.ks, FT.nk, ftsTx, ftsTx, ftsTx, ftsKs, ftsKs, ftsKs, ttsNk, ftsNk, ftsNk, ftsNk]
  have e : ∀ m : Str, ((([40] ++ a.tx) ++ m) ++ b.tx) ++ [41] = 40 :: (((a.tx ++ m) ++ b.tx) ++ 41 :: []) := fun m => by simp
  rcases h with rfl | rfl | rfl | rfl
  · exact ⟨e _, rfl, rfl⟩
  · exact ⟨e _, rfl, rfl⟩
  · exact ⟨e _, rfl, rfl⟩
  · exact ⟨e _, rfl, rfl⟩
theorem fx_rel {op : Int} (tk ak : SK) (x y : TT) (h : op = 9 ∨ op = 10 ∨ op = 11 ∨ op = 12 ∨ op = 13 ∨ op = 14) : (FT.mk op [] 0 tk [x, y] ak []).tx = (x.tx ++ (32 :: (sgnF op ++ [32]))) ++ y.tx ∧ (FT.mk op [] 0 tk [x, y] ak []).ks = x.ks ++ ([kS (sgnF op)] ++ y.ks) ∧
    (FT.mk op [] 0 tk [x, y] ak []).nk = .mk op [] 0 .any [x.nk, y.nk] .nil [] := by
  rw [FT.tx, FT.ks, FT.nk, ttsNk, ttsNk, ttsNk, ftsNk]
  rcases h with rfl | rfl | rfl | rfl | rfl | rfl
  all_goals exact ⟨rfl, rfl, rfl⟩
theorem fx_cong (m : Nat) (tk ak : SK) (x y : TT) : (FT.mk 15 [] m tk [x, y] ak []).tx = (((x.tx ++ (32 :: ([126] ++ [32]))) ++ y.tx) ++ (32 :: (fMod ++ [32]))) ++ dgL m ∧ (FT.mk 15 [] m tk [x, y] ak []).ks = (x.ks ++ ([kS [126]] ++ y.ks)) ++ ([kS fMod] ++ [(1, [], m)]) ∧
    (FT.mk 15 [] m tk [x, y] ak []).nk = .mk 15 [] m .any [x.nk, y.nk] .nil [] := by
  rw [FT.tx, FT.ks, FT.nk, ttsNk, ttsNk, ttsNk, ftsNk]
  exact ⟨rfl, rfl, rfl⟩
theorem lit_sgn {op : Int} (h : op = 3 ∨ op = 4 ∨ op = 5 ∨ op = 6 ∨ op = 9 ∨ op = 10 ∨ op = 11 ∨ op = 12 ∨ op = 13 ∨ op = 14) : Lx (sgnF op) [kS (sgnF op)] := by
  rcases h with rfl | rfl | rfl | rfl | rfl | rfl | rfl | rfl | rfl | rfl
  · exact Lx.lit (x := fAnd) (K := [kS fAnd]) (by kernel_rfl) (by kernel_rfl)
  · exact Lx.lit (x := fOr) (K := [kS fOr]) (by kernel_rfl) (by kernel_rfl)
  · exact Lx.lit (x := fImp) (K := [kS fImp]) (by kernel_rfl) (by kernel_rfl)
  · exact Lx.lit (x := fIff) (K := [kS fIff]) (by kernel_rfl) (by kernel_rfl)
  · exact Lx.lit (x := [60, 61]) (K := [kS [60, 61]]) (by kernel_rfl) (by kernel_rfl)
  · exact Lx.lit (x := [60]) (K := [kS [60]]) (by kernel_rfl) (by kernel_rfl)
  · exact Lx.lit (x := [62, 61]) (K := [kS [62, 61]]) (by kernel_rfl) (by kernel_rfl)
  · exact Lx.lit (x := [62]) (K := [kS [62]]) (by kernel_rfl) (by kernel_rfl)
  · exact Lx.lit (x := [61]) (K := [kS [61]]) (by kernel_rfl) (by kernel_rfl)
  · exact Lx.lit (x := [33, 61]) (K := [kS [33, 61]]) (by kernel_rfl) (by kernel_rfl)

def HdT (K : List Ky) : Prop := ∃ k L, K = k :: L ∧ (k.1 = 0 ∨ k.1 = 1 ∨ k = kS tOpen ∨ k = kS tSub)
theorem HdT.app {K : List Ky} (h : HdT K) (M : List Ky) : HdT (K ++ M) := by
  obtain ⟨k, L, rfl, h⟩ := h
  exact ⟨k, L ++ M, rfl, h⟩
theorem HdT.part {K : List Ky} (h : HdT K) (o l : Int) : HdT (partK (K, o) l) := by
  unfold partK
  by_cases hb : bindsV o < l
  · rw [if_pos hb]; exact ⟨_, _, rfl, .inr (.inr (.inl rfl))⟩
  · rw [if_neg hb]; exact h
theorem tt_head : ∀ (n : Nat) (t : TT), t.nodes ≤ n → t.right → t.ok → HdT t.ks := by
  intro n
  induction n with
  | zero => intro t h; have := nodes_pos t; omega
  | succ n ih =>
    intro t hn hr hok
    cases TT.kind hr hok with
    | num v k hv => rw [(tx_num v k).2.1]; exact ⟨_, _, rfl, .inr (.inl rfl)⟩
    | name s k hs => rw [(tx_name s k).2.1]; exact ⟨_, _, rfl, .inl rfl⟩
    | neg k a ha ho => rw [(tx_neg k a).2.1]; exact ⟨_, _, rfl, .inr (.inr (.inr rfl))⟩
    | two op k a b ho ha hb hoa hob =>
      rw [TT.nodes, ttsNodes, ttsNodes, ttsNodes] at hn
      rw [(tx_two op k a b ho).2.1]
      exact ((ih a (by omega) ha hoa).part _ _).app _
theorem HdT.un {K : List Ky} (h : HdT K) : sgK K ∉ unL := by
  obtain ⟨k, L, rfl, h⟩ := h
  rcases h with h | h | h | h
  · simp only [sgK]; rw [if_neg (by rw [h]; decide)]; decide
  · simp only [sgK]; rw [if_neg (by rw [h]; decide)]; decide
  · rw [h]; show tOpen ∉ unL; decide
  · rw [h]; show tSub ∉ unL; decide

end Tab

/- A formula's text is read as the formula: plain, the end. -/
namespace Tab
open Go
set_option maxRecDepth 10000
set_option linter.unusedVariables false
set_option linter.unusedSimpArgs false
set_option linter.unusedSectionVars false

theorem fnodes_pos (t : FT) : 1 ≤ t.nodes := by rcases t with ⟨op, name, md, tk, terms, ak, args⟩; rw [FT.nodes]; omega
theorem ft_lx : ∀ (n : Nat) (f : FT), f.nodes ≤ n → f.right → f.ok → Lx f.tx f.ks := by
  intro n
  induction n with
  | zero => intro t h; have := fnodes_pos t; omega
  | succ n ih =>
    intro f hn hr hok
    cases FT.kind hr hok with
    | leaf op tk ak h =>
      rcases h with rfl | rfl
      · obtain ⟨e1, e2, _⟩ := fx_leaf0 tk ak
        rw [e1, e2]
        exact (Lx.lit (by kernel_rfl) (by kernel_rfl))
      · obtain ⟨e1, e2, _⟩ := fx_leaf1 tk ak
        rw [e1, e2]
        exact (Lx.lit (by kernel_rfl) (by kernel_rfl))
    | not tk ak a ha ho =>
      rw [FT.nodes, ttsNodes, ftsNodes, ftsNodes] at hn
      obtain ⟨e1, e2, _⟩ := fx_not tk ak a
      rw [e1, e2]
      exact Lx.sep sep32 (K := [kS fNot]) (Lx.lit (by kernel_rfl) (by kernel_rfl)) (Lx.blank (ih a (by omega) ha ho))
    | quant op s tk ak a h hs ha ho =>
      rw [FT.nodes, ttsNodes, ftsNodes, ftsNodes] at hn
      have i := ih a (by omega) ha ho
      rcases h with rfl | rfl
      · obtain ⟨e1, e2, _⟩ := fx_ex s tk ak a
        rw [e1, e2]
        exact Lx.sep sep32 (K := [kS fEx]) (Lx.lit (by kernel_rfl) (by kernel_rfl)) (Lx.blank ((Lx.name hs).sep sep46 (Lx.dot (Lx.blank i))))
      · obtain ⟨e1, e2, _⟩ := fx_all s tk ak a
        rw [e1, e2]
        exact Lx.sep sep32 (K := [kS fAll]) (Lx.lit (by kernel_rfl) (by kernel_rfl)) (Lx.blank ((Lx.name hs).sep sep46 (Lx.dot (Lx.blank i))))
    | two op tk ak a b h ha hb hoa hob =>
      rw [FT.nodes, ttsNodes, ftsNodes, ftsNodes, ftsNodes] at hn
      obtain ⟨e1, e2, _⟩ := fx_two tk ak a b h
      rw [e1, e2]
      exact Lx.open ((mid_lx (ih a (by omega) ha hoa) (lit_sgn (by omega)) (ih b (by omega) hb hob)).sep sep41 (Lx.close Lx.nil))
    | rel op tk ak x y h hx hy hox hoy =>
      obtain ⟨e1, e2, _⟩ := fx_rel tk ak x y h
      rw [e1, e2]
      exact mid_lx (tt_back hx hox).1 (lit_sgn (by omega)) (tt_back hy hoy).1
    | cong m tk ak x y h0 hm hx hy hox hoy =>
      obtain ⟨e1, e2, _⟩ := fx_cong m tk ak x y
      rw [e1, e2]
      exact mid_lx (mid_lx (tt_back hx hox).1 (Lx.lit (by kernel_rfl) (by kernel_rfl)) (tt_back hy hoy).1) (Lx.lit (by kernel_rfl) (by kernel_rfl)) (Lx.num hm)
theorem ft_ok : ∀ (n : Nat) (f : FT), f.nodes ≤ n → f.right → f.ok → ∀ M, sgK M ≠ tMul → sgK M ≠ tAdd → sgK M ≠ tSub → OkU (f.ks ++ M) f.nk M := by
  intro n
  induction n with
  | zero => intro t h; have := fnodes_pos t; omega
  | succ n ih =>
    intro f hn hr hok M h1 h2 h3
    cases FT.kind hr hok with
    | leaf op tk ak h =>
      rcases h with rfl | rfl
      · obtain ⟨_, e2, e3⟩ := fx_leaf0 tk ak
        rw [e2, e3]
        exact u_true
      · obtain ⟨_, e2, e3⟩ := fx_leaf1 tk ak
        rw [e2, e3]
        exact u_false
    | not tk ak a ha ho =>
      rw [FT.nodes, ttsNodes, ftsNodes, ftsNodes] at hn
      obtain ⟨_, e2, e3⟩ := fx_not tk ak a
      rw [e2, e3]
      exact u_not (ih a (by omega) ha ho M h1 h2 h3)
    | quant op s tk ak a h hs ha ho =>
      rw [FT.nodes, ttsNodes, ftsNodes, ftsNodes] at hn
      have i := ih a (by omega) ha ho M h1 h2 h3
      rcases h with rfl | rfl
      · obtain ⟨_, e2, e3⟩ := fx_ex s tk ak a
        rw [e2, e3]
        exact u_ex (q_last i)
      · obtain ⟨_, e2, e3⟩ := fx_all s tk ak a
        rw [e2, e3]
        exact u_all (q_last i)
    | two op tk ak a b h ha hb hoa hob =>
      rw [FT.nodes, ttsNodes, ftsNodes, ftsNodes, ftsNodes] at hn
      obtain ⟨_, e2, e3⟩ := fx_two tk ak a b h
      rw [e2, e3]
      have hb2 : OkU (b.ks ++ kS fClose :: M) b.nk (kS fClose :: M) := ih b (by omega) hb hob _ (by show fClose ≠ tMul; decide) (by show fClose ≠ tAdd; decide) (by show fClose ≠ tSub; decide)
      have hz : (kS fOpen :: ((a.ks ++ ([kS (sgnF op)] ++ b.ks)) ++ [kS fClose])) ++ M = kS fOpen :: (a.ks ++ kS (sgnF op) :: (b.ks ++ kS fClose :: M)) := by simp
      rw [hz]
      have ha2 : OkU (a.ks ++ kS (sgnF op) :: (b.ks ++ kS fClose :: M)) a.nk (kS (sgnF op) :: (b.ks ++ kS fClose :: M)) := by
        refine ih a (by omega) ha hoa _ ?_ ?_ ?_
        · show sgnF op ≠ tMul
          rcases h with rfl | rfl | rfl | rfl <;> decide
        · show sgnF op ≠ tAdd
          rcases h with rfl | rfl | rfl | rfl <;> decide
        · show sgnF op ≠ tSub
          rcases h with rfl | rfl | rfl | rfl <;> decide
      refine u_open ?_
      rcases h with rfl | rfl | rfl | rfl
      · exact up_F (up_I (up_O (a_intro ha2 (al_step hb2 (al_stop (by show fClose ≠ fAnd; decide)))) (by show fClose ≠ fOr; decide)) (by show fClose ≠ fImp; decide)) (by show fClose ≠ fIff; decide)
      · exact up_F (up_I (o_intro (up_A ha2 (by show fOr ≠ fAnd; decide)) (ol_step (up_A hb2 (by show fClose ≠ fAnd; decide)) (ol_stop (by show fClose ≠ fOr; decide)))) (by show fClose ≠ fImp; decide)) (by show fClose ≠ fIff; decide)
      · exact up_F (i_two (up_O (up_A ha2 (by show fImp ≠ fAnd; decide)) (by show fImp ≠ fOr; decide)) (up_I (up_O (up_A hb2 (by show fClose ≠ fAnd; decide)) (by show fClose ≠ fOr; decide)) (by show fClose ≠ fImp; decide))) (by show fClose ≠ fIff; decide)
      · exact f_intro (up_I (up_O (up_A ha2 (by show fIff ≠ fAnd; decide)) (by show fIff ≠ fOr; decide)) (by show fIff ≠ fImp; decide)) (fl_step (up_I (up_O (up_A hb2 (by show fClose ≠ fAnd; decide)) (by show fClose ≠ fOr; decide)) (by show fClose ≠ fImp; decide)) (fl_stop (by show fClose ≠ fIff; decide)))
    | rel op tk ak x y h hx hy hox hoy =>
      obtain ⟨_, e2, e3⟩ := fx_rel tk ak x y h
      rw [e2, e3]
      have hz : (x.ks ++ ([kS (sgnF op)] ++ y.ks)) ++ M = x.ks ++ kS (sgnF op) :: (y.ks ++ M) := by simp
      rw [hz]
      have hx2 : OkT (x.ks ++ kS (sgnF op) :: (y.ks ++ M)) x.nk (kS (sgnF op) :: (y.ks ++ M)) := by
        refine (tt_back hx hox).2 _ ?_ ?_ ?_
        · show sgnF op ≠ tMul
          rcases h with rfl | rfl | rfl | rfl | rfl | rfl <;> decide
        · show sgnF op ≠ tAdd
          rcases h with rfl | rfl | rfl | rfl | rfl | rfl <;> decide
        · show sgnF op ≠ tSub
          rcases h with rfl | rfl | rfl | rfl | rfl | rfl <;> decide
      have hy2 := (tt_back hy hoy).2 M h1 h2 h3
      have hu := ((tt_head _ x (Nat.le_refl _) hx hox).app (kS (sgnF op) :: (y.ks ++ M))).un
      have hro : relO (sgnF op) = op := by rcases h with rfl | rfl | rfl | rfl | rfl | rfl <;> decide
      have := at_rel (s := sgnF op) (by rcases h with rfl | rfl | rfl | rfl | rfl | rfl <;> decide) (by rw [hro]; omega) hx2 hy2
      rw [hro] at this
      exact u_atom hu this
    | cong m tk ak x y h0 hm hx hy hox hoy =>
      obtain ⟨_, e2, e3⟩ := fx_cong m tk ak x y
      rw [e2, e3]
      have hz : ((x.ks ++ ([kS [126]] ++ y.ks)) ++ ([kS fMod] ++ [(1, [], m)])) ++ M = x.ks ++ kS [126] :: (y.ks ++ kS fMod :: (1, [], m) :: M) := by simp
      rw [hz]
      have hx2 := (tt_back hx hox).2 (kS [126] :: (y.ks ++ kS fMod :: (1, [], m) :: M)) (by show [126] ≠ tMul; decide) (by show [126] ≠ tAdd; decide) (by show [126] ≠ tSub; decide)
      have hy2 := (tt_back hy hoy).2 (kS fMod :: (1, [], m) :: M) (by show fMod ≠ tMul; decide) (by show fMod ≠ tAdd; decide) (by show fMod ≠ tSub; decide)
      have hu := ((tt_head _ x (Nat.le_refl _) hx hox).app (kS [126] :: (y.ks ++ kS fMod :: (1, [], m) :: M))).un
      exact u_atom hu (at_cong h0 hx2 hy2)

theorem ttsNk_len : ∀ l : List TT, (ttsNk l).length = l.length
  | [] => by rw [ttsNk]
  | t :: l => by rw [ttsNk, List.length_cons, ttsNk_len l, List.length_cons]
theorem ftsNk_len : ∀ l : List FT, (ftsNk l).length = l.length
  | [] => by rw [ftsNk]
  | t :: l => by rw [ftsNk, List.length_cons, ftsNk_len l, List.length_cons]
mutual
theorem TT.nk_walk : ∀ (t : TT) (d : Nat) (m : Ms), t.nk.walk d m = t.walk d m
  | .mk op num name k args, d, m => by
    have hg : goodT (.mk op num name (if args = [] then .nil else .any) (ttsNk args)) = goodT (.mk op num name k args) := by
      simp only [goodT, TT.op, TT.num, TT.name, TT.args, ttsNk_len]
      rfl
    rw [TT.nk, TT.walk, TT.walk, hg, ttsNk_walk args]
theorem ttsNk_walk : ∀ (l : List TT) (d : Nat) (m : Ms), ttsWalk (ttsNk l) d m = ttsWalk l d m
  | [], d, m => by rw [ttsNk]
  | t :: l, d, m => by rw [ttsNk, ttsWalk, ttsWalk, TT.nk_walk t, ttsNk_walk l]
end
mutual
theorem FT.nk_walk : ∀ (t : FT) (d : Nat) (m : Ms), t.nk.walk d m = t.walk d m
  | .mk op name md tk terms ak args, d, m => by
    have hg : goodF (.mk op name md (if terms = [] then .nil else .any) (ttsNk terms) (if args = [] then .nil else .any) (ftsNk args)) = goodF (.mk op name md tk terms ak args) := by
      simp only [goodF, FT.op, FT.name, FT.md, FT.terms, FT.args, ttsNk_len, ftsNk_len]
      rfl
    rw [FT.nk, FT.walk, FT.walk, hg, ttsNk_walk terms, ftsNk_walk args]
theorem ftsNk_walk : ∀ (l : List FT) (d : Nat) (m : Ms), ftsWalk (ftsNk l) d m = ftsWalk l d m
  | [], d, m => by rw [ftsNk]
  | t :: l, d, m => by rw [ftsNk, ftsWalk, ftsWalk, FT.nk_walk t, ftsNk_walk l]
end
theorem chkF_nk (f : FT) : chkF f.nk = chkF f := by unfold chkF; rw [FT.nk_walk]
theorem show_back {f : FT} (hc : chkF f = 0) (ho : f.ok) (hl : f.tx.length ≤ 4096) : parF f.tx = (f.nk, flt0) := by
  have hr := (chkF_right hc).1
  have h1 := ft_lx _ f (Nat.le_refl _) hr ho
  have h2 := ft_ok _ f (Nat.le_refl _) hr ho [] (by decide) (by decide) (by decide)
  rw [List.append_nil] at h2
  have := parF_of hl h1 (fin_U h2)
  rw [chkF_nk, hc, if_neg (by simp)] at this
  exact this
end Tab

/- The document's comparison of trees that are the same but for what is known of slices. -/
namespace Tab
open Go Go.Proofs
set_option maxRecDepth 10000
set_option linter.unusedVariables false
set_option linter.unusedSimpArgs false
set_option linter.unusedSectionVars false
set_option maxHeartbeats 1000000

theorem ttsNk_at : ∀ {l l' : List TT}, ttsNk l = ttsNk l' → ∀ {i : Nat} (h : i < l.length) (h' : i < l'.length), (l[i]'h).nk = (l'[i]'h').nk
  | [], _, _, i, h, _ => by simp at h
  | _ :: _, [], _, i, _, h' => by simp at h'
  | t :: l, t' :: l', e, 0, _, _ => by rw [ttsNk, ttsNk] at e; exact (List.cons.inj e).1
  | t :: l, t' :: l', e, i + 1, h, h' => by rw [ttsNk, ttsNk] at e; exact ttsNk_at (List.cons.inj e).2 _ _
theorem ftsNk_at : ∀ {l l' : List FT}, ftsNk l = ftsNk l' → ∀ {i : Nat} (h : i < l.length) (h' : i < l'.length), (l[i]'h).nk = (l'[i]'h').nk
  | [], _, _, i, h, _ => by simp at h
  | _ :: _, [], _, i, _, h' => by simp at h'
  | t :: l, t' :: l', e, 0, _, _ => by rw [ftsNk, ftsNk] at e; exact (List.cons.inj e).1
  | t :: l, t' :: l', e, i + 1, h, h' => by rw [ftsNk, ftsNk] at e; exact ftsNk_at (List.cons.inj e).2 _ _
mutual
theorem TT.nk_nk : ∀ t : TT, t.nk.nk = t.nk
  | .mk op num name k args => by
    have : (ttsNk args = []) = (args = []) := by cases args <;> simp [ttsNk]
    rw [TT.nk, TT.nk, ttsNk_nk args]
    simp only [this]
theorem ttsNk_nk : ∀ l : List TT, ttsNk (ttsNk l) = ttsNk l
  | [] => by rw [ttsNk]; rfl
  | t :: l => by rw [ttsNk, ttsNk, TT.nk_nk t, ttsNk_nk l]
end
mutual
theorem FT.nk_nk : ∀ t : FT, t.nk.nk = t.nk
  | .mk op name md tk terms ak args => by
    have h1 : (ttsNk terms = []) = (terms = []) := by cases terms <;> simp [ttsNk]
    have h2 : (ftsNk args = []) = (args = []) := by cases args <;> simp [ftsNk]
    rw [FT.nk, FT.nk, ttsNk_nk terms, ftsNk_nk args]
    simp only [h1, h2]
theorem ftsNk_nk : ∀ l : List FT, ftsNk (ftsNk l) = ftsNk l
  | [] => by rw [ftsNk]; rfl
  | t :: l => by rw [ftsNk, ftsNk, FT.nk_nk t, ftsNk_nk l]
end
mutual
theorem TT.nk_ok : ∀ t : TT, t.ok → t.nk.ok
  | .mk op num name k args, h => by
    rw [TT.ok] at h
    rw [TT.nk, TT.ok, ttsNk_len]
    exact ⟨h.1, h.2.1, h.2.2.1, h.2.2.2.1, ttsNk_ok args h.2.2.2.2⟩
theorem ttsNk_ok : ∀ l : List TT, ttsOk l → ttsOk (ttsNk l)
  | [], h => by rw [ttsNk]; exact h
  | t :: l, h => by rw [ttsOk] at h; rw [ttsNk, ttsOk]; exact ⟨TT.nk_ok t h.1, ttsNk_ok l h.2⟩
end
mutual
theorem FT.nk_ok : ∀ t : FT, t.ok → t.nk.ok
  | .mk op name md tk terms ak args, h => by
    rw [FT.ok] at h
    rw [FT.nk, FT.ok, ttsNk_len, ftsNk_len]
    exact ⟨h.1, h.2.1, h.2.2.1, h.2.2.2.1, ttsNk_ok _ h.2.2.2.2.1, h.2.2.2.2.2.1, ftsNk_ok args h.2.2.2.2.2.2⟩
theorem ftsNk_ok : ∀ l : List FT, ftsOk l → ftsOk (ftsNk l)
  | [], h => by rw [ftsNk]; exact h
  | t :: l, h => by rw [ftsOk] at h; rw [ftsNk, ftsOk]; exact ⟨FT.nk_ok t h.1, ftsNk_ok l h.2⟩
end

theorem r06_sameTerm : ∀ (n : Nat) (t u : TT), t.nodes ≤ n → t.nk = u.nk → t.ok → u.ok → Pure Tryd.prog 46 [.agg (tcl t), .agg (tcl u)] (.bool true) := by
  intro n
  induction n with
  | zero => intro t u h; have := nodes_pos t; omega
  | succ n ih =>
    intro t u hn he hot hou
    have hc := tcl_closed t
    have hd := tcl_closed u
    rcases t with ⟨op, num, name, k, l⟩
    rcases u with ⟨op', num', name', k', l'⟩
    rw [TT.nk, TT.nk] at he
    simp only [TT.mk.injEq] at he
    obtain ⟨rfl, rfl, rfl, _, he⟩ := he
    have hll : l.length = l'.length := by rw [← ttsNk_len l, ← ttsNk_len l', he]
    rw [TT.ok] at hot hou
    rw [TT.nodes] at hn
    have hl47 := hot.2.2.2.1
    refine Pure.of_sw 53 Tryd.func46 rfl Tryd.ntmps46 (by kernel_rfl) (Nat.le_of_ble_eq_true (by kernel_rfl)) (by simp only [closeds, AV.closed]; exact ⟨hc, hd, trivial⟩) (by simp only [AV.closed]) ?_
    refine SW.of_vc ?_
    repeat first | refine opsStep ?_ | refine codeStep ?_ | refine drawStep ?_
    refine decB_false (b := decide (op ≠ op)) (by simp) ?_
    repeat first | refine opsStep ?_ | refine codeStep ?_ | refine drawStep ?_
    refine decB_false (b := decide (num ≠ num)) (by simp) ?_
    repeat first | refine opsStep ?_ | refine codeStep ?_ | refine drawStep ?_
    refine decB_false (b := decide (name ≠ name)) (by simp) ?_
    repeat first | refine opsStep ?_ | refine codeStep ?_ | refine drawStep ?_
    refine decB_false (b := decide ((l.length : Int) ≠ (l'.length : Int))) (by rw [hll]; simp) ?_
    repeat first | refine opsStep ?_ | refine codeStep ?_ | refine drawStep ?_
    refine loopE_of (ι := {i : Nat // i ≤ l.length}) (fun i => (fr [(2, .ref 0 0 0), (3, .ref 1 0 0), (5, .int .i64 i.1)], [.cells 0 (tcl ⟨op, num, name, k, l⟩), .cells 0 (tcl ⟨op, num, name, k', l'⟩)])) (fun i => l.length - i.1)
      ⟨0, Nat.zero_le _⟩ (Ent.fr' ⟨(by kernel_rfl), (by kernel_rfl), (by kernel_rfl), trivial⟩ (by kernel_rfl)) ?_
    rintro ⟨i, hi⟩
    repeat first | refine opsStep ?_ | refine codeStep ?_ | refine drawStep ?_
    refine decB_dec (fun hlt => ?_) (fun hlt => ?_)
    · have hi' : i < l.length := by have : (i : Int) < l.length := hlt; omega
      clear hlt
      have hi2 : i < l'.length := by omega
      have hld := tts_ld hi'
      have hld2 := tts_ld hi2
      have hfit : 4 ≤ ((ttsC l).drop ((i : Int).toNat * 4)).length := by rw [List.length_drop, ttsC_len, Int.toNat_natCast]; omega
      have hfit2 : 4 ≤ ((ttsC l').drop ((i : Int).toNat * 4)).length := by rw [List.length_drop, ttsC_len, Int.toNat_natCast]; omega
      have hone := ih (l[i]'hi') (l'[i]'hi2) (by have := tts_nodes hi'; omega) (ttsNk_at he hi' hi2) (ttsOk_iff.1 hot.2.2.2.2 _ (List.getElem_mem hi')) (ttsOk_iff.1 hou.2.2.2.2 _ (List.getElem_mem hi2))
      rw [← hld, ← hld2] at hone
      repeat refine codeStep ?_
      refine SW.drawn rfl (by kernel_rfl) ?_
      repeat first | refine opsStep ?_ | refine codeStep ?_ | refine drawStep ?_
      refine guardE_of ⟨by omega, by show (i : Int) < l.length; omega⟩ ?_
      repeat first | refine opsStep ?_ | refine codeStep ?_ | refine drawStep ?_
      refine guardE_of hfit ?_
      repeat first | refine opsStep ?_ | refine codeStep ?_ | refine drawStep ?_
      refine guardE_of ⟨by omega, by show (i : Int) < l'.length; omega⟩ ?_
      repeat first | refine opsStep ?_ | refine codeStep ?_ | refine drawStep ?_
      refine guardE_of hfit2 ?_
      iterate 1 refine drawStep ?_
      refine .inl ⟨_, _, [], hone, RdsN_refl _, .inr rfl, none_need, ?_⟩
      repeat first | refine opsStep ?_ | refine codeStep ?_ | refine drawStep ?_
      refine ⟨by kernel_rfl, ?_⟩
      repeat first | refine opsStep ?_ | refine codeStep ?_ | refine drawStep ?_
      exact ⟨⟨i + 1, hi'⟩, (by show l.length - (i + 1) < l.length - i; omega), Ent.fr' ⟨(by kernel_rfl), (by kernel_rfl), inc_slot (i := i) (by omega), trivial⟩ (by kernel_rfl)⟩
    · clear hlt
      repeat first | refine opsStep ?_ | refine codeStep ?_ | refine drawStep ?_
      exact finB (b' := true) (by kernel_rfl) rfl


theorem r06_Same : ∀ (n : Nat) (f g : FT), f.nodes ≤ n → f.nk = g.nk → f.ok → g.ok → Pure Tryd.prog 24 [.agg (fcl f), .agg (fcl g)] (.bool true) := by
  intro n
  induction n with
  | zero => intro t u h; have := fnodes_pos t; omega
  | succ n ih =>
    intro f g hn he hot hou
    have hc := fcl_closed f
    have hd := fcl_closed g
    rcases f with ⟨op, name, md, tk, ts, ak, l⟩
    rcases g with ⟨op', name', md', tk', ts', ak', l'⟩
    rw [FT.nk, FT.nk] at he
    simp only [FT.mk.injEq] at he
    obtain ⟨rfl, rfl, rfl, _, hes, _, he⟩ := he
    have hlt' : ts.length = ts'.length := by rw [← ttsNk_len ts, ← ttsNk_len ts', hes]
    have hll : l.length = l'.length := by rw [← ftsNk_len l, ← ftsNk_len l', he]
    rw [FT.ok] at hot hou
    rw [FT.nodes] at hn
    have hl47 := hot.2.2.2.1
    have hl48 := hot.2.2.2.2.2.1
    refine Pure.of_sw 82 Tryd.func24 rfl Tryd.ntmps24 (by kernel_rfl) (Nat.le_of_ble_eq_true (by kernel_rfl)) (by simp only [closeds, AV.closed]; exact ⟨hc, hd, trivial⟩) (by simp only [AV.closed]) ?_
    refine SW.of_vc ?_
    repeat first | refine opsStep ?_ | refine codeStep ?_ | refine drawStep ?_
    refine decB_false (b := decide (op ≠ op)) (by simp) ?_
    repeat first | refine opsStep ?_ | refine codeStep ?_ | refine drawStep ?_
    refine decB_false (b := decide (name ≠ name)) (by simp) ?_
    repeat first | refine opsStep ?_ | refine codeStep ?_ | refine drawStep ?_
    refine decB_false (b := decide (md ≠ md)) (by simp) ?_
    repeat first | refine opsStep ?_ | refine codeStep ?_ | refine drawStep ?_
    refine decB_false (b := decide ((ts.length : Int) ≠ (ts'.length : Int))) (by rw [hlt']; simp) ?_
    repeat first | refine opsStep ?_ | refine codeStep ?_ | refine drawStep ?_
    refine decB_false (b := decide ((l.length : Int) ≠ (l'.length : Int))) (by rw [hll]; simp) ?_
    repeat first | refine opsStep ?_ | refine codeStep ?_ | refine drawStep ?_
    refine loopE_of (ι := {i : Nat // i ≤ ts.length}) (fun i => (fr [(2, .ref 0 0 0), (3, .ref 1 0 0), (5, .int .i64 i.1)], [.cells 0 (fcl ⟨op, name, md, tk, ts, ak, l⟩), .cells 0 (fcl ⟨op, name, md, tk', ts', ak', l'⟩)])) (fun i => ts.length - i.1)
      ⟨0, Nat.zero_le _⟩ (Ent.fr' ⟨(by kernel_rfl), (by kernel_rfl), (by kernel_rfl), trivial⟩ (by kernel_rfl)) ?_
    rintro ⟨i, hi⟩
    repeat first | refine opsStep ?_ | refine codeStep ?_ | refine drawStep ?_
    refine decB_dec (fun hlt => ?_) (fun hlt => ?_)
    · skip
      have hi' : i < ts.length := by have : (i : Int) < ts.length := hlt; omega
      clear hlt
      have hi2 : i < ts'.length := by omega
      have hld := tts_ld hi'
      have hld2 := tts_ld hi2
      have hfit : 4 ≤ ((ttsC ts).drop ((i : Int).toNat * 4)).length := by rw [List.length_drop, ttsC_len, Int.toNat_natCast]; omega
      have hfit2 : 4 ≤ ((ttsC ts').drop ((i : Int).toNat * 4)).length := by rw [List.length_drop, ttsC_len, Int.toNat_natCast]; omega
      have hone := r06_sameTerm _ (ts[i]'hi') (ts'[i]'hi2) (Nat.le_refl _) (ttsNk_at hes hi' hi2) (ttsOk_iff.1 hot.2.2.2.2.1 _ (List.getElem_mem hi')) (ttsOk_iff.1 hou.2.2.2.2.1 _ (List.getElem_mem hi2))
      rw [← hld, ← hld2] at hone
      repeat refine codeStep ?_
      refine SW.drawn rfl (by kernel_rfl) ?_
      repeat first | refine opsStep ?_ | refine codeStep ?_ | refine drawStep ?_
      refine guardE_of ⟨by omega, by show (i : Int) < ts.length; omega⟩ ?_
      repeat first | refine opsStep ?_ | refine codeStep ?_ | refine drawStep ?_
      refine guardE_of hfit ?_
      repeat first | refine opsStep ?_ | refine codeStep ?_ | refine drawStep ?_
      refine guardE_of ⟨by omega, by show (i : Int) < ts'.length; omega⟩ ?_
      repeat first | refine opsStep ?_ | refine codeStep ?_ | refine drawStep ?_
      refine guardE_of hfit2 ?_
      iterate 1 refine drawStep ?_
      refine .inl ⟨_, _, [], hone, RdsN_refl _, .inr rfl, none_need, ?_⟩
      repeat first | refine opsStep ?_ | refine codeStep ?_ | refine drawStep ?_
      refine ⟨by kernel_rfl, ?_⟩
      repeat first | refine opsStep ?_ | refine codeStep ?_ | refine drawStep ?_
      exact ⟨⟨i + 1, hi'⟩, (by show ts.length - (i + 1) < ts.length - i; omega), Ent.fr' ⟨(by kernel_rfl), (by kernel_rfl), inc_slot (i := i) (by omega), trivial⟩ (by kernel_rfl)⟩
    · clear hlt
      repeat first | refine opsStep ?_ | refine codeStep ?_ | refine drawStep ?_
      refine loopE_of (ι := {i : Nat // i ≤ l.length}) (fun i => (fr [(2, .ref 0 0 0), (3, .ref 1 0 0), (6, .int .i64 i.1)], [.cells 0 (fcl ⟨op, name, md, tk, ts, ak, l⟩), .cells 0 (fcl ⟨op, name, md, tk', ts', ak', l'⟩)])) (fun i => l.length - i.1)
        ⟨0, Nat.zero_le _⟩ (Ent.fr' ⟨(by kernel_rfl), (by kernel_rfl), (by kernel_rfl), trivial⟩ (by kernel_rfl)) ?_
      rintro ⟨i, hi⟩
      repeat first | refine opsStep ?_ | refine codeStep ?_ | refine drawStep ?_
      refine decB_dec (fun hlt => ?_) (fun hlt => ?_)
      · skip
        have hi' : i < l.length := by have : (i : Int) < l.length := hlt; omega
        clear hlt
        have hi2 : i < l'.length := by omega
        have hld := fts_ld hi'
        have hld2 := fts_ld hi2
        have hfit : 5 ≤ ((ftsC l).drop ((i : Int).toNat * 5)).length := by rw [List.length_drop, ftsC_len, Int.toNat_natCast]; omega
        have hfit2 : 5 ≤ ((ftsC l').drop ((i : Int).toNat * 5)).length := by rw [List.length_drop, ftsC_len, Int.toNat_natCast]; omega
        have hone := ih (l[i]'hi') (l'[i]'hi2) (by have := fts_nodes hi'; omega) (ftsNk_at he hi' hi2) (ftsOk_iff.1 hot.2.2.2.2.2.2 _ (List.getElem_mem hi')) (ftsOk_iff.1 hou.2.2.2.2.2.2 _ (List.getElem_mem hi2))
        rw [← hld, ← hld2] at hone
        repeat refine codeStep ?_
        refine SW.drawn rfl (by kernel_rfl) ?_
        repeat first | refine opsStep ?_ | refine codeStep ?_ | refine drawStep ?_
        refine guardE_of ⟨by omega, by show (i : Int) < l.length; omega⟩ ?_
        repeat first | refine opsStep ?_ | refine codeStep ?_ | refine drawStep ?_
        refine guardE_of hfit ?_
        repeat first | refine opsStep ?_ | refine codeStep ?_ | refine drawStep ?_
        refine guardE_of ⟨by omega, by show (i : Int) < l'.length; omega⟩ ?_
        repeat first | refine opsStep ?_ | refine codeStep ?_ | refine drawStep ?_
        refine guardE_of hfit2 ?_
        iterate 1 refine drawStep ?_
        refine .inl ⟨_, _, [], hone, RdsN_refl _, .inr rfl, none_need, ?_⟩
        repeat first | refine opsStep ?_ | refine codeStep ?_ | refine drawStep ?_
        refine ⟨by kernel_rfl, ?_⟩
        repeat first | refine opsStep ?_ | refine codeStep ?_ | refine drawStep ?_
        exact ⟨⟨i + 1, hi'⟩, (by show l.length - (i + 1) < l.length - i; omega), Ent.fr' ⟨(by kernel_rfl), (by kernel_rfl), inc_slot (i := i) (by omega), trivial⟩ (by kernel_rfl)⟩
      · clear hlt
        repeat first | refine opsStep ?_ | refine codeStep ?_ | refine drawStep ?_
        exact finB (b' := true) (by kernel_rfl) rfl

end Tab

/- The law ParseStops. -/
namespace Tab
open Go Go.Proofs
set_option maxRecDepth 10000
set_option linter.unusedVariables false
set_option linter.unusedSimpArgs false
set_option linter.unusedSectionVars false
set_option maxHeartbeats 1000000

theorem lexS_okw (s : Str) : ∀ w ∈ (lexS s).1, okW w := fun w hw => ((lexS_ok s).wd w hw).1
theorem readF_fl (s : Str) : okJ (readF s).2.fl.why ∧ okJ (readF s).2.fl.at' ∧ okJ (readF s).2.fl.ch := by
  have hl := lexS_ok s
  by_cases hz : (lexS s).2.why = 0
  · have hp := readF_plc hz
    obtain ⟨c, hc⟩ := readF_suf s
    obtain ⟨hs, _, _⟩ := lexS_zero hz
    rcases hp with hp | ⟨h1, h2⟩
    · rw [hp]; exact ⟨by decide, by decide, by decide⟩
    · refine ⟨by rcases h1 with h | h <;> rw [h] <;> decide, ?_⟩
      cases hw : (readF s).2.ws with
      | nil =>
        rw [hw] at h2
        have e1 : (readF s).2.fl.at' = s.length := congrArg Prod.fst h2
        have e2 : (readF s).2.fl.ch = chS s := congrArg Prod.snd h2
        have := chS_le _ s rfl
        rw [e1, e2]
        exact ⟨⟨by omega, by omega⟩, ⟨by omega, by omega⟩⟩
      | cons w t =>
        rw [hw] at h2
        have e1 : (readF s).2.fl.at' = w.at' := congrArg Prod.fst h2
        have e2 : (readF s).2.fl.ch = w.ch := congrArg Prod.snd h2
        have := lexS_okw s w (by rw [hc, hw]; simp)
        rw [e1, e2]
        exact ⟨this.at', this.ch⟩
  · rw [readF_lex hz]
    have h1 := hl.at'
    have h2 := hl.ch
    exact ⟨hl.why, ⟨by omega, by omega⟩, ⟨by omega, by omega⟩⟩
theorem done_fl (s : Str) : okJ ((readF s).2.done (endS s)).fl.why ∧ okJ ((readF s).2.done (endS s)).fl.at' ∧ okJ ((readF s).2.done (endS s)).fl.ch := by
  have h := readF_fl s
  unfold Rs.done
  split
  · by_cases h0 : (readF s).2.fl.why = 0
    · rw [wrong_new h0]
      refine ⟨by show okJ 71; decide, ?_⟩
      obtain ⟨c, hc⟩ := readF_suf s
      cases hw : (readF s).2.ws with
      | nil => rename_i hne; exact absurd hw hne
      | cons w t =>
        have := lexS_okw s w (by rw [hc, hw]; simp)
        exact ⟨this.at', this.ch⟩
    · rw [wrong_bad h0]; exact h
  · exact h
theorem chk_j {e : Int} (h : okSize e) : okJ e := by rcases h with h | h | h <;> rw [h] <;> decide
theorem parF_fl (s : Str) : okJ (parF s).2.why ∧ okJ (parF s).2.at' ∧ okJ (parF s).2.ch := by
  by_cases h : ((readF s).2.done (endS s)).fl.why = 0
  · obtain ⟨h1, h2, h3, h4, h5, h6, h7⟩ := parF_size h
    have := readF_fl s
    rw [h3, h6, h7]
    exact ⟨chk_j h4, this.2.1, this.2.2⟩
  · rw [parF_bad h]; exact done_fl s
theorem parF_ok (s : Str) : (parF s).1.ok := by
  by_cases h : ((readF s).2.done (endS s)).fl.why = 0
  · obtain ⟨h1, h2, h3, h4, h5, h6, h7⟩ := parF_size h
    rw [h5]
    split
    · exact readF_ok s
    · exact (made_ok (0, 0)).nil 0 (by decide) (by decide)
  · rw [parF_bad h]; exact (made_ok (0, 0)).nil 0 (by decide) (by decide)
end Tab

/- The laws ShowBack, ShowReads, ShowTermsBack. -/
namespace Tab
open Go Go.Proofs
set_option maxRecDepth 10000
set_option linter.unusedVariables false
set_option linter.unusedSimpArgs false
set_option linter.unusedSectionVars false
set_option maxHeartbeats 1000000

theorem nk_open (f : FT) : f.nk = f.nk.nk := (FT.nk_nk f).symm

theorem parF_none {s : Str} (h : (parF s).2.why ≠ 0) : (parF s).1 = nilF 0 := by
  by_cases hb : ((readF s).2.done (endS s)).fl.why = 0
  · obtain ⟨_, _, k1, _, k2, _⟩ := parF_size hb
    rw [k1] at h
    rw [k2, if_neg h]
  · rw [parF_bad hb]
theorem parF_flt0 {s : Str} (h : (parF s).2.why = 0) : (parF s).2 = flt0 := by
  by_cases hb : ((readF s).2.done (endS s)).fl.why = 0
  · obtain ⟨h1, h2, k1, _, _, k2, k3⟩ := parF_size hb
    have hz : (lexS s).2.why = 0 := by
      apply Decidable.of_not_not
      intro hn
      have := parF_lex hn
      rw [this] at h
      exact hn h
    have hf := plc_zero (readF_plc hz) h1
    rw [hf] at k2 k3
    generalize (parF s).2 = F at *
    rcases F with ⟨y, p, q⟩
    simp only at h k2 k3
    rw [h, k2, k3]
    rfl
  · rw [parF_bad hb] at h; exact absurd h hb
theorem showReads (s : Str) (hs : s.length < 2 ^ 62) : Pure Tryd.prog 12 [.str s] (.bool true) := by
  have h1 := parse_Formula s hs
  have hj := parF_fl s
  have hok := parF_ok s
  have hf := law_fixed
  by_cases hw : (parF s).2.why = 0
  · have hg := parF_good hw
    have hw0 := parF_flt0 hw
    have hc := hg.1
    rw [hw0] at h1
    generalize (parF s).1 = f at *
    clear hj hg hw hw0
    have h2 := show_Formula f hok
    rw [FT.cells_eq, if_pos hc, hc] at h2
    change Pure Tryd.prog 13 [.agg (fcl f)] _ at h2
    have hck := r06_Check f hok
    rw [FT.cells_eq, hc] at hck
    change Pure Tryd.prog 14 [.agg (fcl f)] _ at hck
    have hsm := FT.tx_small hok (chkF_right hc).2
    have h3 := parse_Formula f.tx (by omega)
    by_cases hl : 4096 < f.tx.length
    · generalize parF f.tx = pp at *
      generalize f.tx = x at *
      refine Pure.of_sw 59 Tryd.func12 rfl Tryd.ntmps12 (by kernel_rfl) (Nat.le_of_ble_eq_true (by kernel_rfl)) (by simp [closeds, AV.closed, aSs_closed, aIs_closed, aBs_closed, aRs_closed, aDen_closed]) (by simp [AV.closed, closeds, aSs_closed, aIs_closed, aBs_closed, aRs_closed, aDen_closed]) ?_; refine SW.of_vc ?_
      repeat first | refine opsStep ?_ | refine codeStep ?_ | refine drawStep ?_
      refine callP h1 ?_
      repeat first | refine opsStep ?_ | refine codeStep ?_ | refine drawStep ?_
      refine callP hf ?_
      repeat first | refine opsStep ?_ | refine codeStep ?_ | refine drawStep ?_
      refine callP h2 ?_
      repeat first | refine opsStep ?_ | refine codeStep ?_ | refine drawStep ?_
      refine ⟨true, eqlF (w := 0) (a := 0) (b := 0) (w' := 0) (c := 0) (d := 0) (by decide) (by decide) (by decide) (by decide) (by decide) (by decide), ?_⟩
      repeat first | refine opsStep ?_ | refine codeStep ?_ | refine drawStep ?_
      refine callP hck ?_
      repeat first | refine opsStep ?_ | refine codeStep ?_ | refine drawStep ?_
      refine callP h3 ?_
      repeat first | refine opsStep ?_ | refine codeStep ?_ | refine drawStep ?_
      refine decB_true (b := decide ((x.length : Int) > 4096)) (by simp; omega) ?_
      repeat first | refine opsStep ?_ | refine codeStep ?_ | refine drawStep ?_
      exact finB (b' := true) (by kernel_rfl) rfl
    · have hw := show_back hc hok (by omega)
      rw [hw] at h3
      have hck2 := r06_Check f.nk (FT.nk_ok f hok)
      rw [FT.cells_eq, chkF_nk, hc] at hck2
      change Pure Tryd.prog 14 [.agg (fcl f.nk)] _ at hck2
      have hsa := r06_Same _ f f.nk (Nat.le_refl _) (nk_open f) hok (FT.nk_ok f hok)
      generalize f.nk = g at *
      generalize f.tx = x at *
      refine Pure.of_sw 59 Tryd.func12 rfl Tryd.ntmps12 (by kernel_rfl) (Nat.le_of_ble_eq_true (by kernel_rfl)) (by simp [closeds, AV.closed, aSs_closed, aIs_closed, aBs_closed, aRs_closed, aDen_closed]) (by simp [AV.closed, closeds, aSs_closed, aIs_closed, aBs_closed, aRs_closed, aDen_closed]) ?_; refine SW.of_vc ?_
      repeat first | refine opsStep ?_ | refine codeStep ?_ | refine drawStep ?_
      refine callP h1 ?_
      repeat first | refine opsStep ?_ | refine codeStep ?_ | refine drawStep ?_
      refine callP hf ?_
      repeat first | refine opsStep ?_ | refine codeStep ?_ | refine drawStep ?_
      refine callP h2 ?_
      repeat first | refine opsStep ?_ | refine codeStep ?_ | refine drawStep ?_
      refine ⟨true, eqlF (w := 0) (a := 0) (b := 0) (w' := 0) (c := 0) (d := 0) (by decide) (by decide) (by decide) (by decide) (by decide) (by decide), ?_⟩
      repeat first | refine opsStep ?_ | refine codeStep ?_ | refine drawStep ?_
      refine callP hck ?_
      repeat first | refine opsStep ?_ | refine codeStep ?_ | refine drawStep ?_
      refine callP h3 ?_
      repeat first | refine opsStep ?_ | refine codeStep ?_ | refine drawStep ?_
      refine decB_false (b := decide ((x.length : Int) > 4096)) (by simp; omega) ?_
      repeat first | refine opsStep ?_ | refine codeStep ?_ | refine drawStep ?_
      refine ⟨true, eqlF (w := 0) (a := 0) (b := 0) (w' := 0) (c := 0) (d := 0) (by decide) (by decide) (by decide) (by decide) (by decide) (by decide), ?_⟩
      repeat first | refine opsStep ?_ | refine codeStep ?_ | refine drawStep ?_
      refine callP hck2 ?_
      repeat first | refine opsStep ?_ | refine codeStep ?_ | refine drawStep ?_
      refine callP hsa ?_
      repeat first | refine opsStep ?_ | refine codeStep ?_ | refine drawStep ?_
      exact finB (b' := true) (by kernel_rfl) rfl
  · have hn := parF_none hw
    rw [hn] at h1
    have h2 := show_Formula (nilF 0) ((made_ok (0, 0)).nil 0 (by decide) (by decide))
    have hc0 : chkF (nilF 0) = 0 := by kernel_rfl
    have hx0 : (nilF 0).tx = [116, 114, 117, 101] := by rw [nilF, FT.tx]; rfl
    rw [FT.cells_eq, if_pos hc0, hc0, hx0] at h2
    change Pure Tryd.prog 13 [.agg (fcl (nilF 0))] _ at h2
    have he := eqlF (w := (parF s).2.why) (a := (parF s).2.at') (b := (parF s).2.ch) (w' := 0) (c := 0) (d := 0) hj.1 hj.2.1 hj.2.2 (by decide) (by decide) (by decide)
    rw [decide_eq_false (fun k => hw k.1)] at he
    generalize (parF s).2 = F at *
    refine Pure.of_sw 59 Tryd.func12 rfl Tryd.ntmps12 (by kernel_rfl) (Nat.le_of_ble_eq_true (by kernel_rfl)) (by simp [closeds, AV.closed, aSs_closed, aIs_closed, aBs_closed, aRs_closed, aDen_closed]) (by simp [AV.closed, closeds, aSs_closed, aIs_closed, aBs_closed, aRs_closed, aDen_closed]) ?_; refine SW.of_vc ?_
    repeat first | refine opsStep ?_ | refine codeStep ?_ | refine drawStep ?_
    refine callP h1 ?_
    repeat first | refine opsStep ?_ | refine codeStep ?_ | refine drawStep ?_
    refine callP hf ?_
    repeat first | refine opsStep ?_ | refine codeStep ?_ | refine drawStep ?_
    refine callP h2 ?_
    repeat first | refine opsStep ?_ | refine codeStep ?_ | refine drawStep ?_
    refine ⟨false, he, ?_⟩
    repeat first | refine opsStep ?_ | refine codeStep ?_ | refine drawStep ?_
    exact finB (b' := true) (by kernel_rfl) rfl

end Tab
