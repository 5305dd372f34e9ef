/- Lemmas for this claim: part 12. No condition. -/
import Derived.Test.YtiflemdfnjgobaaDoorZ9
import Derived.Test.YtiflemdfnjgobaaDoorZ10
import Derived.Test.YtiflemdfnjgobaaDoorZ11
/- Texts of terms and formulas are read as what they are of: plain. -/
namespace Tab
open Go
set_option maxRecDepth 10000
set_option linter.unusedVariables false
set_option linter.unusedSimpArgs false
set_option linter.unusedSectionVars false

theorem sep93 : SepC 93 := ⟨by decide, by decide, by unfold restR startR; decide, by decide⟩
theorem sep91 : SepC 91 := ⟨by decide, by decide, by unfold restR startR; decide, by decide⟩
theorem Lx.opn {y : Str} {K : List Ky} (h : Lx y K) : Lx (91 :: y) (kS tOpen :: K) := Lx.one sep91 (by decide) (by unfold startR; decide) (by decide) (fun y => by simp [signL, List.isPrefixOf]) h
theorem Lx.cls {y : Str} {K : List Ky} (h : Lx y K) : Lx (93 :: y) (kS tClose :: K) := Lx.one sep93 (by decide) (by unfold startR; decide) (by decide) (fun y => by simp [signL, List.isPrefixOf]) h
theorem Lx.blank {y : Str} {K : List Ky} (h : Lx y K) : Lx (32 :: y) K := by
  have hj := lex_join y 0 [] rfl 0 0
  obtain ⟨V, h3, h4⟩ := h.at (0 + ([] : Str).length + 1) (0 + chS [] + 1)
  obtain ⟨W, h1, h2⟩ := Lx.nil
  have : W = [] := List.map_eq_nil_iff.1 h2
  subst this
  rw [h1, if_neg (by simp [flt0]), h3] at hj
  exact ⟨V, hj, h4⟩
theorem Lx.minus {y : Str} {K : List Ky} (hy : ∀ z, y ≠ 62 :: z) (h : Lx y K) : Lx (45 :: y) (kS tSub :: K) := by
  have hd : dec (45 :: y) 0 = (45, 1) := dec_ascii (by simp [bt])
  have hr : runS blankR (45 :: y) = 0 := runS_no (by rw [hd]; decide)
  have hf : (signL.find? fun t => t.isPrefixOf (45 :: y)) = some [45] := by
    cases y with
    | nil => decide
    | cons c z =>
      have hc : c ≠ 62 := fun k => hy z (by rw [k])
      have hb : ((62 : UInt8) == c) = false := by rw [beq_eq_false_iff_ne]; exact fun k => hc k.symm
      simp [signL, List.isPrefixOf, hb]
  have ht : tokS (45 :: y) = ⟨2, [45], 0, 1, 0⟩ := by
    rw [tokS, hd, if_neg (by decide), if_neg (by unfold startR; decide), if_neg (by decide), if_neg (by decide), signT, hf]
    rfl
  have hpt : Part (45 :: y) 0 (45 :: y) ⟨2, [45], 0, 1, 0⟩ := ⟨hr, rfl, by simp, ht⟩
  obtain ⟨V, h3, h4⟩ := h.at (0 + 0 + 1) (0 + chS ((45 :: y : Str).take 0) + chS ((45 :: y : Str).take 1))
  refine ⟨⟨2, [45], 0, 0 + 0, 0 + chS ((45 :: y : Str).take 0)⟩ :: V, ?_, ?_⟩
  · rw [lexW_tok hpt rfl]
    show (_ :: (lexW y (0 + 0 + 1) (0 + chS ((45 :: y : Str).take 0) + chS ((45 :: y : Str).take 1))).1, (lexW y (0 + 0 + 1) (0 + chS ((45 :: y : Str).take 0) + chS ((45 :: y : Str).take 1))).2) = _
    rw [h3]
  · rw [List.map_cons, h4]; rfl
theorem Lx.word {z : Str} {k : Int} {t : Str} {v : Nat} (h0 : z.length ≠ 0) (hb : runS blankR z = 0) (ht : tokS z = ⟨k, t, v, z.length, 0⟩) : Lx z [(k, t, v)] := by
  have hpt : Part z 0 z ⟨k, t, v, z.length, 0⟩ := ⟨hb, by simp, h0, ht⟩
  refine ⟨[⟨k, t, v, 0 + 0, 0 + chS (z.take 0)⟩], ?_, rfl⟩
  rw [lexW_tok hpt rfl]
  simp only [List.drop_length]
  rw [lexW_nil (x := ([] : Str)) (by rfl)]
theorem Lx.num {n : Nat} (hn : n ≤ 9223372036854775807) : Lx (dgL n) [(1, [], n)] := by
  have ht := tok_dg hn
  have h0 : (dgL n).length ≠ 0 := fun h => dg_ne n (List.length_eq_zero_iff.1 h)
  exact Lx.word h0 (tok_noblank h0 (by rw [ht])) ht
theorem nm_all (s : Str) : ∀ (f p n m : Nat), s.length < p + f → p ≤ s.length → nmFrom s f p n = some m → (p = 0 → 0 < s.length → startR (dec s 0).1 = true) ∧ runS restR (s.drop p) = s.length - p ∧ m = n + chS (s.drop p)
  | 0, p, n, m, h, h2, _ => by omega
  | f + 1, p, n, m, h, h2, h3 => by
    rw [nmFrom] at h3
    by_cases hp : p < s.length
    · rw [if_pos hp] at h3
      have hd := dec_drop s p 0
      rw [Nat.add_zero] at hd
      have hw := dec_width s p
      have hft := dec_fits hp
      have hne : (s.drop p).length ≠ 0 := by rw [List.length_drop]; omega
      split at h3
      · cases h3
      · rename_i hc
        have hc : ((decide (p = 0) && !startR (dec s p).1) || !restR (dec s p).1) = false := by simpa using hc
        rw [Bool.or_eq_false_iff] at hc
        have hr : restR (dec s p).1 = true := by simpa using hc.2
        obtain ⟨_, k2, k3⟩ := nm_all s f _ _ m (by omega) hft h3
        refine ⟨fun h0 _ => ?_, ?_, ?_⟩
        · subst h0; simpa using hc.1
        · rw [runS_yes hne (by rw [hd]; exact hr), hd, List.drop_drop, k2]; omega
        · rw [k3, chS_step hne, hd, List.drop_drop]; omega
    · rw [if_neg hp] at h3
      have : m = n := (Option.some.inj h3).symm
      have hl : (s.drop p).length = 0 := by rw [List.length_drop]; omega
      exact ⟨fun h0 h1 => by omega, by rw [runS_nil hl]; omega, by rw [chS_nil hl, this]; omega⟩
theorem Lx.name {s : Str} (h : nameS s = true) : Lx s [(0, s, 0)] := by
  unfold nameS at h
  cases hn : nmFrom s (s.length + 1) 0 0 with
  | none => rw [hn] at h; cases h
  | some m =>
    rw [hn] at h
    simp only [Bool.and_eq_true, decide_eq_true_eq, Bool.not_eq_true'] at h
    obtain ⟨⟨h1, h2⟩, h3⟩ := h
    obtain ⟨k1, k2, k3⟩ := nm_all s _ 0 0 m (by omega) (by omega) hn
    rw [List.drop_zero] at k2 k3
    have h0 : s.length ≠ 0 := fun hl => by rw [chS_nil hl] at k3; omega
    have hs := k1 rfl (by omega)
    have hrun : runS restR s = s.length := by omega
    have hw := dec_width s 0
    have ht : tokS s = ⟨0, s, 0, s.length, 0⟩ := by
      rw [tokS, if_neg, if_pos hs, hrun, List.take_length, nameT, if_neg (by simp [h3]), if_neg (by omega)]
      rintro ⟨q, _⟩
      rw [q] at hs
      have h5 : startR 65533 = false := by unfold startR; decide
      have hs : startR 65533 = true := hs
      rw [h5] at hs
      cases hs
    exact Lx.word h0 (tok_noblank h0 (by rw [ht])) ht

mutual
def TT.nk : TT → TT
  | .mk op num name _ args => .mk op num name (if args = [] then .nil else .any) (ttsNk args)
def ttsNk : List TT → List TT
  | [] => []
  | t :: l => t.nk :: ttsNk l
end
def partK (x : List Ky × Int) (least : Int) : List Ky := if bindsV x.2 < least then kS tOpen :: (x.1 ++ [kS tClose]) else x.1
def joinK' (op num : Int) (name : Str) (l : List (List Ky × Int)) : List Ky :=
  if op = 0 then [(1, [], num.toNat)] else if op = 1 then [(0, name, 0)]
  else if op = 2 then kS tSub :: partK (l.getD 0 ([], 0)) 2
  else if op = 3 then partK (l.getD 0 ([], 0)) 0 ++ kS tAdd :: partK (l.getD 1 ([], 0)) 1
  else if op = 4 then partK (l.getD 0 ([], 0)) 0 ++ kS tSub :: partK (l.getD 1 ([], 0)) 1
  else partK (l.getD 0 ([], 0)) 1 ++ kS tMul :: partK (l.getD 1 ([], 0)) 2
mutual
def TT.ks : TT → List Ky
  | .mk op num name _ args => joinK' op num name (ttsKs args)
def ttsKs : List TT → List (List Ky × Int)
  | [] => []
  | t :: l => (t.ks, t.op) :: ttsKs l
end
inductive TT.Kind : TT → Prop
  | num (v : Nat) (k : SK) : v ≤ 9223372036854775807 → TT.Kind (.mk 0 v [] k [])
  | name (s : Str) (k : SK) : nameS s = true → TT.Kind (.mk 1 0 s k [])
  | neg (k : SK) (a : TT) : a.right → a.ok → TT.Kind (.mk 2 0 [] k [a])
  | two (op : Int) (k : SK) (a b : TT) : (op = 3 ∨ op = 4 ∨ op = 5) → a.right → b.right → a.ok → b.ok → TT.Kind (.mk op 0 [] k [a, b])
theorem TT.kind {t : TT} (h : t.right) (hok : t.ok) : t.Kind := by
  rcases t with ⟨op, num, name, k, args⟩
  rw [TT.right] at h
  rw [TT.ok] at hok
  obtain ⟨hg, hr⟩ := h
  obtain ⟨_, hnum, _, _, hao⟩ := hok
  have hg : (if op = 0 then decide (0 ≤ num) && decide (name = []) && decide (args.length = 0) else if op = 1 then decide (num = 0) && nameS name && decide (args.length = 0) else if op = 2 then decide (num = 0) && decide (name = []) && decide (args.length = 1)
    else if op = 3 ∨ op = 4 ∨ op = 5 then decide (num = 0) && decide (name = []) && decide (args.length = 2) else false) = true := hg
  by_cases h0 : op = 0
  · rw [if_pos h0] at hg
    simp only [Bool.and_eq_true, decide_eq_true_eq] at hg
    obtain ⟨⟨h1, h2⟩, h3⟩ := hg
    have h3 := List.length_eq_zero_iff.1 h3
    subst h0 h2 h3
    have : num = (num.toNat : Int) := by omega
    rw [this]
    exact .num _ _ (by have := hnum.2; omega)
  rw [if_neg h0] at hg
  clear h0
  by_cases h0 : op = 1
  · rw [if_pos h0] at hg
    simp only [Bool.and_eq_true, decide_eq_true_eq] at hg
    obtain ⟨⟨h1, h2⟩, h3⟩ := hg
    have h3 := List.length_eq_zero_iff.1 h3
    subst h0 h1 h3
    exact .name _ _ h2
  rw [if_neg h0] at hg
  clear h0
  by_cases h0 : op = 2
  · rw [if_pos h0] at hg
    simp only [Bool.and_eq_true, decide_eq_true_eq] at hg
    obtain ⟨⟨h1, h2⟩, h3⟩ := hg
    subst h0 h1 h2
    match args, h3 with
    | [a], _ =>
      rw [ttsRight] at hr
      rw [ttsOk] at hao
      exact .neg _ _ hr.1 hao.1
  rw [if_neg h0] at hg
  clear h0
  by_cases h0 : op = 3 ∨ op = 4 ∨ op = 5
  · rw [if_pos h0] at hg
    simp only [Bool.and_eq_true, decide_eq_true_eq] at hg
    obtain ⟨⟨h1, h2⟩, h3⟩ := hg
    subst h1 h2
    match args, h3 with
    | [a, b], _ =>
      rw [ttsRight, ttsRight] at hr
      rw [ttsOk, ttsOk] at hao
      exact .two _ _ _ _ h0 hr.1 hr.2.1 hao.1 hao.2.1
  · rw [if_neg h0] at hg; cases hg
theorem nodes_pos (t : TT) : 1 ≤ t.nodes := by rcases t with ⟨op, num, name, k, args⟩; rw [TT.nodes]; omega
theorem no_gt {n : Nat} : ∀ z, dgL n ≠ 62 :: z := fun z h => by
  have := dg_chars n 62 (by rw [h]; simp)
  exact absurd this.2 (by decide)
theorem start62 : startR 62 = false := by unfold startR; decide
theorem nm_gt {s : Str} (h : nameS s = true) : ∀ z, s ≠ 62 :: z := fun z e => by
  unfold nameS at h
  cases hn : nmFrom s (s.length + 1) 0 0 with
  | none => rw [hn] at h; cases h
  | some m =>
    obtain ⟨k1, _, _⟩ := nm_all s _ 0 0 m (by omega) (by omega) hn
    have := k1 rfl (by rw [e]; simp)
    rw [e, dec_ascii (by simp [bt])] at this
    have h62 : startR 62 = true := this
    rw [start62] at h62
    cases h62

end Tab

/- A term's text is read as the term: plain. -/
namespace Tab
open Go
set_option maxRecDepth 10000
set_option linter.unusedVariables false
set_option linter.unusedSimpArgs false
set_option linter.unusedSectionVars false

theorem partS_lx {x : Str} {K : List Ky} (o l : Int) (h : Lx x K) : Lx (partS (x, o) l) (partK (K, o) l) := by
  unfold partS partK
  by_cases hb : bindsV o < l
  · rw [if_pos hb, if_pos hb]
    have : ([91] ++ x) ++ [93] = 91 :: (x ++ 93 :: []) := by simp
    rw [this]
    exact Lx.opn (h.sep sep93 (Lx.cls Lx.nil))
  · rw [if_neg hb, if_neg hb]; exact h
theorem partS_gt {x : Str} (o l : Int) (h : ∀ z, x ≠ 62 :: z) : ∀ z, partS (x, o) l ≠ 62 :: z := fun z => by
  unfold partS
  by_cases hb : bindsV o < l
  · rw [if_pos hb]; simp
  · rw [if_neg hb]; exact h z
theorem partS_ne {x : Str} (o l : Int) (h : x ≠ []) : partS (x, o) l ≠ [] := by
  unfold partS
  by_cases hb : bindsV o < l
  · rw [if_pos hb]; simp
  · rw [if_neg hb]; exact h
theorem mid_lx {x y m : Str} {K L M : List Ky} (hx : Lx x K) (hm : Lx m M) (hy : Lx y L) : Lx ((x ++ (32 :: (m ++ [32]))) ++ y) (K ++ (M ++ L)) := by
  have : (x ++ (32 :: (m ++ [32]))) ++ y = x ++ 32 :: (m ++ 32 :: y) := by simp
  rw [this]
  exact hx.sep sep32 (Lx.blank (hm.sep sep32 (Lx.blank hy)))
theorem tx_num (v : Nat) (k : SK) : (TT.mk 0 v [] k []).tx = dgL v ∧ (TT.mk 0 v [] k []).ks = [(1, [], v)] ∧ (TT.mk 0 v [] k []).nk = .mk 0 v [] .nil [] := by
  refine ⟨by rw [TT.tx, ttsTx]; rfl, by rw [TT.ks, ttsKs]; rfl, by rw [TT.nk, ttsNk]; rfl⟩
theorem tx_name (s : Str) (k : SK) : (TT.mk 1 0 s k []).tx = s ∧ (TT.mk 1 0 s k []).ks = [(0, s, 0)] ∧ (TT.mk 1 0 s k []).nk = .mk 1 0 s .nil [] := by
  refine ⟨by rw [TT.tx, ttsTx]; rfl, by rw [TT.ks, ttsKs]; rfl, by rw [TT.nk, ttsNk]; rfl⟩
theorem tx_neg (k : SK) (a : TT) : (TT.mk 2 0 [] k [a]).tx = 45 :: partS (a.tx, a.op) 2 ∧ (TT.mk 2 0 [] k [a]).ks = kS tSub :: partK (a.ks, a.op) 2 ∧ (TT.mk 2 0 [] k [a]).nk = .mk 2 0 [] .any [a.nk] := by
  refine ⟨by rw [TT.tx, ttsTx, ttsTx]; rfl, by rw [TT.ks, ttsKs, ttsKs]; rfl, by rw [TT.nk, ttsNk, ttsNk]; rfl⟩
theorem tx_two (op : Int) (k : SK) (a b : TT) (h : op = 3 ∨ op = 4 ∨ op = 5) :
    (TT.mk op 0 [] k [a, b]).tx = (partS (a.tx, a.op) (if op = 5 then 1 else 0) ++ (32 :: ((if op = 3 then tAdd else if op = 4 then tSub else tMul) ++ [32]))) ++ partS (b.tx, b.op) (if op = 5 then 2 else 1) ∧
    (TT.mk op 0 [] k [a, b]).ks = partK (a.ks, a.op) (if op = 5 then 1 else 0) ++ kS (if op = 3 then tAdd else if op = 4 then tSub else tMul) :: partK (b.ks, b.op) (if op = 5 then 2 else 1) ∧
    (TT.mk op 0 [] k [a, b]).nk = .mk op 0 [] .any [a.nk, b.nk] := by
  rw [TT.tx, TT.ks, TT.nk, ttsTx, ttsTx, ttsTx, ttsKs, ttsKs, ttsKs, ttsNk, ttsNk, ttsNk]
  rcases h with rfl | rfl | rfl
  · exact ⟨rfl, rfl, rfl⟩
  · exact ⟨rfl, rfl, rfl⟩
  · exact ⟨rfl, rfl, rfl⟩
theorem lit_op {op : Int} (h : op = 3 ∨ op = 4 ∨ op = 5) : Lx (if op = 3 then tAdd else if op = 4 then tSub else tMul) [kS (if op = 3 then tAdd else if op = 4 then tSub else tMul)] := by
  rcases h with rfl | rfl | rfl
  · exact Lx.lit (x := [43]) (K := [kS tAdd]) (by kernel_rfl) (by kernel_rfl)
  · exact Lx.lit (x := [45]) (K := [kS tSub]) (by kernel_rfl) (by kernel_rfl)
  · exact Lx.lit (x := [42]) (K := [kS tMul]) (by kernel_rfl) (by kernel_rfl)
theorem tt_lx : ∀ (n : Nat) (t : TT), t.nodes ≤ n → t.right → t.ok → Lx t.tx t.ks ∧ (∀ z, t.tx ≠ 62 :: z) ∧ t.tx ≠ [] := by
  intro n
  induction n with
  | zero => intro t h; have := nodes_pos t; omega
  | succ n ih =>
    intro t hn hr hok
    cases TT.kind hr hok with
    | num v k hv =>
      obtain ⟨e1, e2, _⟩ := tx_num v k
      rw [e1, e2]
      exact ⟨Lx.num hv, no_gt, dg_ne v⟩
    | name s k hs =>
      obtain ⟨e1, e2, _⟩ := tx_name s k
      rw [e1, e2]
      refine ⟨Lx.name hs, nm_gt hs, ?_⟩
      rintro rfl
      exact absurd hs (by simp [nameS, nmFrom])
    | neg k a ha ho =>
      rw [TT.nodes, ttsNodes, ttsNodes] at hn
      obtain ⟨i1, i2, i3⟩ := ih a (by omega) ha ho
      obtain ⟨e1, e2, _⟩ := tx_neg k a
      rw [e1, e2]
      exact ⟨Lx.minus (partS_gt _ _ i2) (partS_lx _ _ i1), fun z => by simp, by simp⟩
    | two op k a b ho ha hb hoa hob =>
      rw [TT.nodes, ttsNodes, ttsNodes, ttsNodes] at hn
      obtain ⟨i1, i2, i3⟩ := ih a (by omega) ha hoa
      obtain ⟨j1, j2, j3⟩ := ih b (by omega) hb hob
      obtain ⟨e1, e2, _⟩ := tx_two op k a b ho
      rw [e1, e2]
      refine ⟨mid_lx (partS_lx _ _ i1) (lit_op ho) (partS_lx _ _ j1), fun z h => ?_, ?_⟩
      · have hne := partS_ne a.op (if op = 5 then 1 else 0) i3
        have hgt := partS_gt a.op (if op = 5 then 1 else 0) i2
        cases hp : partS (a.tx, a.op) (if op = 5 then 1 else 0) with
        | nil => exact hne hp
        | cons c x =>
          rw [hp] at h
          simp only [List.cons_append] at h
          exact hgt x (by rw [hp, (List.cons.inj h).1])
      · have hne := partS_ne a.op (if op = 5 then 1 else 0) i3
        intro h
        have := (List.append_eq_nil_iff.1 (List.append_eq_nil_iff.1 h).1).1
        exact hne this

structure TG (t : TT) : Prop where
  fa : bindsV t.op = 2 → ∀ M, OkFa (t.ks ++ M) t.nk M
  cp : 1 ≤ bindsV t.op → ∀ M g R, Okl 1 pPL t.nk M g R → OkP (t.ks ++ M) g R
  ct : ∀ M g R, sgK M ≠ tMul → Okl 2 pTL t.nk M g R → OkT (t.ks ++ M) g R
theorem binds_range (o : Int) : 0 ≤ bindsV o ∧ bindsV o ≤ 2 := by
  unfold bindsV
  repeat' split
  all_goals decide
section
variable {t : TT} (h : TG t)
include h
theorem TG.okT {M : List Ky} (h1 : sgK M ≠ tMul) (h2 : sgK M ≠ tAdd) (h3 : sgK M ≠ tSub) : OkT (t.ks ++ M) t.nk M := h.ct M _ _ h1 (tl_stop h2 h3)
theorem TG.brk (M : List Ky) : OkFa ((kS tOpen :: (t.ks ++ [kS tClose])) ++ M) t.nk M := by
  have : (kS tOpen :: (t.ks ++ [kS tClose])) ++ M = kS tOpen :: (t.ks ++ kS tClose :: M) := by simp
  rw [this]
  exact fa_open (h.okT (by simp [sgK, kS, tClose, tMul]) (by simp [sgK, kS, tClose, tAdd]) (by simp [sgK, kS, tClose, tSub]))
theorem TG.faP (M : List Ky) : OkFa (partK (t.ks, t.op) 2 ++ M) t.nk M := by
  have hr := binds_range t.op
  unfold partK
  by_cases hb : bindsV t.op < 2
  · rw [if_pos hb]; exact h.brk M
  · rw [if_neg hb]; exact h.fa (by omega) M
theorem TG.cpP (M : List Ky) (g : TT) (R : List Ky) (hl : Okl 1 pPL t.nk M g R) : OkP (partK (t.ks, t.op) 1 ++ M) g R := by
  unfold partK
  by_cases hb : bindsV t.op < 1
  · rw [if_pos hb]; exact p_intro (h.brk M) hl
  · rw [if_neg hb]; exact h.cp (by omega) M g R hl
theorem TG.ctP (M : List Ky) (g : TT) (R : List Ky) (hm : sgK M ≠ tMul) (hl : Okl 2 pTL t.nk M g R) : OkT (partK (t.ks, t.op) 0 ++ M) g R := by
  have hr := binds_range t.op
  unfold partK
  rw [if_neg (by show ¬ bindsV t.op < 0; omega)]
  exact h.ct M g R hm hl
omit h in
theorem TG.of_fa (h : ∀ M, OkFa (t.ks ++ M) t.nk M) : TG t :=
  ⟨fun _ => h, fun _ M g R hl => p_intro (h M) hl, fun M g R hm hl => t_intro (p_intro (h M) (pl_stop hm)) hl⟩
end
theorem tt_ok : ∀ (n : Nat) (t : TT), t.nodes ≤ n → t.right → t.ok → TG t := by
  intro n
  induction n with
  | zero => intro t h; have := nodes_pos t; omega
  | succ n ih =>
    intro t hn hr hok
    cases TT.kind hr hok with
    | num v k hv =>
      obtain ⟨_, e2, e3⟩ := tx_num v k
      exact TG.of_fa fun M => by rw [e2, e3]; exact fa_num
    | name s k hs =>
      obtain ⟨_, e2, e3⟩ := tx_name s k
      exact TG.of_fa fun M => by rw [e2, e3]; exact fa_name
    | neg k a ha ho =>
      rw [TT.nodes, ttsNodes, ttsNodes] at hn
      have i := ih a (by omega) ha ho
      obtain ⟨_, e2, e3⟩ := tx_neg k a
      exact TG.of_fa fun M => by rw [e2, e3]; exact fa_neg (i.faP M)
    | two op k a b ho ha hb hoa hob =>
      rw [TT.nodes, ttsNodes, ttsNodes, ttsNodes] at hn
      have i := ih a (by omega) ha hoa
      have j := ih b (by omega) hb hob
      obtain ⟨_, e2, e3⟩ := tx_two op k a b ho
      rcases ho with rfl | rfl | rfl
      · refine ⟨(fun h => absurd h (by simp [TT.op, bindsV])), (fun h => absurd h (by simp [TT.op, bindsV])), fun M g R hm hl => ?_⟩
        rw [e3] at hl
        rw [e2, List.append_assoc, List.cons_append]
        exact i.ctP _ g R (show tAdd ≠ tMul by decide) (tl_add (j.cpP M _ M (pl_stop hm)) hl)
      · refine ⟨(fun h => absurd h (by simp [TT.op, bindsV])), (fun h => absurd h (by simp [TT.op, bindsV])), fun M g R hm hl => ?_⟩
        rw [e3] at hl
        rw [e2, List.append_assoc, List.cons_append]
        exact i.ctP _ g R (show tSub ≠ tMul by decide) (tl_sub (j.cpP M _ M (pl_stop hm)) hl)
      · have hcp : ∀ M g R, Okl 1 pPL (TT.mk 5 0 [] k [a, b]).nk M g R → OkP ((TT.mk 5 0 [] k [a, b]).ks ++ M) g R := fun M g R hl => by
          rw [e3] at hl
          rw [e2, List.append_assoc, List.cons_append]
          exact i.cpP _ g R (pl_step (j.faP M) hl)
        exact ⟨(fun h => absurd h (by simp [TT.op, bindsV])), fun _ => hcp, fun M g R hm hl => t_intro (hcp M _ M (pl_stop hm)) hl⟩
theorem tt_back {t : TT} (hr : t.right) (ho : t.ok) : Lx t.tx t.ks ∧ ∀ M, sgK M ≠ tMul → sgK M ≠ tAdd → sgK M ≠ tSub → OkT (t.ks ++ M) t.nk M :=
  ⟨(tt_lx _ t (Nat.le_refl _) hr ho).1, fun M h1 h2 h3 => (tt_ok _ t (Nat.le_refl _) hr ho).okT h1 h2 h3⟩

end Tab

/- A formula's text is read as the formula: plain. -/
namespace Tab
open Go
set_option maxRecDepth 10000
set_option linter.unusedVariables false
set_option linter.unusedSimpArgs false
set_option linter.unusedSectionVars false

mutual
def FT.nk : FT → FT
  | .mk op name md _ terms _ args => .mk op name md (if terms = [] then .nil else .any) (ttsNk terms) (if args = [] then .nil else .any) (ftsNk args)
def ftsNk : List FT → List FT
  | [] => []
  | t :: l => t.nk :: ftsNk l
end
def sgnF (op : Int) : Str := if op = 3 then fAnd else if op = 4 then fOr else if op = 5 then fImp else if op = 6 then fIff else if op = 9 then [60, 61] else if op = 10 then [60] else if op = 11 then [62, 61] else if op = 12 then [62] else if op = 13 then [61] else if op = 14 then [33, 61] else [126]
def joinKF (op : Int) (name : Str) (md : Int) (ts l : List (List Ky)) : List Ky :=
  if op = 0 then [kS fTrue] else if op = 1 then [kS fFalse]
  else if op = 2 then kS fNot :: l.getD 0 []
  else if op = 7 then kS fEx :: (0, name, 0) :: kS fDot :: l.getD 0 []
  else if op = 8 then kS fAll :: (0, name, 0) :: kS fDot :: l.getD 0 []
  else if 3 ≤ op ∧ op ≤ 6 then kS fOpen :: ((l.getD 0 [] ++ ([kS (sgnF op)] ++ l.getD 1 [])) ++ [kS fClose])
  else if op = 15 then (ts.getD 0 [] ++ ([kS [126]] ++ ts.getD 1 [])) ++ ([kS fMod] ++ [(1, [], md.toNat)])
  else ts.getD 0 [] ++ ([kS (sgnF op)] ++ ts.getD 1 [])
mutual
def FT.ks : FT → List Ky
  | .mk op name md _ terms _ args => joinKF op name md (terms.map TT.ks) (ftsKs args)
def ftsKs : List FT → List (List Ky)
  | [] => []
  | t :: l => t.ks :: ftsKs l
end
inductive FT.Kind : FT → Prop
  | leaf (op : Int) (tk ak : SK) : (op = 0 ∨ op = 1) → FT.Kind (.mk op [] 0 tk [] ak [])
  | not (tk ak : SK) (a : FT) : a.right → a.ok → FT.Kind (.mk 2 [] 0 tk [] ak [a])
  | quant (op : Int) (s : Str) (tk ak : SK) (a : FT) : (op = 7 ∨ op = 8) → nameS s = true → a.right → a.ok → FT.Kind (.mk op s 0 tk [] ak [a])
  | two (op : Int) (tk ak : SK) (a b : FT) : (op = 3 ∨ op = 4 ∨ op = 5 ∨ op = 6) → a.right → b.right → a.ok → b.ok → FT.Kind (.mk op [] 0 tk [] ak [a, b])
  | rel (op : Int) (tk ak : SK) (x y : TT) : (op = 9 ∨ op = 10 ∨ op = 11 ∨ op = 12 ∨ op = 13 ∨ op = 14) → x.right → y.right → x.ok → y.ok → FT.Kind (.mk op [] 0 tk [x, y] ak [])
  | cong (m : Nat) (tk ak : SK) (x y : TT) : m ≠ 0 → m ≤ 9223372036854775807 → x.right → y.right → x.ok → y.ok → FT.Kind (.mk 15 [] m tk [x, y] ak [])
theorem FT.kind {f : FT} (h : f.right) (hok : f.ok) : f.Kind := by
  rcases f with ⟨op, name, md, tk, terms, ak, args⟩
  rw [FT.right] at h
  rw [FT.ok] at hok
  obtain ⟨hg, htr, har⟩ := h
  obtain ⟨_, _, hmd, _, hto, _, hao⟩ := hok
  have hg : (if op = 0 ∨ op = 1 then decide (name = []) && decide (md = 0) && decide (terms.length = 0) && decide (args.length = 0)
    else if op = 2 then decide (name = []) && decide (md = 0) && decide (terms.length = 0) && decide (args.length = 1)
    else if 3 ≤ op ∧ op ≤ 6 then decide (name = []) && decide (md = 0) && decide (terms.length = 0) && decide (args.length = 2)
    else if op = 7 ∨ op = 8 then nameS name && decide (md = 0) && decide (terms.length = 0) && decide (args.length = 1)
    else if 9 ≤ op ∧ op ≤ 14 then decide (name = []) && decide (md = 0) && decide (terms.length = 2) && decide (args.length = 0)
    else if op = 15 then decide (name = []) && decide (1 ≤ md) && decide (terms.length = 2) && decide (args.length = 0)
    else false) = true := hg
  by_cases h0 : op = 0 ∨ op = 1
  · rw [if_pos h0] at hg
    simp only [Bool.and_eq_true, decide_eq_true_eq] at hg
    obtain ⟨⟨⟨h1, h2⟩, h3⟩, h4⟩ := hg
    have h3 := List.length_eq_zero_iff.1 h3
    have h4 := List.length_eq_zero_iff.1 h4
    subst h1 h2 h3 h4
    exact .leaf _ _ _ h0
  rw [if_neg h0] at hg
  by_cases h2 : op = 2
  · rw [if_pos h2] at hg
    simp only [Bool.and_eq_true, decide_eq_true_eq] at hg
    obtain ⟨⟨⟨k1, k2⟩, k3⟩, k4⟩ := hg
    have k3 := List.length_eq_zero_iff.1 k3
    subst h2 k1 k2 k3
    match args, k4 with
    | [a], _ =>
      rw [ftsRight] at har
      rw [ftsOk] at hao
      exact .not _ _ _ har.1 hao.1
  rw [if_neg h2] at hg
  by_cases h3 : 3 ≤ op ∧ op ≤ 6
  · rw [if_pos h3] at hg
    simp only [Bool.and_eq_true, decide_eq_true_eq] at hg
    obtain ⟨⟨⟨k1, k2⟩, k3⟩, k4⟩ := hg
    have k3 := List.length_eq_zero_iff.1 k3
    subst k1 k2 k3
    match args, k4 with
    | [a, b], _ =>
      rw [ftsRight, ftsRight] at har
      rw [ftsOk, ftsOk] at hao
      exact .two _ _ _ _ _ (by omega) har.1 har.2.1 hao.1 hao.2.1
  rw [if_neg h3] at hg
  by_cases h7 : op = 7 ∨ op = 8
  · rw [if_pos h7] at hg
    simp only [Bool.and_eq_true, decide_eq_true_eq] at hg
    obtain ⟨⟨⟨k1, k2⟩, k3⟩, k4⟩ := hg
    have k3 := List.length_eq_zero_iff.1 k3
    subst k2 k3
    match args, k4 with
    | [a], _ =>
      rw [ftsRight] at har
      rw [ftsOk] at hao
      exact .quant _ _ _ _ _ h7 k1 har.1 hao.1
  rw [if_neg h7] at hg
  by_cases h9 : 9 ≤ op ∧ op ≤ 14
  · rw [if_pos h9] at hg
    simp only [Bool.and_eq_true, decide_eq_true_eq] at hg
    obtain ⟨⟨⟨k1, k2⟩, k3⟩, k4⟩ := hg
    have k4 := List.length_eq_zero_iff.1 k4
    subst k1 k2 k4
    match terms, k3 with
    | [a, b], _ =>
      rw [ttsRight, ttsRight] at htr
      rw [ttsOk, ttsOk] at hto
      exact .rel _ _ _ _ _ (by omega) htr.1 htr.2.1 hto.1 hto.2.1
  rw [if_neg h9] at hg
  by_cases h15 : op = 15
  · rw [if_pos h15] at hg
    simp only [Bool.and_eq_true, decide_eq_true_eq] at hg
    obtain ⟨⟨⟨k1, k2⟩, k3⟩, k4⟩ := hg
    have k4 := List.length_eq_zero_iff.1 k4
    subst h15 k1 k4
    match terms, k3 with
    | [a, b], _ =>
      rw [ttsRight, ttsRight] at htr
      rw [ttsOk, ttsOk] at hto
      have e : md = (md.toNat : Int) := by omega
      have hm := hmd.2
      rw [e]
      exact .cong _ _ _ _ _ (by omega) (by omega) htr.1 htr.2.1 hto.1 hto.2.1
  · rw [if_neg h15] at hg; cases hg

def HdT (K : List Ky) : Prop := ∃ k L, K = k :: L ∧ (k.1 = 0 ∨ k.1 = 1 ∨ k = kS tOpen ∨ k = kS tSub)
theorem HdT.app {K : List Ky} (h : HdT K) (M : List Ky) : HdT (K ++ M) := by
  obtain ⟨k, L, rfl, h⟩ := h
  exact ⟨k, L ++ M, rfl, h⟩
theorem HdT.part {K : List Ky} (h : HdT K) (o l : Int) : HdT (partK (K, o) l) := by
  unfold partK
  by_cases hb : bindsV o < l
  · rw [if_pos hb]; exact ⟨_, _, rfl, .inr (.inr (.inl rfl))⟩
  · rw [if_neg hb]; exact h
end Tab

/- A formula's text is read as the formula: plain, the end. -/
namespace Tab
open Go
set_option maxRecDepth 10000
set_option linter.unusedVariables false
set_option linter.unusedSimpArgs false
set_option linter.unusedSectionVars false

theorem fnodes_pos (t : FT) : 1 ≤ t.nodes := by rcases t with ⟨op, name, md, tk, terms, ak, args⟩; rw [FT.nodes]; omega
theorem ttsNk_len : ∀ l : List TT, (ttsNk l).length = l.length
  | [] => by rw [ttsNk]
  | t :: l => by rw [ttsNk, List.length_cons, ttsNk_len l, List.length_cons]
theorem ftsNk_len : ∀ l : List FT, (ftsNk l).length = l.length
  | [] => by rw [ftsNk]
  | t :: l => by rw [ftsNk, List.length_cons, ftsNk_len l, List.length_cons]
mutual
theorem TT.nk_walk : ∀ (t : TT) (d : Nat) (m : Ms), t.nk.walk d m = t.walk d m
  | .mk op num name k args, d, m => by
    have hg : goodT (.mk op num name (if args = [] then .nil else .any) (ttsNk args)) = goodT (.mk op num name k args) := by
      simp only [goodT, TT.op, TT.num, TT.name, TT.args, ttsNk_len]
      rfl
    rw [TT.nk, TT.walk, TT.walk, hg, ttsNk_walk args]
theorem ttsNk_walk : ∀ (l : List TT) (d : Nat) (m : Ms), ttsWalk (ttsNk l) d m = ttsWalk l d m
  | [], d, m => by rw [ttsNk]
  | t :: l, d, m => by rw [ttsNk, ttsWalk, ttsWalk, TT.nk_walk t, ttsNk_walk l]
end
mutual
theorem FT.nk_walk : ∀ (t : FT) (d : Nat) (m : Ms), t.nk.walk d m = t.walk d m
  | .mk op name md tk terms ak args, d, m => by
    have hg : goodF (.mk op name md (if terms = [] then .nil else .any) (ttsNk terms) (if args = [] then .nil else .any) (ftsNk args)) = goodF (.mk op name md tk terms ak args) := by
      simp only [goodF, FT.op, FT.name, FT.md, FT.terms, FT.args, ttsNk_len, ftsNk_len]
      rfl
    rw [FT.nk, FT.walk, FT.walk, hg, ttsNk_walk terms, ftsNk_walk args]
theorem ftsNk_walk : ∀ (l : List FT) (d : Nat) (m : Ms), ftsWalk (ftsNk l) d m = ftsWalk l d m
  | [], d, m => by rw [ftsNk]
  | t :: l, d, m => by rw [ftsNk, ftsWalk, ftsWalk, FT.nk_walk t, ftsNk_walk l]
end
theorem chkT_nk (t : TT) : chkT t.nk = chkT t := by unfold chkT; rw [TT.nk_walk]
theorem readT_of {z : Str} {K : List Ky} {t : TT} (hl : z.length ≤ 4096) (hz : Lx z K) (h : OkT K t []) : readT z = (t, ⟨[], flt0⟩) := by
  obtain ⟨W, h1, h2⟩ := hz.lexS hl
  have h0 := rs0_of h1
  have := len_wk h2
  obtain ⟨V, h3, h4⟩ := h (endS z) (16 * W.length + 16) W h2 (by omega)
  rw [List.map_eq_nil_iff] at h4
  subst h4
  rw [readT, h0]
  exact h3
theorem showT_back {t : TT} (hc : chkT t = 0) (ho : t.ok) (hl : t.tx.length ≤ 4096) : parT t.tx = (t.nk, flt0) := by
  have hr := (chkT_right hc).1
  obtain ⟨h1, h2⟩ := tt_back hr ho
  have h2 := h2 [] (by decide) (by decide) (by decide)
  rw [List.append_nil] at h2
  have hr := readT_of hl h1 h2
  unfold parT
  rw [hr]
  show (if chkT t.nk ≠ 0 then _ else _ : TT × Flt) = _
  rw [chkT_nk, hc, if_neg (by simp)]
  rfl

end Tab

/- The document's comparison of trees that are the same but for what is known of slices. -/
namespace Tab
open Go Go.Proofs
set_option maxRecDepth 10000
set_option linter.unusedVariables false
set_option linter.unusedSimpArgs false
set_option linter.unusedSectionVars false
set_option maxHeartbeats 1000000

theorem ttsNk_at : ∀ {l l' : List TT}, ttsNk l = ttsNk l' → ∀ {i : Nat} (h : i < l.length) (h' : i < l'.length), (l[i]'h).nk = (l'[i]'h').nk
  | [], _, _, i, h, _ => by simp at h
  | _ :: _, [], _, i, _, h' => by simp at h'
  | t :: l, t' :: l', e, 0, _, _ => by rw [ttsNk, ttsNk] at e; exact (List.cons.inj e).1
  | t :: l, t' :: l', e, i + 1, h, h' => by rw [ttsNk, ttsNk] at e; exact ttsNk_at (List.cons.inj e).2 _ _
theorem ftsNk_at : ∀ {l l' : List FT}, ftsNk l = ftsNk l' → ∀ {i : Nat} (h : i < l.length) (h' : i < l'.length), (l[i]'h).nk = (l'[i]'h').nk
  | [], _, _, i, h, _ => by simp at h
  | _ :: _, [], _, i, _, h' => by simp at h'
  | t :: l, t' :: l', e, 0, _, _ => by rw [ftsNk, ftsNk] at e; exact (List.cons.inj e).1
  | t :: l, t' :: l', e, i + 1, h, h' => by rw [ftsNk, ftsNk] at e; exact ftsNk_at (List.cons.inj e).2 _ _
mutual
theorem TT.nk_nk : ∀ t : TT, t.nk.nk = t.nk
  | .mk op num name k args => by
    have : (ttsNk args = []) = (args = []) := by cases args <;> simp [ttsNk]
    rw [TT.nk, TT.nk, ttsNk_nk args]
    simp only [this]
theorem ttsNk_nk : ∀ l : List TT, ttsNk (ttsNk l) = ttsNk l
  | [] => by rw [ttsNk]; rfl
  | t :: l => by rw [ttsNk, ttsNk, TT.nk_nk t, ttsNk_nk l]
end
mutual
theorem FT.nk_nk : ∀ t : FT, t.nk.nk = t.nk
  | .mk op name md tk terms ak args => by
    have h1 : (ttsNk terms = []) = (terms = []) := by cases terms <;> simp [ttsNk]
    have h2 : (ftsNk args = []) = (args = []) := by cases args <;> simp [ftsNk]
    rw [FT.nk, FT.nk, ttsNk_nk terms, ftsNk_nk args]
    simp only [h1, h2]
theorem ftsNk_nk : ∀ l : List FT, ftsNk (ftsNk l) = ftsNk l
  | [] => by rw [ftsNk]; rfl
  | t :: l => by rw [ftsNk, ftsNk, FT.nk_nk t, ftsNk_nk l]
end
mutual
theorem TT.nk_ok : ∀ t : TT, t.ok → t.nk.ok
  | .mk op num name k args, h => by
    rw [TT.ok] at h
    rw [TT.nk, TT.ok, ttsNk_len]
    exact ⟨h.1, h.2.1, h.2.2.1, h.2.2.2.1, ttsNk_ok args h.2.2.2.2⟩
theorem ttsNk_ok : ∀ l : List TT, ttsOk l → ttsOk (ttsNk l)
  | [], h => by rw [ttsNk]; exact h
  | t :: l, h => by rw [ttsOk] at h; rw [ttsNk, ttsOk]; exact ⟨TT.nk_ok t h.1, ttsNk_ok l h.2⟩
end
mutual
theorem FT.nk_ok : ∀ t : FT, t.ok → t.nk.ok
  | .mk op name md tk terms ak args, h => by
    rw [FT.ok] at h
    rw [FT.nk, FT.ok, ttsNk_len, ftsNk_len]
    exact ⟨h.1, h.2.1, h.2.2.1, h.2.2.2.1, ttsNk_ok _ h.2.2.2.2.1, h.2.2.2.2.2.1, ftsNk_ok args h.2.2.2.2.2.2⟩
theorem ftsNk_ok : ∀ l : List FT, ftsOk l → ftsOk (ftsNk l)
  | [], h => by rw [ftsNk]; exact h
  | t :: l, h => by rw [ftsOk] at h; rw [ftsNk, ftsOk]; exact ⟨FT.nk_ok t h.1, ftsNk_ok l h.2⟩
end

theorem r06_sameTerm : ∀ (n : Nat) (t u : TT), t.nodes ≤ n → t.nk = u.nk → t.ok → u.ok → Pure Tryd.prog 46 [.agg (tcl t), .agg (tcl u)] (.bool true) := by
  intro n
  induction n with
  | zero => intro t u h; have := nodes_pos t; omega
  | succ n ih =>
    intro t u hn he hot hou
    have hc := tcl_closed t
    have hd := tcl_closed u
    rcases t with ⟨op, num, name, k, l⟩
    rcases u with ⟨op', num', name', k', l'⟩
    rw [TT.nk, TT.nk] at he
    simp only [TT.mk.injEq] at he
    obtain ⟨rfl, rfl, rfl, _, he⟩ := he
    have hll : l.length = l'.length := by rw [← ttsNk_len l, ← ttsNk_len l', he]
    rw [TT.ok] at hot hou
    rw [TT.nodes] at hn
    have hl47 := hot.2.2.2.1
    refine Pure.of_sw 53 Tryd.func46 rfl Tryd.ntmps46 (by kernel_rfl) (Nat.le_of_ble_eq_true (by kernel_rfl)) (by simp only [closeds, AV.closed]; exact ⟨hc, hd, trivial⟩) (by simp only [AV.closed]) ?_
    refine SW.of_vc ?_
    repeat first | refine opsStep ?_ | refine codeStep ?_ | refine drawStep ?_
    refine decB_false (b := decide (op ≠ op)) (by simp) ?_
    repeat first | refine opsStep ?_ | refine codeStep ?_ | refine drawStep ?_
    refine decB_false (b := decide (num ≠ num)) (by simp) ?_
    repeat first | refine opsStep ?_ | refine codeStep ?_ | refine drawStep ?_
    refine decB_false (b := decide (name ≠ name)) (by simp) ?_
    repeat first | refine opsStep ?_ | refine codeStep ?_ | refine drawStep ?_
    refine decB_false (b := decide ((l.length : Int) ≠ (l'.length : Int))) (by rw [hll]; simp) ?_
    repeat first | refine opsStep ?_ | refine codeStep ?_ | refine drawStep ?_
    refine loopE_of (ι := {i : Nat // i ≤ l.length}) (fun i => (fr [(2, .ref 0 0 0), (3, .ref 1 0 0), (5, .int .i64 i.1)], [.cells 0 (tcl ⟨op, num, name, k, l⟩), .cells 0 (tcl ⟨op, num, name, k', l'⟩)])) (fun i => l.length - i.1)
      ⟨0, Nat.zero_le _⟩ (Ent.fr' ⟨(by kernel_rfl), (by kernel_rfl), (by kernel_rfl), trivial⟩ (by kernel_rfl)) ?_
    rintro ⟨i, hi⟩
    repeat first | refine opsStep ?_ | refine codeStep ?_ | refine drawStep ?_
    refine decB_dec (fun hlt => ?_) (fun hlt => ?_)
    · have hi' : i < l.length := by have : (i : Int) < l.length := hlt; omega
      clear hlt
      have hi2 : i < l'.length := by omega
      have hld := tts_ld hi'
      have hld2 := tts_ld hi2
      have hfit : 4 ≤ ((ttsC l).drop ((i : Int).toNat * 4)).length := by rw [List.length_drop, ttsC_len, Int.toNat_natCast]; omega
      have hfit2 : 4 ≤ ((ttsC l').drop ((i : Int).toNat * 4)).length := by rw [List.length_drop, ttsC_len, Int.toNat_natCast]; omega
      have hone := ih (l[i]'hi') (l'[i]'hi2) (by have := tts_nodes hi'; omega) (ttsNk_at he hi' hi2) (ttsOk_iff.1 hot.2.2.2.2 _ (List.getElem_mem hi')) (ttsOk_iff.1 hou.2.2.2.2 _ (List.getElem_mem hi2))
      rw [← hld, ← hld2] at hone
      repeat refine codeStep ?_
      refine SW.drawn rfl (by kernel_rfl) ?_
      repeat first | refine opsStep ?_ | refine codeStep ?_ | refine drawStep ?_
      refine guardE_of ⟨by omega, by show (i : Int) < l.length; omega⟩ ?_
      repeat first | refine opsStep ?_ | refine codeStep ?_ | refine drawStep ?_
      refine guardE_of hfit ?_
      repeat first | refine opsStep ?_ | refine codeStep ?_ | refine drawStep ?_
      refine guardE_of ⟨by omega, by show (i : Int) < l'.length; omega⟩ ?_
      repeat first | refine opsStep ?_ | refine codeStep ?_ | refine drawStep ?_
      refine guardE_of hfit2 ?_
      iterate 1 refine drawStep ?_
      refine .inl ⟨_, _, [], hone, RdsN_refl _, .inr rfl, none_need, ?_⟩
      repeat first | refine opsStep ?_ | refine codeStep ?_ | refine drawStep ?_
      refine ⟨by kernel_rfl, ?_⟩
      repeat first | refine opsStep ?_ | refine codeStep ?_ | refine drawStep ?_
      exact ⟨⟨i + 1, hi'⟩, (by show l.length - (i + 1) < l.length - i; omega), Ent.fr' ⟨(by kernel_rfl), (by kernel_rfl), inc_slot (i := i) (by omega), trivial⟩ (by kernel_rfl)⟩
    · clear hlt
      repeat first | refine opsStep ?_ | refine codeStep ?_ | refine drawStep ?_
      exact finB (b' := true) (by kernel_rfl) rfl


theorem r06_Same : ∀ (n : Nat) (f g : FT), f.nodes ≤ n → f.nk = g.nk → f.ok → g.ok → Pure Tryd.prog 24 [.agg (fcl f), .agg (fcl g)] (.bool true) := by
  intro n
  induction n with
  | zero => intro t u h; have := fnodes_pos t; omega
  | succ n ih =>
    intro f g hn he hot hou
    have hc := fcl_closed f
    have hd := fcl_closed g
    rcases f with ⟨op, name, md, tk, ts, ak, l⟩
    rcases g with ⟨op', name', md', tk', ts', ak', l'⟩
    rw [FT.nk, FT.nk] at he
    simp only [FT.mk.injEq] at he
    obtain ⟨rfl, rfl, rfl, _, hes, _, he⟩ := he
    have hlt' : ts.length = ts'.length := by rw [← ttsNk_len ts, ← ttsNk_len ts', hes]
    have hll : l.length = l'.length := by rw [← ftsNk_len l, ← ftsNk_len l', he]
    rw [FT.ok] at hot hou
    rw [FT.nodes] at hn
    have hl47 := hot.2.2.2.1
    have hl48 := hot.2.2.2.2.2.1
    refine Pure.of_sw 82 Tryd.func24 rfl Tryd.ntmps24 (by kernel_rfl) (Nat.le_of_ble_eq_true (by kernel_rfl)) (by simp only [closeds, AV.closed]; exact ⟨hc, hd, trivial⟩) (by simp only [AV.closed]) ?_
    refine SW.of_vc ?_
    repeat first | refine opsStep ?_ | refine codeStep ?_ | refine drawStep ?_
    refine decB_false (b := decide (op ≠ op)) (by simp) ?_
    repeat first | refine opsStep ?_ | refine codeStep ?_ | refine drawStep ?_
    refine decB_false (b := decide (name ≠ name)) (by simp) ?_
    repeat first | refine opsStep ?_ | refine codeStep ?_ | refine drawStep ?_
    refine decB_false (b := decide (md ≠ md)) (by simp) ?_
    repeat first | refine opsStep ?_ | refine codeStep ?_ | refine drawStep ?_
    refine decB_false (b := decide ((ts.length : Int) ≠ (ts'.length : Int))) (by rw [hlt']; simp) ?_
    repeat first | refine opsStep ?_ | refine codeStep ?_ | refine drawStep ?_
    refine decB_false (b := decide ((l.length : Int) ≠ (l'.length : Int))) (by rw [hll]; simp) ?_
    repeat first | refine opsStep ?_ | refine codeStep ?_ | refine drawStep ?_
    refine loopE_of (ι := {i : Nat // i ≤ ts.length}) (fun i => (fr [(2, .ref 0 0 0), (3, .ref 1 0 0), (5, .int .i64 i.1)], [.cells 0 (fcl ⟨op, name, md, tk, ts, ak, l⟩), .cells 0 (fcl ⟨op, name, md, tk', ts', ak', l'⟩)])) (fun i => ts.length - i.1)
      ⟨0, Nat.zero_le _⟩ (Ent.fr' ⟨(by kernel_rfl), (by kernel_rfl), (by kernel_rfl), trivial⟩ (by kernel_rfl)) ?_
    rintro ⟨i, hi⟩
    repeat first | refine opsStep ?_ | refine codeStep ?_ | refine drawStep ?_
    refine decB_dec (fun hlt => ?_) (fun hlt => ?_)
    · skip
      have hi' : i < ts.length := by have : (i : Int) < ts.length := hlt; omega
      clear hlt
      have hi2 : i < ts'.length := by omega
      have hld := tts_ld hi'
      have hld2 := tts_ld hi2
      have hfit : 4 ≤ ((ttsC ts).drop ((i : Int).toNat * 4)).length := by rw [List.length_drop, ttsC_len, Int.toNat_natCast]; omega
      have hfit2 : 4 ≤ ((ttsC ts').drop ((i : Int).toNat * 4)).length := by rw [List.length_drop, ttsC_len, Int.toNat_natCast]; omega
      have hone := r06_sameTerm _ (ts[i]'hi') (ts'[i]'hi2) (Nat.le_refl _) (ttsNk_at hes hi' hi2) (ttsOk_iff.1 hot.2.2.2.2.1 _ (List.getElem_mem hi')) (ttsOk_iff.1 hou.2.2.2.2.1 _ (List.getElem_mem hi2))
      rw [← hld, ← hld2] at hone
      repeat refine codeStep ?_
      refine SW.drawn rfl (by kernel_rfl) ?_
      repeat first | refine opsStep ?_ | refine codeStep ?_ | refine drawStep ?_
      refine guardE_of ⟨by omega, by show (i : Int) < ts.length; omega⟩ ?_
      repeat first | refine opsStep ?_ | refine codeStep ?_ | refine drawStep ?_
      refine guardE_of hfit ?_
      repeat first | refine opsStep ?_ | refine codeStep ?_ | refine drawStep ?_
      refine guardE_of ⟨by omega, by show (i : Int) < ts'.length; omega⟩ ?_
      repeat first | refine opsStep ?_ | refine codeStep ?_ | refine drawStep ?_
      refine guardE_of hfit2 ?_
      iterate 1 refine drawStep ?_
      refine .inl ⟨_, _, [], hone, RdsN_refl _, .inr rfl, none_need, ?_⟩
      repeat first | refine opsStep ?_ | refine codeStep ?_ | refine drawStep ?_
      refine ⟨by kernel_rfl, ?_⟩
      repeat first | refine opsStep ?_ | refine codeStep ?_ | refine drawStep ?_
      exact ⟨⟨i + 1, hi'⟩, (by show ts.length - (i + 1) < ts.length - i; omega), Ent.fr' ⟨(by kernel_rfl), (by kernel_rfl), inc_slot (i := i) (by omega), trivial⟩ (by kernel_rfl)⟩
    · clear hlt
      repeat first | refine opsStep ?_ | refine codeStep ?_ | refine drawStep ?_
      refine loopE_of (ι := {i : Nat // i ≤ l.length}) (fun i => (fr [(2, .ref 0 0 0), (3, .ref 1 0 0), (6, .int .i64 i.1)], [.cells 0 (fcl ⟨op, name, md, tk, ts, ak, l⟩), .cells 0 (fcl ⟨op, name, md, tk', ts', ak', l'⟩)])) (fun i => l.length - i.1)
        ⟨0, Nat.zero_le _⟩ (Ent.fr' ⟨(by kernel_rfl), (by kernel_rfl), (by kernel_rfl), trivial⟩ (by kernel_rfl)) ?_
      rintro ⟨i, hi⟩
      repeat first | refine opsStep ?_ | refine codeStep ?_ | refine drawStep ?_
      refine decB_dec (fun hlt => ?_) (fun hlt => ?_)
      · skip
        have hi' : i < l.length := by have : (i : Int) < l.length := hlt; omega
        clear hlt
        have hi2 : i < l'.length := by omega
        have hld := fts_ld hi'
        have hld2 := fts_ld hi2
        have hfit : 5 ≤ ((ftsC l).drop ((i : Int).toNat * 5)).length := by rw [List.length_drop, ftsC_len, Int.toNat_natCast]; omega
        have hfit2 : 5 ≤ ((ftsC l').drop ((i : Int).toNat * 5)).length := by rw [List.length_drop, ftsC_len, Int.toNat_natCast]; omega
        have hone := ih (l[i]'hi') (l'[i]'hi2) (by have := fts_nodes hi'; omega) (ftsNk_at he hi' hi2) (ftsOk_iff.1 hot.2.2.2.2.2.2 _ (List.getElem_mem hi')) (ftsOk_iff.1 hou.2.2.2.2.2.2 _ (List.getElem_mem hi2))
        rw [← hld, ← hld2] at hone
        repeat refine codeStep ?_
        refine SW.drawn rfl (by kernel_rfl) ?_
        repeat first | refine opsStep ?_ | refine codeStep ?_ | refine drawStep ?_
        refine guardE_of ⟨by omega, by show (i : Int) < l.length; omega⟩ ?_
        repeat first | refine opsStep ?_ | refine codeStep ?_ | refine drawStep ?_
        refine guardE_of hfit ?_
        repeat first | refine opsStep ?_ | refine codeStep ?_ | refine drawStep ?_
        refine guardE_of ⟨by omega, by show (i : Int) < l'.length; omega⟩ ?_
        repeat first | refine opsStep ?_ | refine codeStep ?_ | refine drawStep ?_
        refine guardE_of hfit2 ?_
        iterate 1 refine drawStep ?_
        refine .inl ⟨_, _, [], hone, RdsN_refl _, .inr rfl, none_need, ?_⟩
        repeat first | refine opsStep ?_ | refine codeStep ?_ | refine drawStep ?_
        refine ⟨by kernel_rfl, ?_⟩
        repeat first | refine opsStep ?_ | refine codeStep ?_ | refine drawStep ?_
        exact ⟨⟨i + 1, hi'⟩, (by show l.length - (i + 1) < l.length - i; omega), Ent.fr' ⟨(by kernel_rfl), (by kernel_rfl), inc_slot (i := i) (by omega), trivial⟩ (by kernel_rfl)⟩
      · clear hlt
        repeat first | refine opsStep ?_ | refine codeStep ?_ | refine drawStep ?_
        exact finB (b' := true) (by kernel_rfl) rfl

end Tab

/- The law ParseStops. -/
namespace Tab
open Go Go.Proofs
set_option maxRecDepth 10000
set_option linter.unusedVariables false
set_option linter.unusedSimpArgs false
set_option linter.unusedSectionVars false
set_option maxHeartbeats 1000000

end Tab

/- The laws ShowBack, ShowReads, ShowTermsBack. -/
namespace Tab
open Go Go.Proofs
set_option maxRecDepth 10000
set_option linter.unusedVariables false
set_option linter.unusedSimpArgs false
set_option linter.unusedSectionVars false
set_option maxHeartbeats 1000000

end Tab

/- The law ShowTermsBack. -/
namespace Tab
open Go Go.Proofs
set_option maxRecDepth 10000
set_option linter.unusedVariables false
set_option linter.unusedSimpArgs false
set_option linter.unusedSectionVars false
set_option maxHeartbeats 1000000

theorem readT_lex {s : Str} (h : (lexS s).2.why ≠ 0) : (readT s).2.fl = (lexS s).2 := ((mono_terms (mono_bad (endS s) _ h) _).1 (rs0 s) rfl)
theorem parT_lex {s : Str} (h : (lexS s).2.why ≠ 0) : (parT s).2 = (lexS s).2 := by
  have hr := readT_lex h
  have hd : ((readT s).2.done (endS s)).fl = (lexS s).2 := by
    unfold Rs.done
    split
    · rw [wrong_bad (by rw [hr]; exact h), hr]
    · exact hr
  have : parT s = (.mk 0 0 [] .nil [], ((readT s).2.done (endS s)).fl) := if_pos (by rw [hd]; exact h)
  rw [this, hd]
theorem parT_long {z : Str} (hl : 4096 < z.length) : (parT z).2 = ⟨70, 0, 0⟩ := by
  have h := lexS_long hl
  rw [parT_lex (by rw [h]; decide), h]
def z0T : TT := .mk 0 0 [] .nil []
def eqF (t : TT) : FT := .mk 13 [] 0 .any [t, z0T] .nil []
theorem eqF_ok {t : TT} (h : t.ok) : (eqF t).ok := (made_ok (0, 0)).rel 13 t z0T (by decide) (by decide) h (made_ok (0, 0)).zero
theorem eqF_nk (t : TT) : (eqF t).nk = (eqF t.nk).nk := by
  simp [eqF, FT.nk, ttsNk, TT.nk_nk]
theorem showTermsBack (t : TT) (ho : t.ok) : Pure Tryd.prog 10 [.agg t.cells] (.bool true) := by
  have hs := show_Term t ho
  have hf := law_fixed
  rw [TT.cells_eq] at hs ⊢
  change Pure Tryd.prog 17 [.agg (tcl t)] _ at hs
  change Pure Tryd.prog 10 [.agg (tcl t)] _
  have hcc := tcl_closed t
  by_cases hc : chkT t = 0
  · have hr := chkT_right hc
    have hsm := TT.tx_small ho hr.2
    rw [if_pos hc, hc] at hs
    have hp := parse_Term t.tx (by omega)
    by_cases hl : 4096 < t.tx.length
    · have hw : parT t.tx = ((parT t.tx).1, ⟨70, 0, 0⟩) := by rw [← parT_long hl]
      rw [hw] at hp
      generalize (parT t.tx).1 = g at *
      generalize t.tx = x at *
      refine Pure.of_sw 57 Tryd.func10 rfl Tryd.ntmps10 (by kernel_rfl) (Nat.le_of_ble_eq_true (by kernel_rfl)) (by simp only [closeds, AV.closed]; exact ⟨hcc, trivial⟩) (by simp only [AV.closed]) ?_
      refine SW.of_vc ?_
      repeat first | refine opsStep ?_ | refine codeStep ?_ | refine drawStep ?_
      refine callP hs ?_
      repeat first | refine opsStep ?_ | refine codeStep ?_ | refine drawStep ?_
      refine callP hf ?_
      repeat first | refine opsStep ?_ | refine codeStep ?_ | refine drawStep ?_
      refine callP hp ?_
      repeat first | refine opsStep ?_ | refine codeStep ?_ | refine drawStep ?_
      refine decB_true (b := decide ((x.length : Int) > 4096)) (by simp; omega) ?_
      repeat first | refine opsStep ?_ | refine codeStep ?_ | refine drawStep ?_
      refine ⟨true, eqlF (w := 70) (a := 0) (b := 0) (w' := 70) (c := 0) (d := 0) (by decide) (by decide) (by decide) (by decide) (by decide) (by decide), ?_⟩
      repeat first | refine opsStep ?_ | refine codeStep ?_ | refine drawStep ?_
      exact finB (b' := true) (by kernel_rfl) rfl
    · have hw := showT_back hc ho (by omega)
      rw [hw] at hp
      have hck := r06_CheckTerm t.nk (TT.nk_ok t ho)
      rw [TT.cells_eq, chkT_nk, hc] at hck
      change Pure Tryd.prog 18 [.agg (tcl t.nk)] _ at hck
      have hsa := r06_Same _ (eqF t) (eqF t.nk) (Nat.le_refl _) (eqF_nk t) (eqF_ok ho) (eqF_ok (TT.nk_ok t ho))
      rw [eqF, eqF, fcl_atom, fcl_atom] at hsa
      generalize t.nk = u at *
      generalize t.tx = x at *
      refine Pure.of_sw 57 Tryd.func10 rfl Tryd.ntmps10 (by kernel_rfl) (Nat.le_of_ble_eq_true (by kernel_rfl)) (by simp only [closeds, AV.closed]; exact ⟨hcc, trivial⟩) (by simp only [AV.closed]) ?_
      refine SW.of_vc ?_
      repeat first | refine opsStep ?_ | refine codeStep ?_ | refine drawStep ?_
      refine callP hs ?_
      repeat first | refine opsStep ?_ | refine codeStep ?_ | refine drawStep ?_
      refine callP hf ?_
      repeat first | refine opsStep ?_ | refine codeStep ?_ | refine drawStep ?_
      refine callP hp ?_
      repeat first | refine opsStep ?_ | refine codeStep ?_ | refine drawStep ?_
      refine decB_false (b := decide ((x.length : Int) > 4096)) (by simp; omega) ?_
      repeat refine codeStep ?_
      iterate 2 refine opsStep ?_
      refine opsFrz ?_
      refine optX_of (c := tcl t ++ tcl z0T) (by kernel_rfl) ?_
      iterate 4 refine opsStep ?_
      repeat refine codeStep ?_
      iterate 2 refine opsStep ?_
      refine opsFrz ?_
      refine optX_of (c := tcl u ++ tcl z0T) (by kernel_rfl) ?_
      iterate 4 refine opsStep ?_
      refine VCode.ent (Ent.fr' (l := [(5, .ref 1 0 0), (6, .ref 2 0 0), (7, .ref 4 0 0), (8, .ref 6 0 0)]) (H' := [.cells 0 (tcl t), .cells 0 (tcl u), .cells 0 (fltC flt0), .fro 0 (tcl t ++ tcl z0T), .cells 0 [.int .i64 13, .str [], .int .i64 0, .sl .any 2 (tcl t ++ tcl z0T), .sl .nil 0 []], .fro 0 (tcl u ++ tcl z0T), .cells 0 [.int .i64 13, .str [], .int .i64 0, .sl .any 2 (tcl u ++ tcl z0T), .sl .nil 0 []]]) ⟨(by kernel_rfl), (by kernel_rfl), (by kernel_rfl), (by kernel_rfl), trivial⟩ (by kernel_rfl)) ?_
      repeat first | refine opsStep ?_ | refine codeStep ?_ | refine drawStep ?_
      refine ⟨true, eqlF (w := 0) (a := 0) (b := 0) (w' := 0) (c := 0) (d := 0) (by decide) (by decide) (by decide) (by decide) (by decide) (by decide), ?_⟩
      repeat first | refine opsStep ?_ | refine codeStep ?_ | refine drawStep ?_
      refine callP hck ?_
      repeat first | refine opsStep ?_ | refine codeStep ?_ | refine drawStep ?_
      refine callP hsa ?_
      repeat first | refine opsStep ?_ | refine codeStep ?_ | refine drawStep ?_
      exact finB (b' := true) (by kernel_rfl) rfl
  · rw [if_neg hc] at hs
    generalize chkT t = c at *
    refine Pure.of_sw 57 Tryd.func10 rfl Tryd.ntmps10 (by kernel_rfl) (Nat.le_of_ble_eq_true (by kernel_rfl)) (by simp only [closeds, AV.closed]; exact ⟨hcc, trivial⟩) (by simp only [AV.closed]) ?_
    refine SW.of_vc ?_
    repeat first | refine opsStep ?_ | refine codeStep ?_ | refine drawStep ?_
    refine callP hs ?_
    repeat first | refine opsStep ?_ | refine codeStep ?_ | refine drawStep ?_
    refine callP hf ?_
    repeat first | refine opsStep ?_ | refine codeStep ?_ | refine drawStep ?_
    refine decB_true (b := decide (c ≠ 0)) (by simpa using hc) ?_
    repeat first | refine opsStep ?_ | refine codeStep ?_ | refine drawStep ?_
    refine callP hf ?_
    repeat first | refine opsStep ?_ | refine codeStep ?_ | refine drawStep ?_
    exact finB (b' := true) (by kernel_rfl) rfl

end Tab
