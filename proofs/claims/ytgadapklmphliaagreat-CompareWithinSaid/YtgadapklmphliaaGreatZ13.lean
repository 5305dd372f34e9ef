/- Lemmas for this claim: part 13. No condition. -/
import Derived.Test.YtgadapklmphliaaGreatZ0
import Derived.Test.YtgadapklmphliaaGreatZ12
/- Places met level by level: plain. -/
namespace Tab
open Go
set_option maxRecDepth 10000
set_option linter.unusedVariables false
set_option linter.unusedSimpArgs false
set_option linter.unusedSectionVars false

theorem metL_new : ∀ (l acc r : List Nat), metL acc l = acc ++ r → ∀ y ∈ r, y ∉ acc := by
  intro l
  induction l with
  | nil => intro acc r h y hy; simp [metL] at h; subst h; simp at hy
  | cons z l ih =>
    intro acc r h y hy
    rw [metL] at h
    split at h
    · exact ih acc r h y hy
    · rename_i hz
      obtain ⟨r', hr'⟩ := metL_prefix l (acc ++ [z])
      have h2 : acc ++ r = acc ++ ([z] ++ r') := by rw [← h, hr', List.append_assoc]
      have h3 := List.append_cancel_left h2
      subst h3
      rcases List.mem_append.1 hy with hy | hy
      · simp at hy; subst hy; exact hz
      · intro hya
        exact ih (acc ++ [z]) r' hr' y hy (by simp [hya])
section
variable (K : Nat) (st : Nat → Nat → Nat)
def tosC (x : Nat) : List Nat := (List.range K).map (st x)
theorem tosC_length (x) : (tosC K st x).length = K := by simp [tosC]
theorem tosC_get (x a) (h : a < (tosC K st x).length) : (tosC K st x)[a] = st x a := by simp [tosC]
def lvS (M last : List Nat) : List Nat := metL M (last.flatMap (tosC K st))
def lvL : Nat → List Nat → List Nat → List (List Nat)
  | 0, _, _ => []
  | n + 1, M, last => if last = [] then [] else (lvS K st M last).drop M.length :: lvL n (lvS K st M last) ((lvS K st M last).drop M.length)
theorem lvL_nil (n M) : lvL K st n M [] = [] := by cases n <;> simp [lvL]
theorem lvL_cons {n M last} (h : last ≠ []) : lvL K st (n + 1) M last = (lvS K st M last).drop M.length :: lvL K st n (lvS K st M last) ((lvS K st M last).drop M.length) := by rw [lvL, if_neg h]
theorem lvS_pre (M last) : lvS K st M last = M ++ (lvS K st M last).drop M.length := by
  obtain ⟨r, hr⟩ := metL_prefix (last.flatMap (tosC K st)) M
  rw [← lvS] at hr
  rw [hr]; simp
theorem lvS_mem (M last y) : y ∈ lvS K st M last ↔ y ∈ M ∨ ∃ x ∈ last, ∃ a, a < K ∧ st x a = y := by
  rw [lvS, metL_mem]
  simp [tosC]

/-- Every place of a level is where a word of so many letters leads. -/
theorem lvL_sound : ∀ (n k : Nat) (M last : List Nat), (∀ x ∈ last, ∃ w : List Nat, w.length = k ∧ (∀ a ∈ w, a < K) ∧ runG st 0 w = x) → ∀ (j : Nat) (row : List Nat), (lvL K st n M last)[j]? = some row → ∀ x ∈ row, ∃ w : List Nat, w.length = k + j + 1 ∧ (∀ a ∈ w, a < K) ∧ runG st 0 w = x
  | 0, _, _, _, _, j, row, h, _, _ => by simp [lvL] at h
  | n + 1, k, M, last, hl, j, row, h, x, hx => by
    by_cases hn : last = []
    · subst hn; rw [lvL_nil] at h; simp at h
    rw [lvL_cons K st hn] at h
    have hrow : ∀ y ∈ (lvS K st M last).drop M.length, ∃ w : List Nat, w.length = k + 1 ∧ (∀ a ∈ w, a < K) ∧ runG st 0 w = y := by
      obtain ⟨r, hr⟩ := metL_prefix (last.flatMap (tosC K st)) M
      intro y hy
      have hy1 : y ∈ r := by rw [lvS, hr] at hy; simpa using hy
      have hy2 : y ∈ last.flatMap (tosC K st) := by
        clear hy hl h
        rcases (metL_mem y (last.flatMap (tosC K st)) M).1 (by rw [hr]; simp [hy1]) with h | h
        · exact absurd h (metL_new _ _ _ hr y hy1)
        · exact h
      obtain ⟨x0, hx0, ha⟩ := List.mem_flatMap.1 hy2
      obtain ⟨a, ha1, ha2⟩ := List.mem_map.1 ha
      obtain ⟨w, h1, h2, h3⟩ := hl x0 hx0
      refine ⟨w ++ [a], by simp [h1], fun b hb => ?_, by rw [runG_snoc, h3, ha2]⟩
      rcases List.mem_append.1 hb with hb | hb
      · exact h2 b hb
      · simp at hb; subst hb; exact List.mem_range.1 ha1
    cases j with
    | zero => simp only [List.getElem?_cons_zero, Option.some.injEq] at h; subst h; exact hrow x hx
    | succ j =>
      rw [List.getElem?_cons_succ] at h
      obtain ⟨w, h1, h2⟩ := lvL_sound n (k + 1) _ _ hrow j row h x hx
      exact ⟨w, by omega, h2⟩

def lvEnough (N n : Nat) (M last : List Nat) : Prop := last = [] ∨ N - M.length + 2 ≤ n
theorem lvEnough.next {N n : Nat} {M last : List Nat} (h : lvEnough N (n + 1) M last) (hl : last ≠ []) (hn : (lvS K st M last).length ≤ N) : lvEnough N n (lvS K st M last) ((lvS K st M last).drop M.length) := by
  rcases h with h | h
  · exact absurd h hl
  by_cases hz : (lvS K st M last).drop M.length = []
  · exact .inl hz
  · refine .inr ?_
    have h1 : ((lvS K st M last).drop M.length).length ≠ 0 := fun e => hz (List.length_eq_zero_iff.1 e)
    rw [List.length_drop] at h1
    omega

theorem runG_cons' {σ : Type} (s : σ → Nat → σ) (x : σ) (a : Nat) (w : List Nat) : runG s x (a :: w) = runG s (s x a) w := rfl
/-- Each word leads to a place of a level that isn't behind its length. -/
theorem lvL_cover (N : Nat) : ∀ (n : Nat) (M last S : List Nat), lvEnough N n M last → (∀ x ∈ S, ∀ a, a < K → st x a ∈ M) → (∀ x ∈ M, x ∈ S ∨ x ∈ last) → (∀ n M last, lvEnough N n M last → True) → (∀ x ∈ M, x < N) → (∀ x ∈ last, x < N) → M.Nodup → (∀ x a, x < N → a < K → st x a < N) →
    ∀ (v : List Nat), v ≠ [] → (∀ a ∈ v, a < K) → ∀ x, x ∈ S ∨ x ∈ last → runG st x v ∈ M ∨ ∃ (j : Nat) (row : List Nat), (lvL K st n M last)[j]? = some row ∧ runG st x v ∈ row ∧ j + 1 ≤ v.length := by
  intro n
  induction n with
  | zero =>
    intro M last S he hS hM _ _ _ _ _ v
    have hl : last = [] := by rcases he with h | h; exact h; omega
    subst hl
    induction v with
    | nil => intro h; exact absurd rfl h
    | cons a v ih =>
      intro _ hv x hx
      have hx' : x ∈ S := by rcases hx with h | h; exact h; simp at h
      have hy := hS x hx' a (hv a (by simp))
      by_cases hve : v = []
      · subst hve; exact .inl hy
      · rcases ih hve (fun b hb => hv b (by simp [hb])) (st x a) (hM _ hy) with h | ⟨j, row, h1, h2, h3⟩
        · exact .inl h
        · rw [lvL_nil] at h1; simp at h1
  | succ n ihn =>
    intro M last S he hS hM _ hMN hlN hMd hst v
    by_cases hl : last = []
    · subst hl
      induction v with
      | nil => intro h; exact absurd rfl h
      | cons a v ih =>
        intro _ hv x hx
        have hx' : x ∈ S := by rcases hx with h | h; exact h; simp at h
        have hy := hS x hx' a (hv a (by simp))
        by_cases hve : v = []
        · subst hve; exact .inl hy
        · rcases ih hve (fun b hb => hv b (by simp [hb])) (st x a) (hM _ hy) with h | ⟨j, row, h1, h2, h3⟩
          · exact .inl h
          · rw [lvL_nil] at h1; simp at h1
    · have hpre := lvS_pre K st M last
      have hSN : ∀ y ∈ lvS K st M last, y < N := fun y hy => by
        rcases (lvS_mem K st M last y).1 hy with h | ⟨x, hx, a, ha, rfl⟩
        · exact hMN y h
        · exact hst x a (hlN x hx) ha
      have hSd : (lvS K st M last).Nodup := metL_nodup _ _ hMd
      have hSl : (lvS K st M last).length ≤ N := nodup_le hSd hSN
      have he' := he.next K st hl hSl
      have hdrop : ∀ y ∈ (lvS K st M last).drop M.length, y < N := fun y hy => hSN y (List.mem_of_mem_drop hy)
      have hsplit : ∀ y ∈ lvS K st M last, y ∈ M ∨ y ∈ (lvS K st M last).drop M.length := fun y hy => by rw [hpre] at hy; exact List.mem_append.1 hy
      have IH := ihn (lvS K st M last) ((lvS K st M last).drop M.length) (S ++ last) he'
        (fun x hx a ha => by
          rcases List.mem_append.1 hx with h | h
          · exact (lvS_mem K st M last _).2 (.inl (hS x h a ha))
          · exact (lvS_mem K st M last _).2 (.inr ⟨x, h, a, ha, rfl⟩))
        (fun x hx => by
          rcases hsplit x hx with h | h
          · exact .inl (List.mem_append.2 (hM x h))
          · exact .inr h) (fun _ _ _ _ => trivial) hSN hdrop hSd hst
      rw [lvL_cons K st hl]
      generalize lvL K st n (lvS K st M last) ((lvS K st M last).drop M.length) = T at *
      generalize (lvS K st M last).drop M.length = nx at *
      induction v with
      | nil => intro h; exact absurd rfl h
      | cons a v ih =>
        intro _ hv x hx
        have ha := hv a (by simp)
        have hv' : ∀ b ∈ v, b < K := fun b hb => hv b (by simp [hb])
        rw [runG_cons']
        have old : st x a ∈ M → runG st (st x a) v ∈ M ∨ ∃ (j : Nat) (row : List Nat), (nx :: T)[j]? = some row ∧ runG st (st x a) v ∈ row ∧ j + 1 ≤ (a :: v).length := fun hy => by
          by_cases hve : v = []
          · subst hve; exact .inl hy
          · rcases ih hve hv' (st x a) (hM _ hy) with h | ⟨j, row, h1, h2, h3⟩
            · exact .inl h
            · exact .inr ⟨j, row, h1, h2, by simp; omega⟩
        rcases hx with hx | hx
        · exact old (hS x hx a ha)
        · rcases hsplit _ ((lvS_mem K st M last _).2 (.inr ⟨x, hx, a, ha, rfl⟩)) with hy | hy
          · exact old hy
          · by_cases hve : v = []
            · subst hve; exact .inr ⟨0, nx, rfl, hy, by simp⟩
            · rcases IH v hve hv' (st x a) (.inr hy) with h | ⟨j, row, h1, h2, h3⟩
              · rcases hsplit _ h with h | h
                · exact .inl h
                · exact .inr ⟨0, nx, rfl, h, by simp⟩
              · exact .inr ⟨j + 1, row, by simpa using h1, h2, by simp; omega⟩
end

/-- Which places are met. -/
def metB (N : Nat) (M : List Nat) : List Bool := (List.range N).map fun x => decide (x ∈ M)
theorem metB_length (N M) : (metB N M).length = N := by simp [metB]
theorem metB_get {N M x} (h : x < N) : (metB N M)[x]? = some (decide (x ∈ M)) := by simp [metB, h]
theorem metB_set (N M x) : (metB N M).set x true = metB N (M ++ [x]) := by
  refine List.ext_getElem (by simp [metB]) fun j h1 h2 => ?_
  simp only [metB, List.getElem_set, List.getElem_map, List.getElem_range, List.mem_append, List.mem_singleton]
  by_cases e : x = j
  · subst e; simp
  · rw [if_neg e]
    have : ¬ j = x := fun h => e h.symm
    simp [this]
theorem metB_nil (N) : metB N [] = List.replicate N false := by
  refine List.ext_getElem (by simp [metB]) fun j h1 h2 => ?_
  simp [metB]

end Tab

/- tabardref21: told, Reached, Length. -/
namespace Tab
open Go Go.Proofs
set_option maxRecDepth 10000
set_option linter.unusedVariables false
set_option linter.unusedSimpArgs false
set_option linter.unusedSectionVars false

def askQ (q : Int) (a b : Bool) : Bool := (a && !b) || (decide (q = 1) && (b && !a))
/-- A pair's number, and the number of the pair that a letter leads to. -/
def stC (d e : Den) (x a : Nat) : Nat := stepN d.rows (x / e.accept.length) a * e.accept.length + stepN e.rows (x % e.accept.length) a
def tellC (d e : Den) (q : Int) (x : Nat) : Bool := askQ q (accN d.accept (x / e.accept.length)) (accN e.accept (x % e.accept.length))

theorem divmod_lt {x n m : Nat} (h : x < m * n) (hn : 0 < n) : x / n < m ∧ x % n < n := ⟨Nat.div_lt_of_lt_mul (by rw [Nat.mul_comm]; exact h), Nat.mod_lt _ hn⟩
theorem pair_lt {p q n m : Nat} (hp : p < m) (hq : q < n) : p * n + q < m * n := by
  calc p * n + q < p * n + n := by omega
    _ = (p + 1) * n := by rw [Nat.add_mul]; omega
    _ ≤ m * n := Nat.mul_le_mul_right _ hp

theorem r21_told (d e : Den) (q : Int) (hd : rightS d = true) (he : rightS e = true) (x : Nat) (hx : x < d.accept.length * e.accept.length) :
    Pure Tryz.prog 22 [.agg (d.cells ++ e.cells), .int .i64 x, .int .i64 q] (.bool (tellC d e q x)) := by
  have hpe := right_pos he
  obtain ⟨_, _, _, d256⟩ := tracksS_parts (rightS_parts hd).1
  obtain ⟨_, _, _, e256⟩ := tracksS_parts (rightS_parts he).1
  obtain ⟨h1, h2⟩ := divmod_lt hx hpe
  have hn0 : ¬ ((e.accept.length : Nat) : Int) = 0 := by omega
  have hx64 : x < 2 ^ 20 := by have := Nat.mul_le_mul (show d.accept.length ≤ 256 by omega) (show e.accept.length ≤ 256 by omega); omega
  have w1 : IntKind.wrap .i64 (((x : Nat) : Int).tdiv (e.accept.length : Nat)) = ((x / e.accept.length : Nat) : Int) := by
    rw [show ((x : Nat) : Int).tdiv (e.accept.length : Nat) = ((x / e.accept.length : Nat) : Int) from rfl]
    have := Nat.div_le_self x e.accept.length
    generalize x / e.accept.length = y at *
    rw [IntWalk.i64_in _ (by omega)]
  have w2 : ((x : Nat) : Int).tmod (e.accept.length : Nat) = ((x % e.accept.length : Nat) : Int) := rfl
  have ad : d.accept[x / e.accept.length]? = some (accN d.accept (x / e.accept.length)) := by rw [accN, List.getD_eq_getElem?_getD, List.getElem?_eq_getElem h1]; rfl
  have ae : e.accept[x % e.accept.length]? = some (accN e.accept (x % e.accept.length)) := by rw [accN, List.getD_eq_getElem?_getD, List.getElem?_eq_getElem h2]; rfl
  rw [tellC]
  generalize accN d.accept (x / e.accept.length) = x1 at *
  generalize accN e.accept (x % e.accept.length) = x2 at *
  generalize x / e.accept.length = p1 at *
  generalize x % e.accept.length = p2 at *
  refine Pure.of_sw 47 Tryz.func22 rfl Tryz.ntmps22 (by kernel_rfl) (Nat.le_of_ble_eq_true (by kernel_rfl)) (by simp [closeds, AV.closed, aSs_closed, aIs_closed, aBs_closed, aRs_closed, aDen_closed, aCs_closed, aAut_closed]) (by simp [AV.closed, closeds, aSs_closed, aIs_closed, aBs_closed, aRs_closed, aDen_closed, aCs_closed, aAut_closed]) ?_; refine SW.of_vc ?_
  repeat first | refine opsStep ?_ | refine codeStep ?_ | refine drawStep ?_
  refine SW.drawn rfl (by kernel_rfl) ?_
  repeat first | refine opsStep ?_ | refine codeStep ?_ | refine drawStep ?_
  refine optE_of (c := .int .i64 p1) (by show (if ((e.accept.length : Nat) : Int) = 0 then none else some (AV.int .i64 (IntKind.wrap .i64 (((x : Nat) : Int).tdiv (e.accept.length : Nat))))) = _; rw [if_neg hn0, w1]) ?_
  repeat first | refine opsStep ?_ | refine codeStep ?_ | refine drawStep ?_
  refine guardE_of (by simp; omega) ?_
  repeat first | refine opsStep ?_ | refine codeStep ?_ | refine drawStep ?_
  refine optE_of (c := .bool x1) (by simp [Value.cells, ad]) ?_
  repeat first | refine opsStep ?_ | refine codeStep ?_ | refine drawStep ?_
  refine optE_of (c := .int .i64 p2) (by show (if ((e.accept.length : Nat) : Int) = 0 then none else some (AV.int .i64 (((x : Nat) : Int).tmod (e.accept.length : Nat)))) = _; rw [if_neg hn0, w2]) ?_
  repeat first | refine opsStep ?_ | refine codeStep ?_ | refine drawStep ?_
  refine guardE_of (by simp; omega) ?_
  repeat first | refine opsStep ?_ | refine codeStep ?_ | refine drawStep ?_
  refine optE_of (c := .bool x2) (by simp [Value.cells, ae]) ?_
  repeat first | refine opsStep ?_ | refine codeStep ?_ | refine drawStep ?_
  refine ⟨by kernel_rfl, ?_⟩
  cases x1 <;> cases x2
  · repeat first | refine opsStep ?_ | refine codeStep ?_ | refine drawStep ?_
    refine decB_dec (fun hq => ?_) (fun hq => ?_)
    · repeat first | refine opsStep ?_ | refine codeStep ?_ | refine drawStep ?_
      exact finV (v' := .bool false) (by kernel_rfl) (by simp [askQ])
    · repeat first | refine opsStep ?_ | refine codeStep ?_ | refine drawStep ?_
      exact finV (v' := .bool false) (by kernel_rfl) (by simp [askQ])
  · repeat first | refine opsStep ?_ | refine codeStep ?_ | refine drawStep ?_
    refine decB_dec (fun hq => ?_) (fun hq => ?_)
    · repeat first | refine opsStep ?_ | refine codeStep ?_ | refine drawStep ?_
      exact finV (v' := .bool true) (by kernel_rfl) (by simp [askQ, hq])
    · repeat first | refine opsStep ?_ | refine codeStep ?_ | refine drawStep ?_
      exact finV (v' := .bool false) (by kernel_rfl) (by simp [askQ, hq])
  · repeat first | refine opsStep ?_ | refine codeStep ?_ | refine drawStep ?_
    exact finV (v' := .bool true) (by kernel_rfl) (by simp [askQ])
  · repeat first | refine opsStep ?_ | refine codeStep ?_ | refine drawStep ?_
    refine decB_dec (fun hq => ?_) (fun hq => ?_)
    · repeat first | refine opsStep ?_ | refine codeStep ?_ | refine drawStep ?_
      exact finV (v' := .bool false) (by kernel_rfl) (by simp [askQ])
    · repeat first | refine opsStep ?_ | refine codeStep ?_ | refine drawStep ?_
      exact finV (v' := .bool false) (by kernel_rfl) (by simp [askQ])

end Tab

/- tabardref21: Reached, Length. -/
namespace Tab
open Go Go.Proofs
set_option maxRecDepth 10000
set_option linter.unusedVariables false
set_option linter.unusedSimpArgs false
set_option linter.unusedSectionVars false

def rowA (r : List Nat) : AV := .sl .any r.length (iW r)
@[simp] theorem rowA_closed (r) : (rowA r).closed := by simp [rowA, AV.closed, iW_closed]
def rowsA (L : List (List Nat)) : List AV := L.map rowA
@[simp] theorem rowsA_closed (L) : closeds (rowsA L) := by
  rw [rowsA, closeds_iff]; intro a ha; obtain ⟨r, _, rfl⟩ := List.mem_map.1 ha; exact rowA_closed r
theorem rowsA_bel (n L) : bels n (rowsA L) := bels_iff.2 fun a ha => AV.closed_bel _ (closeds_iff.1 (rowsA_closed L) a ha)
@[irreducible] def rchL (d e : Den) : List (List Nat) := lvL (2 ^ d.tracks.length) (stC d e) (d.accept.length * e.accept.length + 2) [] [0]

/-- A row at a list's end, and in a slot: both given away. -/
theorem Ent.rowBoth {nt : Fr} {s : Slots} {H H' : List Blk} {l l' : List (Nat × AV)} {gb gr n es r : Nat} {L cs : List AV} (t : Nat) (pre : List Blk) (hf : frOk s l) (h0 : H.take pre.length = pre) (h1 : H[pre.length]? = some (.cells gb (L ++ [.hs r gr 0 n es])))
    (h2 : H[pre.length + 1]? = some (.cells gr cs)) (hr : r = pre.length + 1) (ht : Tab.fr l t = .hs r gr 0 n es) (hfit : n * es = cs.length) (hl' : frOk (upd (Tab.fr l) t (.sl .any n cs)) l')
    (hk : nt.k ≤ pre.length + 1) (hl : frBel (pre.length + 1) l') (hp : blksBel (pre.length + 1) pre) (hL : bels (pre.length + 1) L) (hcs : bels (pre.length + 1) cs) (e : pre ++ [.cells gb (L ++ [.sl .any n cs])] = H') : Ent nt s H (Tab.fr l') H' := by
  subst e
  subst hr
  obtain ⟨X, hH⟩ := split_at2 h0 h1 h2
  refine (Ent.fr' hf hH).trans ?_
  have h1 := Ent.rowEnd (nt := nt) (s := Tab.fr l) (H := pre ++ .cells gb (L ++ [.hs (pre.length + 1) gr 0 n es]) :: .cells gr cs :: X) pre.length (pre.length + 1) (gb := gb) (gr := gr) (n := n) (es := es) (pre := L) (cs := cs)
    (by simp) (by rw [List.getElem?_append_right (by omega)]; simp) (by omega) hfit
  refine h1.trans ?_
  rw [List.set_append_right _ _ (by omega), show pre.length + 1 - pre.length = 1 by omega, List.set_append_right _ _ (Nat.le_refl _), Nat.sub_self]
  have h3 := Ent.slot (nt := nt) (s := Tab.fr l) (H := pre ++ .cells gb (L ++ [.sl .any n cs]) :: .fro gr cs :: X) (cs := cs) (o := 0) t ht (by rw [List.getElem?_append_right (by omega)]; simp) (by omega)
  rw [List.drop_zero, hfit, List.take_length] at h3
  refine h3.trans ?_
  refine Ent.frD (X := .fro gr cs :: X) hl' (by simp) (by simpa using hk) (by simpa using hl) ?_
  simp only [List.length_append, List.length_singleton]; rw [blksBel_append]; exact ⟨hp, by simp only [Blk.bel, bels_append]; exact ⟨hL, by simp only [bels, AV.bel]; exact ⟨hcs, trivial⟩⟩, trivial⟩

theorem r21_Reached (d e : Den) (hd : rightS d = true) (he : rightS e = true) (hk : d.tracks.length = e.tracks.length) :
    Pure Tryz.prog 21 [.agg (d.cells ++ e.cells)] (.sl .any (rchL d e).length (rowsA (rchL d e))) := by
  have hpd := right_pos hd
  have hpe := right_pos he
  obtain ⟨k6, _, _, d256⟩ := tracksS_parts (rightS_parts hd).1
  obtain ⟨_, _, _, e256⟩ := tracksS_parts (rightS_parts he).1
  have hK64 : 2 ^ d.tracks.length ≤ 64 := by have : 2 ^ d.tracks.length ≤ 2 ^ 6 := Nat.pow_le_pow_right (by omega) k6; omega
  have hNN : d.accept.length * e.accept.length ≤ 256 * 256 := Nat.mul_le_mul (by omega) (by omega)
  have hst : ∀ x a, x < d.accept.length * e.accept.length → a < 2 ^ d.tracks.length → stC d e x a < d.accept.length * e.accept.length := fun x a hx ha => by
    obtain ⟨h1, h2⟩ := divmod_lt hx hpe
    exact pair_lt (stepN_ok hd h1 ha).2.2.2 (stepN_ok he h2 (by rw [← hk]; exact ha)).2.2.2
  have hwm : IntKind.wrap .i64 ((d.accept.length : Int) * (e.accept.length : Int)) = ((d.accept.length * e.accept.length : Nat) : Int) := by
    rw [IntWalk.i64_in _ (by omega), Int.natCast_mul]
  have hpos : 0 < d.accept.length * e.accept.length := Nat.mul_pos hpd hpe
  rw [rchL]
  obtain ⟨N, hN⟩ : ∃ N, d.accept.length * e.accept.length = N := ⟨_, rfl⟩
  rw [hN] at hNN hst hwm hpos ⊢
  obtain ⟨K, hK⟩ : ∃ K, 2 ^ d.tracks.length = K := ⟨_, rfl⟩
  have hK' : 2 ^ e.tracks.length = K := by rw [← hk, hK]
  have hrow : ∀ x, x < N → ∃ r1 r2, d.next[x / e.accept.length]? = some r1 ∧ e.next[x % e.accept.length]? = some r2 ∧ r1.2.length = K ∧ r2.2.length = K ∧ x / e.accept.length < d.next.length ∧ x % e.accept.length < e.next.length ∧
      ∀ a, a < K → ∃ c1 c2 : Nat, r1.2[a]? = some (c1 : Int) ∧ r2.2[a]? = some (c2 : Int) ∧ c1 * e.accept.length + c2 = stC d e x a ∧ c1 < 256 ∧ c2 < 256 := fun x hx => by
    obtain ⟨h1, h2⟩ := divmod_lt (hN ▸ hx) hpe
    obtain ⟨s1, _⟩ := stepN_ok hd h1 (show 0 < 2 ^ d.tracks.length from Nat.two_pow_pos _)
    obtain ⟨t1, _⟩ := stepN_ok he h2 (show 0 < 2 ^ e.tracks.length from Nat.two_pow_pos _)
    have l1 := (rowOk_parts ((rightS_parts hd).2.2 _ (List.getElem_mem s1))).1
    have l2 := (rowOk_parts ((rightS_parts he).2.2 _ (List.getElem_mem t1))).1
    refine ⟨_, _, List.getElem?_eq_getElem s1, List.getElem?_eq_getElem t1, by rw [l1, hK], by rw [l2, hK'], s1, t1, fun a ha => ?_⟩
    obtain ⟨_, a1, a2, a3⟩ := stepN_ok hd h1 (show a < 2 ^ d.tracks.length by rw [hK]; exact ha)
    obtain ⟨_, b1, b2, b3⟩ := stepN_ok he h2 (show a < 2 ^ e.tracks.length by rw [hK']; exact ha)
    exact ⟨_, _, by rw [List.getElem?_eq_getElem a1, a2], by rw [List.getElem?_eq_getElem b1, b2], rfl, by omega, by omega⟩
  rw [hK] at hst hK64 ⊢
  obtain ⟨n, hn⟩ : ∃ n, e.accept.length = n := ⟨_, rfl⟩
  generalize hfs : stC d e = st at *
  obtain ⟨LL, hL⟩ : ∃ LL, lvL K st (N + 2) [] [0] = LL := ⟨_, rfl⟩
  rw [hL]
  refine Pure.of_sw 96 Tryz.func21 rfl Tryz.ntmps21 (by kernel_rfl) (Nat.le_of_ble_eq_true (by kernel_rfl)) (by simp [closeds, AV.closed, aSs_closed, aIs_closed, aBs_closed, aRs_closed, aDen_closed, aCs_closed, aAut_closed]) (by simp [AV.closed, closeds, aSs_closed, aIs_closed, aBs_closed, aRs_closed, aDen_closed, aCs_closed, aAut_closed]) ?_; refine SW.of_vc ?_
  repeat first | refine opsStep ?_ | refine codeStep ?_ | refine drawStep ?_
  refine guardE_of ⟨by show 0 ≤ IntKind.wrap .i64 _; rw [hwm]; omega, Int.le_refl _, by show (1 : Int) * IntKind.wrap .i64 _ ≤ _; rw [hwm]; omega, by show IntKind.wrap .i64 _ ≤ _; rw [hwm]; omega⟩ ?_
  repeat first | refine opsStep ?_ | refine codeStep ?_ | refine drawStep ?_
  have hm0 : Ent ⟨96, 0⟩ (fr [(1, .ref 0 0 0), (3, .int .i64 (e.accept.length : Nat)), (4, .hs 1 0 0 N 1), (5, .hs 2 0 0 1 1), (6, .sl .nil 0 [])]) [.cells 0 (d.cells ++ e.cells), .cells 0 ((metB N []).map .bool), .cells 0 [.int .i64 0]]
      (fr [(1, .ref 0 0 0), (3, .int .i64 (e.accept.length : Nat)), (4, .hs 1 0 0 N 1), (5, .sl .any 1 (iW [0])), (6, .hs 2 0 0 0 1)]) [.cells 0 (d.cells ++ e.cells), .cells 0 ((metB N []).map .bool), .cells 0 []] := by
    refine (Ent.freeze (b := 2) (g := 0) (n := 1) (es := 1) (cs := [.int .i64 0]) 5 rfl rfl rfl).trans ?_
    refine (Ent.frD (l := [(1, .ref 0 0 0), (3, .int .i64 (e.accept.length : Nat)), (4, .hs 1 0 0 N 1), (5, .sl .any 1 [.int .i64 0]), (6, .sl .nil 0 [])]) (H' := [.cells 0 (d.cells ++ e.cells), .cells 0 ((metB N []).map .bool)]) (X := [.fro 0 [.int .i64 0]]) ⟨(by kernel_rfl), (by kernel_rfl), (by kernel_rfl), (by kernel_rfl), (by kernel_rfl), trivial⟩ (by kernel_rfl) (Nat.zero_le _) (by simp [frBel, AV.bel, bels]) (by simp [blksBel, Blk.bel, bels_append, cells_bel, bels_map, AV.bel])).trans ?_
    exact (Ent.nil 6 1 rfl).trans (Ent.fr' ⟨(by kernel_rfl), (by kernel_rfl), (by kernel_rfl), (by kernel_rfl), (by kernel_rfl), trivial⟩ (by kernel_rfl))
  refine loopE_of (ι := {x : List Nat × List Nat × List (List Nat) × Nat // x.2.2.1 ++ lvL K st x.2.2.2 x.1 x.2.1 = LL ∧ lvEnough N x.2.2.2 x.1 x.2.1 ∧ (∀ y ∈ x.1, y < N) ∧ (∀ y ∈ x.2.1, y < N) ∧ x.1.Nodup ∧ x.2.2.1.length + x.2.2.2 = N + 2 ∧ x.2.1.length ≤ N})
    (fun x => (fr [(1, .ref 0 0 0), (3, .int .i64 (e.accept.length : Nat)), (4, .hs 1 0 0 N 1), (5, .sl .any x.1.2.1.length (iW x.1.2.1)), (6, .hs 2 x.1.2.2.1.length 0 x.1.2.2.1.length 1)], [.cells 0 (d.cells ++ e.cells), .cells 0 ((metB N x.1.1).map .bool), .cells x.1.2.2.1.length (rowsA x.1.2.2.1)])) (fun x => x.1.2.2.2)
    ⟨([], [0], [], N + 2), hL, .inr (by simp), by simp, by simpa using hpos, List.nodup_nil, by simp, by show 1 ≤ N; omega⟩ (((Ent.fr' (l := [(1, .ref 0 0 0), (3, .int .i64 (e.accept.length : Nat)), (4, .hs 1 0 0 N 1), (5, .hs 2 0 0 1 1), (6, .sl .nil 0 [])]) (H' := [.cells 0 (d.cells ++ e.cells), .cells 0 ((metB N []).map .bool), .cells 0 [.int .i64 0]]) ⟨(by kernel_rfl), (by kernel_rfl), ?_, (by kernel_rfl), (by kernel_rfl), trivial⟩ ?_).trans hm0).trans (Ent.fr' ⟨(by kernel_rfl), (by kernel_rfl), (by kernel_rfl), (by kernel_rfl), (by kernel_rfl), trivial⟩ (by kernel_rfl))) ?_
  · refine Eq.trans (b := .hs 1 0 0 (IntKind.wrap .i64 ((d.accept.length : Int) * (e.accept.length : Int))).toNat 1) (by kernel_rfl) ?_
    rw [hwm]; simp
  · refine Eq.trans (b := [.cells 0 (d.cells ++ e.cells), .cells 0 (reps [.bool false] (IntKind.wrap .i64 ((d.accept.length : Int) * (e.accept.length : Int))).toNat), .cells 0 [.int .i64 0]]) (by kernel_rfl) ?_
    rw [hwm, reps_one, metB_nil]; simp
  rintro ⟨⟨M, last, out, fuel⟩, hout, hen, hMN, hlN, hMd, hofl, hll⟩
  simp only at hout hen hMN hlN hMd hofl hll
  repeat first | refine opsStep ?_ | refine codeStep ?_ | refine drawStep ?_
  refine decB_dec (fun h => ?_) (fun h => ?_)
  · have hlast : last ≠ [] := by intro e; subst e; simp at h
    obtain ⟨f, rfl⟩ : ∃ f, fuel = f + 1 := by rcases hen with h' | h'; exact absurd h' hlast; exact ⟨fuel - 1, by omega⟩
    have hSN : ∀ y ∈ lvS K st M last, y < N := fun y hy => by
      rcases (lvS_mem K st M last y).1 hy with h | ⟨x, hx, a, ha, rfl⟩
      · exact hMN y h
      · exact hst x a (hlN x hx) ha
    have hSd : (lvS K st M last).Nodup := metL_nodup _ _ hMd
    have hSl : (lvS K st M last).length ≤ N := nodup_le hSd hSN
    have hen' := hen.next K st hlast hSl
    rw [lvL_cons K st hlast] at hout
    have hpre := lvS_pre K st M last
    obtain ⟨nx, hnx⟩ : ∃ nx, (lvS K st M last).drop M.length = nx := ⟨_, rfl⟩
    have hmetle : ∀ (l : List Nat) (m : Nat), lvS K st M last = metL M l → (metL M (l.take m)).length ≤ N := fun l m e => by
      obtain ⟨r, hr⟩ := metL_prefix (l.drop m) (metL M (l.take m))
      rw [← metL_append, List.take_append_drop, ← e] at hr
      rw [hr, List.length_append] at hSl
      omega
    repeat first | refine opsStep ?_ | refine codeStep ?_ | refine drawStep ?_
    refine loopE_of (ι := {x : Nat × List Nat // M ++ x.2 = metL M ((last.take x.1).flatMap (tosC K st)) ∧ x.1 ≤ last.length})
      (fun x => (fr [(1, .ref 0 0 0), (3, .int .i64 (e.accept.length : Nat)), (4, .hs 1 0 0 N 1), (5, .sl .any last.length (iW last)), (6, .hs 2 out.length 0 out.length 1), (7, .hs 3 x.1.2.length 0 x.1.2.length 1), (8, .int .i64 (x.1.1 : Nat))],
        [.cells 0 (d.cells ++ e.cells), .cells 0 ((metB N (M ++ x.1.2)).map .bool), .cells out.length (rowsA out), .cells x.1.2.length (iW x.1.2)])) (fun x => last.length - x.1.1)
      ⟨(0, []), by simp [metL], Nat.zero_le _⟩
      (((Ent.fr' (l := [(1, .ref 0 0 0), (3, .int .i64 (e.accept.length : Nat)), (4, .hs 1 0 0 N 1), (5, .sl .any last.length (iW last)), (6, .hs 2 out.length 0 out.length 1), (7, .sl .nil 0 []), (8, .int .i64 (0 : Nat))]) (H' := [.cells 0 (d.cells ++ e.cells), .cells 0 ((metB N M).map .bool), .cells out.length (rowsA out)]) ⟨(by kernel_rfl), (by kernel_rfl), (by kernel_rfl), (by kernel_rfl), (by kernel_rfl), (by kernel_rfl), (by kernel_rfl), trivial⟩ (by kernel_rfl)).trans (Ent.nil 7 1 rfl)).trans (Ent.fr' ⟨(by kernel_rfl), (by kernel_rfl), (by kernel_rfl), (by kernel_rfl), (by kernel_rfl), (by kernel_rfl), (by kernel_rfl), trivial⟩ ?_)) ?_
    · refine Eq.trans (b := [.cells 0 (d.cells ++ e.cells), .cells 0 ((metB N M).map .bool), .cells out.length (rowsA out), .cells 0 []]) (by kernel_rfl) ?_
      show _ = [Blk.cells 0 (d.cells ++ e.cells), Blk.cells 0 ((metB N (M ++ [])).map .bool), Blk.cells out.length (rowsA out), Blk.cells 0 []]
      rw [List.append_nil]
    rintro ⟨⟨i, nx1⟩, hnx1, hi⟩
    simp only at hnx1 hi
    have hM1N : ∀ y ∈ M ++ nx1, y < N := fun y hy => by
      rw [hnx1] at hy
      rcases (metL_mem y _ M).1 hy with h | h
      · exact hMN y h
      · obtain ⟨x, hx, ha⟩ := List.mem_flatMap.1 h
        obtain ⟨a, ha1, rfl⟩ := List.mem_map.1 ha
        exact hst x a (hlN x (List.mem_of_mem_take hx)) (List.mem_range.1 ha1)
    have hM1d : (M ++ nx1).Nodup := by rw [hnx1]; exact metL_nodup _ _ hMd
    have hM1l := nodup_le hM1d hM1N
    repeat first | refine opsStep ?_ | refine codeStep ?_ | refine drawStep ?_
    refine decB_dec (fun hi2 => ?_) (fun hi2 => ?_)
    · have hil : i < last.length := by have := hi2; simp at this; omega
      have hx := hlN _ (List.getElem_mem hil)
      have hgx : (iW last)[i]? = some (.int .i64 (last[i] : Nat)) := by simp [iW, hil]
      have htk : last.take (i + 1) = last.take i ++ [last[i]] := List.take_succ_eq_append_getElem hil
      generalize last[i] = x at *
      obtain ⟨r1, r2, g1, g2, g3, g4, g5, g6, g7⟩ := hrow x hx
      have hn0 : ¬ ((e.accept.length : Nat) : Int) = 0 := by omega
      have w1 : IntKind.wrap .i64 (((x : Nat) : Int).tdiv (e.accept.length : Nat)) = ((x / e.accept.length : Nat) : Int) := by
        rw [show ((x : Nat) : Int).tdiv (e.accept.length : Nat) = ((x / e.accept.length : Nat) : Int) from rfl]
        have := Nat.div_le_self x e.accept.length
        generalize x / e.accept.length = y at *
        rw [IntWalk.i64_in _ (by omega)]
      have w2 : ((x : Nat) : Int).tmod (e.accept.length : Nat) = ((x % e.accept.length : Nat) : Int) := rfl
      generalize x / e.accept.length = p1 at *
      generalize x % e.accept.length = p2 at *
      repeat first | refine opsStep ?_ | refine codeStep ?_ | refine drawStep ?_
      refine SW.drawn rfl (by kernel_rfl) ?_
      repeat first | refine opsStep ?_ | refine codeStep ?_ | refine drawStep ?_
      refine guardE_of (by simp [iW_length]; omega) ?_
      repeat first | refine opsStep ?_ | refine codeStep ?_ | refine drawStep ?_
      refine optE_of (c := .int .i64 (x : Nat)) (by simpa [Value.cells] using hgx) ?_
      repeat first | refine opsStep ?_ | refine codeStep ?_ | refine drawStep ?_
      refine optE_of (c := .int .i64 p1) (by show (if ((e.accept.length : Nat) : Int) = 0 then none else some (AV.int .i64 (IntKind.wrap .i64 (((x : Nat) : Int).tdiv (e.accept.length : Nat))))) = _; rw [if_neg hn0, w1]) ?_
      repeat first | refine opsStep ?_ | refine codeStep ?_ | refine drawStep ?_
      refine guardE_of (by simp [iW_length]; omega) ?_
      repeat first | refine opsStep ?_ | refine codeStep ?_ | refine drawStep ?_
      refine optE_of (c := .int .i64 (x : Nat)) (by simpa [Value.cells] using hgx) ?_
      repeat first | refine opsStep ?_ | refine codeStep ?_ | refine drawStep ?_
      refine optE_of (c := .int .i64 p2) (by show (if ((e.accept.length : Nat) : Int) = 0 then none else some (AV.int .i64 (((x : Nat) : Int).tmod (e.accept.length : Nat)))) = _; rw [if_neg hn0, w2]) ?_
      repeat first | refine opsStep ?_ | refine codeStep ?_ | refine drawStep ?_
      refine ⟨by kernel_rfl, ?_⟩
      repeat first | refine opsStep ?_ | refine codeStep ?_ | refine drawStep ?_
      refine loopE_of (ι := {y : Nat × List Nat // M ++ y.2 = metL (M ++ nx1) ((tosC K st x).take y.1) ∧ y.1 ≤ K})
        (fun y => (fr [(1, .ref 0 0 0), (3, .int .i64 (e.accept.length : Nat)), (4, .hs 1 0 0 N 1), (5, .sl .any last.length (iW last)), (6, .hs 2 out.length 0 out.length 1), (7, .hs 3 y.1.2.length 0 y.1.2.length 1), (8, .int .i64 (i : Nat)), (9, .int .i64 p1), (10, .int .i64 p2), (11, .int .i64 (y.1.1 : Nat))],
          [.cells 0 (d.cells ++ e.cells), .cells 0 ((metB N (M ++ y.1.2)).map .bool), .cells out.length (rowsA out), .cells y.1.2.length (iW y.1.2)])) (fun y => K - y.1.1)
        ⟨(0, nx1), by simp [metL], Nat.zero_le _⟩ (Ent.fr' ⟨(by kernel_rfl), (by kernel_rfl), (by kernel_rfl), (by kernel_rfl), (by kernel_rfl), (by kernel_rfl), (by kernel_rfl), (by kernel_rfl), (by kernel_rfl), (by kernel_rfl), trivial⟩ (by kernel_rfl)) ?_
      rintro ⟨⟨a, nx2⟩, hnx2, ha⟩
      simp only at hnx2 ha
      have hM2N : ∀ y ∈ M ++ nx2, y < N := fun y hy => by
        rw [hnx2] at hy
        rcases (metL_mem y _ _).1 hy with h | h
        · exact hM1N y h
        · obtain ⟨a, ha1, rfl⟩ := List.mem_map.1 (List.mem_of_mem_take h)
          exact hst x a hx (List.mem_range.1 ha1)
      have hM2d : (M ++ nx2).Nodup := by rw [hnx2]; exact metL_nodup _ _ hM1d
      have hM2l := nodup_le hM2d hM2N
      rw [List.length_append] at hM2l
      repeat first | refine opsStep ?_ | refine codeStep ?_ | refine drawStep ?_
      refine guardE_of (by simp; omega) ?_
      repeat first | refine opsStep ?_ | refine codeStep ?_ | refine drawStep ?_
      refine optE_of (c := aIs r1.1 r1.2) (by simp [Value.cells, g1]) ?_
      repeat first | refine opsStep ?_ | refine codeStep ?_ | refine drawStep ?_
      refine decB_dec (fun ha2 => ?_) (fun ha2 => ?_)
      · have hal : a < K := by rw [← g3]; exact Int.ofNat_lt.1 (show ((a : Nat) : Int) < ((r1.2.length : Nat) : Int) from ha2)
        obtain ⟨c1, c2, q1, q2, q3, q4, q5⟩ := g7 a hal
        have hto := hst x a hx hal
        have htl : (tosC K st x).length = K := tosC_length K st x
        have hta : (tosC K st x)[a]'(by rw [htl]; exact hal) = st x a := tosC_get K st x a _
        have hhit := metL_at_hit (acc := M ++ nx1) (l := tosC K st x) (a := a) (by rw [htl]; exact hal)
        have hmiss := metL_at_miss (acc := M ++ nx1) (l := tosC K st x) (a := a) (by rw [htl]; exact hal)
        rw [hta, ← hnx2] at hhit hmiss
        have hmg := metB_get (M := M ++ nx2) hto
        have hms := metB_set N (M ++ nx2) (st x a)
        have hcb : c1 * e.accept.length ≤ 256 * 256 := Nat.mul_le_mul (by omega) (by omega)
        have w3 : IntKind.wrap .i64 ((c1 : Int) * (e.accept.length : Int)) = ((c1 * e.accept.length : Nat) : Int) := by
          rw [← Int.natCast_mul]
          generalize c1 * e.accept.length = z at *
          rw [IntWalk.i64_in _ (by omega)]
        have w4 : IntKind.wrap .i64 (((c1 * e.accept.length : Nat) : Int) + (c2 : Int)) = ((st x a : Nat) : Int) := by
          rw [← Int.natCast_add, q3, IntWalk.i64_in _ (by omega)]
        generalize st x a = to at *
        repeat first | refine opsStep ?_ | refine codeStep ?_ | refine drawStep ?_
        refine SW.drawn rfl (by kernel_rfl) ?_
        repeat first | refine opsStep ?_ | refine codeStep ?_ | refine drawStep ?_
        refine guardE_of (by simp; omega) ?_
        repeat first | refine opsStep ?_ | refine codeStep ?_ | refine drawStep ?_
        refine optE_of (c := aIs r1.1 r1.2) (by simp [Value.cells, g1]) ?_
        repeat first | refine opsStep ?_ | refine codeStep ?_ | refine drawStep ?_
        refine guardE_of (by simp; omega) ?_
        repeat first | refine opsStep ?_ | refine codeStep ?_ | refine drawStep ?_
        refine optE_of (c := .int .i64 (c1 : Nat)) (by simp [Value.cells, q1]) ?_
        repeat first | refine opsStep ?_ | refine codeStep ?_ | refine drawStep ?_
        refine guardE_of (by simp; omega) ?_
        repeat first | refine opsStep ?_ | refine codeStep ?_ | refine drawStep ?_
        refine optE_of (c := aIs r2.1 r2.2) (by simp [Value.cells, g2]) ?_
        repeat first | refine opsStep ?_ | refine codeStep ?_ | refine drawStep ?_
        refine guardE_of (by simp; omega) ?_
        repeat first | refine opsStep ?_ | refine codeStep ?_ | refine drawStep ?_
        refine optE_of (c := .int .i64 (c2 : Nat)) (by simp [Value.cells, q2]) ?_
        repeat first | refine opsStep ?_ | refine codeStep ?_ | refine drawStep ?_
        refine ⟨by kernel_rfl, ?_⟩
        refine VCode.ent (Ent.fr' (l := [(1, .ref 0 0 0), (3, .int .i64 (e.accept.length : Nat)), (4, .hs 1 0 0 N 1), (5, .sl .any last.length (iW last)), (6, .hs 2 out.length 0 out.length 1), (7, .hs 3 nx2.length 0 nx2.length 1), (8, .int .i64 (i : Nat)), (9, .int .i64 p1), (10, .int .i64 p2), (11, .int .i64 (a : Nat)), (12, .int .i64 (to : Nat))]) (H' := [.cells 0 (d.cells ++ e.cells), .cells 0 ((metB N (M ++ nx2)).map .bool), .cells out.length (rowsA out), .cells nx2.length (iW nx2)]) ⟨(by kernel_rfl), (by kernel_rfl), (by kernel_rfl), (by kernel_rfl), (by kernel_rfl), (by kernel_rfl), (by kernel_rfl), (by kernel_rfl), (by kernel_rfl), (by kernel_rfl), (Eq.trans (b := .int .i64 (IntKind.wrap .i64 (IntKind.wrap .i64 ((c1 : Int) * (e.accept.length : Int)) + (c2 : Int)))) (by kernel_rfl) (by rw [w3, w4])), trivial⟩ (by kernel_rfl)) ?_
        have hmlen := metB_length N (M ++ nx2)
        by_cases hm : to ∈ M ++ nx2
        · obtain ⟨hh, _⟩ := hhit hm
          rw [decide_eq_true hm] at hmg
          repeat first | refine opsStep ?_ | refine codeStep ?_ | refine drawStep ?_
          refine guardE_of (by simp; omega) ?_
          repeat first | refine opsStep ?_ | refine codeStep ?_ | refine drawStep ?_
          refine optE_of (c := .bool true) (by simpa [Value.cells] using hmg) ?_
          repeat first | refine opsStep ?_ | refine codeStep ?_ | refine drawStep ?_
          exact ⟨⟨(a + 1, nx2), hh.symm, hal⟩, (by show K - (a + 1) < K - a; omega), Ent.fr' ⟨(by kernel_rfl), (by kernel_rfl), (by kernel_rfl), (by kernel_rfl), (by kernel_rfl), (by kernel_rfl), (by kernel_rfl), (by kernel_rfl), (by kernel_rfl), inc_slot (i := a) (by omega), trivial⟩ (by kernel_rfl)⟩
        · obtain ⟨hh, _⟩ := hmiss hm
          rw [decide_eq_false hm] at hmg
          repeat first | refine opsStep ?_ | refine codeStep ?_ | refine drawStep ?_
          refine guardE_of (by simp; omega) ?_
          repeat first | refine opsStep ?_ | refine codeStep ?_ | refine drawStep ?_
          refine optE_of (c := .bool false) (by simpa [Value.cells] using hmg) ?_
          repeat first | refine opsStep ?_ | refine codeStep ?_ | refine drawStep ?_
          refine guardE_of (by simp; omega) ?_
          repeat first | refine opsStep ?_ | refine codeStep ?_ | refine drawStep ?_
          refine guardE_of ⟨rfl, by decide, by show 0 + to * 1 + 1 ≤ ((metB N (M ++ nx2)).map AV.bool).length; rw [List.length_map, hmlen]; omega⟩ ?_
          repeat first | refine opsStep ?_ | refine codeStep ?_ | refine drawStep ?_
          refine guardE_of ⟨rfl, by simp [iW_length]⟩ ?_
          refine guardE_of rfl ?_
          refine guardE_of ⟨by show nx2.length + 1 ≤ 9223372036854775807; omega, by show (nx2.length + 1) * 8 ≤ 140737488355328; omega⟩ ?_
          repeat first | refine opsStep ?_ | refine codeStep ?_ | refine drawStep ?_
          refine ⟨⟨(a + 1, nx2 ++ [to]), by rw [hh, List.append_assoc], hal⟩, (by show K - (a + 1) < K - a; omega), ?_⟩
          refine Ent.to (Ent.frT (H' := [.cells 0 (d.cells ++ e.cells), .cells 0 (over ((metB N (M ++ nx2)).map .bool) (0 + to * 1) [.bool true]), .cells out.length (rowsA out), .cells (nx2.length + 1) (((iW nx2).drop 0).take (nx2.length * 1) ++ [.int .i64 (to : Nat)])]) 4 ⟨(by kernel_rfl), (by kernel_rfl), (by kernel_rfl), (by kernel_rfl), (by kernel_rfl), ?_, (by kernel_rfl), (by kernel_rfl), (by kernel_rfl), inc_slot (i := a) (by omega), trivial⟩ (by kernel_rfl) (Nat.zero_le _) (by simp [frBel, AV.bel, bels, iW_bel]) ?_) ?_
          · refine Eq.trans (b := .hs 3 (nx2.length + 1) 0 (nx2.length + 1) 1) (by kernel_rfl) ?_
            simp
          · simp only [blksBel, Blk.bel, bels_append]
            exact ⟨⟨cells_bel _ _, cells_bel _ _⟩, by rw [Nat.zero_add, Nat.mul_one, over_one (by rw [List.length_map, hmlen]; exact hto), show AV.bool true = AV.bool true from rfl, ← List.map_set, bels_map]; intro x _; trivial, rowsA_bel _ _, ⟨bels_td (iW_bel _ _), by simp [bels, AV.bel]⟩, trivial⟩
          · rw [td_all (l := iW nx2) (by rw [iW_length]; omega), Nat.zero_add, Nat.mul_one, over_one (by rw [List.length_map, hmlen]; exact hto), ← List.map_set, hms, ← iW_snoc]
            show _ = [Blk.cells 0 (d.cells ++ e.cells), Blk.cells 0 ((metB N (M ++ (nx2 ++ [to]))).map .bool), Blk.cells out.length (rowsA out), Blk.cells (nx2 ++ [to]).length (iW (nx2 ++ [to]))]
            rw [List.append_assoc, List.length_append, List.length_singleton]
      · have hae : a = K := by
          have : ¬ a < r1.2.length := fun h => ha2 (show ((a : Nat) : Int) < ((r1.2.length : Nat) : Int) from Int.ofNat_lt.2 h)
          omega
        subst hae
        rw [List.take_of_length_le (by rw [tosC_length]; exact Nat.le_refl _)] at hnx2
        repeat first | refine opsStep ?_ | refine codeStep ?_ | refine drawStep ?_
        refine ⟨⟨(i + 1, nx2), ?_, hil⟩, (by show last.length - (i + 1) < last.length - i; omega), Ent.fr' ⟨(by kernel_rfl), (by kernel_rfl), (by kernel_rfl), (by kernel_rfl), (by kernel_rfl), (by kernel_rfl), inc_slot (i := i) (by omega), trivial⟩ (by kernel_rfl)⟩
        show M ++ nx2 = metL M ((last.take (i + 1)).flatMap (tosC a st))
        rw [htk, List.flatMap_append, metL_append, ← hnx1, hnx2]
        simp
    · have hie : i = last.length := by have := hi2; simp at this; omega
      subst hie
      rw [List.take_length] at hnx1
      have hnxe : (lvS K st M last).drop M.length = nx1 := by rw [lvS, ← hnx1]; simp
      have hSe : lvS K st M last = M ++ nx1 := by rw [hpre, hnxe]
      rw [hnxe, hSe] at hout
      rw [hnxe, hSe] at hen'
      rw [List.length_append] at hM1l
      repeat first | refine opsStep ?_ | refine codeStep ?_ | refine drawStep ?_
      refine guardE_of ⟨rfl, by simp [rowsA]⟩ ?_
      refine guardE_of rfl ?_
      refine guardE_of ⟨by show out.length + 1 ≤ 9223372036854775807; omega, by show (out.length + 1) * 24 ≤ 140737488355328; omega⟩ ?_
      repeat first | refine opsStep ?_ | refine codeStep ?_ | refine drawStep ?_
      refine ⟨⟨(M ++ nx1, nx1, out ++ [nx1], f), by simp only; rw [← hout, List.append_assoc]; rfl, hen', hM1N, fun y hy => hM1N y (by simp [hy]), hM1d, by simp only [List.length_append, List.length_singleton]; omega, by simp only; omega⟩, (by show f < f + 1; omega), ?_⟩
      refine Ent.rowBoth (l := [(1, .ref 0 0 0), (3, .int .i64 (e.accept.length : Nat)), (4, .hs 1 0 0 N 1), (5, .hs 3 nx1.length 0 nx1.length 1), (6, .hs 2 (out ++ [nx1]).length 0 (out ++ [nx1]).length 1)]) (gb := out.length + 1) (gr := nx1.length) (n := nx1.length) (es := 1) (r := 3) (L := rowsA out) (cs := iW nx1) 5 [.cells 0 (d.cells ++ e.cells), .cells 0 ((metB N (M ++ nx1)).map .bool)]
        ⟨(by kernel_rfl), (by kernel_rfl), (by kernel_rfl), (by kernel_rfl), ?_, trivial⟩ (by kernel_rfl) ?_ (by kernel_rfl) rfl (by kernel_rfl) (by rw [iW_length, Nat.mul_one]) ⟨(by kernel_rfl), (by kernel_rfl), (by kernel_rfl), (by kernel_rfl), (by kernel_rfl), trivial⟩ (Nat.zero_le _) (by simp [frBel, AV.bel, bels, iW_bel]) ?_ (rowsA_bel _ _) (iW_bel _ _) ?_
      · refine Eq.trans (b := .hs 2 (out.length + 1) 0 (out.length + 1) 1) (by kernel_rfl) ?_
        rw [List.length_append, List.length_singleton]
      · refine Eq.trans (b := some (.cells (out.length + 1) (((rowsA out).drop 0).take (out.length * 1) ++ [.hs 3 nx1.length 0 nx1.length 1]))) (by kernel_rfl) ?_
        rw [td_all (l := rowsA out) (by simp [rowsA])]
      · simp only [blksBel, Blk.bel, bels_append]
        exact ⟨⟨cells_bel _ _, cells_bel _ _⟩, by rw [bels_map]; intro x _; trivial, trivial⟩
      · show _ = [Blk.cells 0 (d.cells ++ e.cells), Blk.cells 0 ((metB N (M ++ nx1)).map .bool), Blk.cells (out ++ [nx1]).length (rowsA (out ++ [nx1]))]
        simp [rowsA, rowA]
  · have hlast : last = [] := by
      have h' : ¬ 0 < last.length := fun h' => h (show ((last.length : Nat) : Int) > 0 by omega)
      exact List.length_eq_zero_iff.1 (by omega)
    subst hlast
    rw [lvL_nil, List.append_nil] at hout
    subst hout
    repeat first | refine opsStep ?_ | refine codeStep ?_ | refine drawStep ?_
    exact finFrz 2 (b := 2) (g := out.length) (es := 1) (by kernel_rfl) (by kernel_rfl) (by simp [rowsA]) rfl

end Tab

/- tabardref21: Length, walked; what it says. -/
namespace Tab
open Go Go.Proofs
set_option maxRecDepth 10000
set_option linter.unusedVariables false
set_option linter.unusedSimpArgs false
set_option linter.unusedSectionVars false

theorem stC_code {d e : Den} {p : N2} (hp : p.2 < e.accept.length) (a : Nat) : stC d e (p.1 * e.accept.length + p.2) a = (stp d e p a).1 * e.accept.length + (stp d e p a).2 := by
  have h1 : (p.1 * e.accept.length + p.2) / e.accept.length = p.1 := by rw [Nat.mul_comm, Nat.mul_add_div (by omega), Nat.div_eq_of_lt hp]; omega
  have h2 : (p.1 * e.accept.length + p.2) % e.accept.length = p.2 := by rw [Nat.mul_comm, Nat.mul_add_mod, Nat.mod_eq_of_lt hp]
  rw [stC, h1, h2]; rfl
theorem tellC_code {d e : Den} {p : N2} (q : Int) (hp : p.2 < e.accept.length) : tellC d e q (p.1 * e.accept.length + p.2) = askP d e (askQ q) p := by
  have h1 : (p.1 * e.accept.length + p.2) / e.accept.length = p.1 := by rw [Nat.mul_comm, Nat.mul_add_div (by omega), Nat.div_eq_of_lt hp]; omega
  have h2 : (p.1 * e.accept.length + p.2) % e.accept.length = p.2 := by rw [Nat.mul_comm, Nat.mul_add_mod, Nat.mod_eq_of_lt hp]
  rw [tellC, h1, h2]; rfl
theorem stp_ok {d e : Den} (hd : rightS d = true) (he : rightS e = true) (hk : d.tracks.length = e.tracks.length) {p : N2} {a : Nat} (hp : okP d e p) (ha : a < 2 ^ d.tracks.length) : okP d e (stp d e p a) :=
  ⟨(stepN_ok hd hp.1 ha).2.2.2, (stepN_ok he hp.2 (by rw [← hk]; exact ha)).2.2.2⟩
theorem runC_code {d e : Den} (hd : rightS d = true) (he : rightS e = true) (hk : d.tracks.length = e.tracks.length) : ∀ (w : List Nat) (p : N2), okP d e p → (∀ x ∈ w, x < 2 ^ d.tracks.length) →
    okP d e (w.foldl (stp d e) p) ∧ w.foldl (stC d e) (p.1 * e.accept.length + p.2) = (w.foldl (stp d e) p).1 * e.accept.length + (w.foldl (stp d e) p).2
  | [], p, hp, _ => ⟨hp, rfl⟩
  | a :: w, p, hp, hw => by
    have hs := stp_ok hd he hk hp (hw a (by simp))
    simp only [List.foldl_cons]
    rw [stC_code hp.2]
    exact runC_code hd he hk w _ hs fun x hx => hw x (by simp [hx])
/-- What is told of the place of a word. -/
theorem tell_word {d e : Den} (hd : rightS d = true) (he : rightS e = true) (hk : d.tracks.length = e.tracks.length) (q : Int) {w : List Nat} (hw : ∀ x ∈ w, x < 2 ^ d.tracks.length) :
    runG (stC d e) 0 w < d.accept.length * e.accept.length ∧ tellC d e q (runG (stC d e) 0 w) = askT d e (askQ q) w := by
  have h0 : okP d e (0, 0) := ⟨right_pos hd, right_pos he⟩
  obtain ⟨h1, h2⟩ := runC_code hd he hk w (0, 0) h0 hw
  have e0 : (0 : Nat) * e.accept.length + 0 = 0 := by omega
  rw [e0] at h2
  rw [runG, h2]
  exact ⟨pair_lt h1.1 h1.2, tellC_code q h1.2⟩

theorem rch_sound {d e : Den} {j : Nat} {row : List Nat} (h : (rchL d e)[j]? = some row) {x : Nat} (hx : x ∈ row) : ∃ w : List Nat, w.length = j + 1 ∧ (∀ a ∈ w, a < 2 ^ d.tracks.length) ∧ runG (stC d e) 0 w = x := by
  rw [rchL] at h
  obtain ⟨w, h1, h2⟩ := lvL_sound _ _ _ 0 _ _ (fun x hx => by simp at hx; subst hx; exact ⟨[], rfl, by simp, rfl⟩) j row h x hx
  exact ⟨w, by omega, h2⟩
theorem rch_cover {d e : Den} (hd : rightS d = true) (he : rightS e = true) (hk : d.tracks.length = e.tracks.length) {v : List Nat} (hv : v ≠ []) (hl : ∀ a ∈ v, a < 2 ^ d.tracks.length) : ∃ (j : Nat) (row : List Nat), (rchL d e)[j]? = some row ∧ runG (stC d e) 0 v ∈ row ∧ j + 1 ≤ v.length := by
  have hpe := right_pos he
  have hpos : 0 < d.accept.length * e.accept.length := Nat.mul_pos (right_pos hd) hpe
  rw [rchL]
  rcases lvL_cover (2 ^ d.tracks.length) (stC d e) (d.accept.length * e.accept.length) (d.accept.length * e.accept.length + 2) [] [0] [] (.inr (by simp)) (by simp) (by simp) (fun _ _ _ _ => trivial) (by simp) (by simpa using hpos) List.nodup_nil
    (fun x a hx ha => by
      obtain ⟨h1, h2⟩ := divmod_lt hx hpe
      exact pair_lt (stepN_ok hd h1 ha).2.2.2 (stepN_ok he h2 (by rw [← hk]; exact ha)).2.2.2) v hv hl 0 (.inr (by simp)) with h | h
  · simp at h
  · exact h
theorem rch_lt {d e : Den} (hd : rightS d = true) (he : rightS e = true) (hk : d.tracks.length = e.tracks.length) {j : Nat} {row : List Nat} (h : (rchL d e)[j]? = some row) {x : Nat} (hx : x ∈ row) : x < d.accept.length * e.accept.length := by
  obtain ⟨w, _, h2, rfl⟩ := rch_sound h hx
  exact (tell_word hd he hk 0 h2).1

theorem lvL_len (K : Nat) (st : Nat → Nat → Nat) : ∀ (n : Nat) (M last : List Nat), (lvL K st n M last).length ≤ n
  | 0, _, _ => by simp [lvL]
  | n + 1, M, last => by
    rw [lvL]
    split
    · simp
    · have := lvL_len K st n (lvS K st M last) ((lvS K st M last).drop M.length)
      simp; exact this
theorem lvL_nodup (K : Nat) (st : Nat → Nat → Nat) : ∀ (n : Nat) (M last : List Nat), M.Nodup → ∀ r ∈ lvL K st n M last, r.Nodup
  | 0, _, _, _, r, h => by simp [lvL] at h
  | n + 1, M, last, hM, r, h => by
    rw [lvL] at h
    split at h
    · simp at h
    · have hS : (lvS K st M last).Nodup := metL_nodup _ _ hM
      rcases List.mem_cons.1 h with h | h
      · rw [h]; exact hS.sublist (List.drop_sublist _ _)
      · exact lvL_nodup K st n _ _ hS r h
theorem rch_small {d e : Den} (hd : rightS d = true) (he : rightS e = true) (hk : d.tracks.length = e.tracks.length) : (rchL d e).length < 2 ^ 40 ∧ ∀ (j : Nat) (r : List Nat), (rchL d e)[j]? = some r → r.length < 2 ^ 40 := by
  obtain ⟨_, _, _, d256⟩ := tracksS_parts (rightS_parts hd).1
  obtain ⟨_, _, _, e256⟩ := tracksS_parts (rightS_parts he).1
  have hNN : d.accept.length * e.accept.length ≤ 256 * 256 := Nat.mul_le_mul (by omega) (by omega)
  refine ⟨?_, fun j r h => ?_⟩
  · have := lvL_len (2 ^ d.tracks.length) (stC d e) (d.accept.length * e.accept.length + 2) [] [0]
    rw [rchL]; omega
  · have h1 := nodup_le (n := d.accept.length * e.accept.length) (by rw [rchL] at h; exact lvL_nodup _ _ _ _ _ List.nodup_nil r (List.mem_of_getElem? h)) fun x hx => rch_lt hd he hk h hx
    omega

/-- The first level with a place that is told of. -/
def levF (p : Nat → Bool) : List (List Nat) → Nat → Nat
  | [], _ => 0
  | r :: L, i => if r.any p = true then i + 1 else levF p L (i + 1)
theorem levF_zero {p : Nat → Bool} : ∀ {L : List (List Nat)} {i : Nat}, levF p L i = 0 ↔ ∀ r ∈ L, r.any p = false
  | [], i => by simp [levF]
  | r :: L, i => by
    rw [levF]
    cases h : r.any p with
    | true =>
      constructor
      · intro h0; rw [if_pos rfl] at h0; omega
      · intro h0; have := h0 r (by simp); rw [h] at this; simp at this
    | false =>
      rw [if_neg (by simp), levF_zero]
      simp only [List.mem_cons, forall_eq_or_imp, h, true_and]
theorem levF_some {p : Nat → Bool} : ∀ {L : List (List Nat)} {i : Nat}, levF p L i ≠ 0 → ∃ j r, levF p L i = i + j + 1 ∧ L[j]? = some r ∧ r.any p = true ∧ ∀ j' r', j' < j → L[j']? = some r' → r'.any p = false
  | [], i, h => by simp [levF] at h
  | r :: L, i, h => by
    rw [levF] at h ⊢
    cases hr : r.any p with
    | true => exact ⟨0, r, by simp, rfl, hr, fun j' _ h => by omega⟩
    | false =>
      rw [hr, if_neg (by simp)] at h
      obtain ⟨j, r', h1, h2, h3, h4⟩ := levF_some h
      refine ⟨j + 1, r', by rw [if_neg (by simp), h1]; omega, by simpa using h2, h3, fun j' r1 hj h5 => ?_⟩
      cases j' with
      | zero => simp at h5; subst h5; exact hr
      | succ j' => exact h4 j' r1 (by omega) (by simpa using h5)
def lenC (d e : Den) (q : Int) : Nat := levF (tellC d e q) (rchL d e) 0
theorem lenC_none {d e : Den} (hd : rightS d = true) (he : rightS e = true) (hk : d.tracks.length = e.tracks.length) (q : Int) (h : cmpO d e (askQ q) = none) : lenC d e q = 0 := by
  have hs := cmpO_spec d e (askQ q) hd he hk
  rw [h] at hs
  refine levF_zero.2 fun r hr => ?_
  obtain ⟨j, hj, e1⟩ := List.getElem_of_mem hr
  rw [List.any_eq_false]
  intro x hx
  obtain ⟨w, h1, h2, rfl⟩ := rch_sound (by rw [List.getElem?_eq_getElem hj, e1]) hx
  rw [(tell_word hd he hk q h2).2, hs w (by intro e; subst e; simp at h1) h2]
  simp
theorem lenC_some {d e : Den} (hd : rightS d = true) (he : rightS e = true) (hk : d.tracks.length = e.tracks.length) (q : Int) {w : List Nat} (h : cmpO d e (askQ q) = some w) : lenC d e q = w.length := by
  have hs := cmpO_spec d e (askQ q) hd he hk
  rw [h] at hs
  obtain ⟨h1, h2, h3, h4⟩ := hs
  obtain ⟨j, row, c1, c2, c3⟩ := rch_cover hd he hk h1 h2
  have hany : row.any (tellC d e q) = true := List.any_eq_true.2 ⟨_, c2, by rw [(tell_word hd he hk q h2).2]; exact h3⟩
  have hne : lenC d e q ≠ 0 := fun e0 => by
    have := levF_zero.1 e0 row (List.mem_of_getElem? c1)
    rw [hany] at this; simp at this
  obtain ⟨j', r', f1, f2, f3, f4⟩ := levF_some hne
  obtain ⟨x, x1, x2⟩ := List.any_eq_true.1 f3
  obtain ⟨u, u1, u2, rfl⟩ := rch_sound f2 x1
  rw [(tell_word hd he hk q u2).2] at x2
  have hle := h4 u (by intro e0; subst e0; simp at u1) u2 x2
  have hwu : w.length ≤ u.length := by
    rcases hle with (h | ⟨h, _⟩) | h
    · omega
    · omega
    · subst h; exact Nat.le_refl _
  have : ¬ j < j' := fun hj => by have := f4 j row hj c1; rw [hany] at this; simp at this
  show levF _ _ 0 = _
  rw [f1]; omega
theorem levF_hit {p : Nat → Bool} : ∀ {L : List (List Nat)} {i j : Nat} {r : List Nat}, L[j]? = some r → r.any p = true → (∀ r' ∈ L.take j, r'.any p = false) → levF p L i = i + j + 1
  | [], _, _, _, h, _, _ => by simp at h
  | r0 :: L, i, 0, r, h, hr, _ => by simp at h; subst h; rw [levF, if_pos hr]
  | r0 :: L, i, j + 1, r, h, hr, hn => by
    rw [levF, hn r0 (by simp), if_neg (by simp), levF_hit (by simpa using h) hr fun r' h' => hn r' (by simp [h'])]
    omega

theorem r21_Length (d e : Den) (q : Int) (hd : rightS d = true) (he : rightS e = true) (hk : d.tracks.length = e.tracks.length) :
    Pure Tryz.prog 9 [.agg (d.cells ++ e.cells), .int .i64 q] (.int .i64 (lenC d e q : Nat)) := by
  have hre := r21_Reached d e hd he hk
  obtain ⟨hL, hR⟩ := rch_small hd he hk
  have htold := fun x hx => r21_told d e q hd he x hx
  have hlt := fun (j : Nat) (row : List Nat) h (x : Nat) hx => rch_lt hd he hk (j := j) (row := row) h (x := x) hx
  rw [lenC]
  generalize rchL d e = L at *
  generalize hp : tellC d e q = p at *
  refine Pure.of_sw 37 Tryz.func9 rfl Tryz.ntmps9 (by kernel_rfl) (Nat.le_of_ble_eq_true (by kernel_rfl)) (by simp [closeds, AV.closed, aSs_closed, aIs_closed, aBs_closed, aRs_closed, aDen_closed, aCs_closed, aAut_closed]) (by simp [AV.closed, closeds, aSs_closed, aIs_closed, aBs_closed, aRs_closed, aDen_closed, aCs_closed, aAut_closed]) ?_; refine SW.of_vc ?_
  repeat first | refine opsStep ?_ | refine codeStep ?_ | refine drawStep ?_
  refine callP hre ?_
  repeat first | refine opsStep ?_ | refine codeStep ?_ | refine drawStep ?_
  refine loopE_of (ι := {i : Nat // i ≤ L.length ∧ ∀ r ∈ L.take i, r.any p = false}) (fun i => (fr [(1, .int .i64 q), (2, .ref 0 0 0), (5, .sl .any L.length (rowsA L)), (6, .int .i64 (i.1 : Nat))], [.cells 0 (d.cells ++ e.cells)])) (fun i => L.length - i.1)
    ⟨0, Nat.zero_le _, by simp⟩ (Ent.fr' ⟨(by kernel_rfl), (by kernel_rfl), (by kernel_rfl), (by kernel_rfl), trivial⟩ (by kernel_rfl)) ?_
  rintro ⟨i, hi, hpre⟩
  repeat first | refine opsStep ?_ | refine codeStep ?_ | refine drawStep ?_
  refine decB_dec (fun h => ?_) (fun h => ?_)
  · have hil : i < L.length := by have := h; simp at this; omega
    have hg : L[i]? = some L[i] := List.getElem?_eq_getElem hil
    have hgr : (rowsA L)[i]? = some (rowA L[i]) := by simp [rowsA, hil]
    have hrl : (rowsA L).length = L.length := by simp [rowsA]
    have htk : L.take (i + 1) = L.take i ++ [L[i]] := List.take_succ_eq_append_getElem hil
    have hlt := hlt i L[i] hg
    have hR := hR i L[i] hg
    generalize L[i] = r at *
    repeat first | refine opsStep ?_ | refine codeStep ?_ | refine drawStep ?_
    refine loopE_of (ι := {k : Nat // k ≤ r.length ∧ ∀ x ∈ r.take k, p x = false}) (fun k => (fr [(1, .int .i64 q), (2, .ref 0 0 0), (5, .sl .any L.length (rowsA L)), (6, .int .i64 (i : Nat)), (7, .int .i64 (k.1 : Nat))], [.cells 0 (d.cells ++ e.cells)])) (fun k => r.length - k.1)
      ⟨0, Nat.zero_le _, by simp⟩ (Ent.fr' ⟨(by kernel_rfl), (by kernel_rfl), (by kernel_rfl), (by kernel_rfl), (by kernel_rfl), trivial⟩ (by kernel_rfl)) ?_
    rintro ⟨k, hk2, hpk⟩
    repeat first | refine opsStep ?_ | refine codeStep ?_ | refine drawStep ?_
    refine guardE_of (by simp [hrl]; omega) ?_
    repeat first | refine opsStep ?_ | refine codeStep ?_ | refine drawStep ?_
    refine optE_of (c := rowA r) (by simpa [Value.cells] using hgr) ?_
    repeat first | refine opsStep ?_ | refine codeStep ?_ | refine drawStep ?_
    refine decB_dec (fun h2 => ?_) (fun h2 => ?_)
    · have hkl : k < r.length := Int.ofNat_lt.1 (show ((k : Nat) : Int) < ((r.length : Nat) : Int) from h2)
      have hgx : (iW r)[k]? = some (.int .i64 (r[k] : Nat)) := by simp [iW, hkl]
      have hil2 := iW_length r
      have hxt := htold r[k] (hlt _ (List.getElem_mem hkl))
      have htk2 : r.take (k + 1) = r.take k ++ [r[k]] := List.take_succ_eq_append_getElem hkl
      have hmem : r[k] ∈ r := List.getElem_mem hkl
      generalize r[k] = x at *
      repeat first | refine opsStep ?_ | refine codeStep ?_ | refine drawStep ?_
      refine SW.drawn rfl (by kernel_rfl) ?_
      repeat first | refine opsStep ?_ | refine codeStep ?_ | refine drawStep ?_
      refine guardE_of (by simp [hrl]; omega) ?_
      repeat first | refine opsStep ?_ | refine codeStep ?_ | refine drawStep ?_
      refine optE_of (c := rowA r) (by simpa [Value.cells] using hgr) ?_
      repeat first | refine opsStep ?_ | refine codeStep ?_ | refine drawStep ?_
      refine guardE_of (by simp [hil2]; omega) ?_
      repeat first | refine opsStep ?_ | refine codeStep ?_ | refine drawStep ?_
      refine optE_of (c := .int .i64 (x : Nat)) (by simpa [Value.cells] using hgx) ?_
      repeat first | refine opsStep ?_ | refine codeStep ?_ | refine drawStep ?_
      cases hx : p x with
      | true =>
        rw [hx] at hxt
        refine .inl ⟨_, _, [], hxt, RdsN_refl _, .inr rfl, none_need, ?_⟩
        repeat first | refine opsStep ?_ | refine codeStep ?_ | refine drawStep ?_
        refine ⟨by kernel_rfl, ?_⟩
        repeat first | refine opsStep ?_ | refine codeStep ?_ | refine drawStep ?_
        exact finV (v' := .int .i64 (IntKind.wrap .i64 ((i : Int) + 1))) (by kernel_rfl) (by rw [levF_hit hg (List.any_eq_true.2 ⟨x, hmem, hx⟩) hpre, Nat.zero_add, IntWalk.i64_in _ (by omega)]; simp)
      | false =>
        rw [hx] at hxt
        refine .inl ⟨_, _, [], hxt, RdsN_refl _, .inr rfl, none_need, ?_⟩
        repeat first | refine opsStep ?_ | refine codeStep ?_ | refine drawStep ?_
        refine ⟨by kernel_rfl, ?_⟩
        repeat first | refine opsStep ?_ | refine codeStep ?_ | refine drawStep ?_
        refine ⟨⟨k + 1, hkl, fun y hy => ?_⟩, (by show r.length - (k + 1) < r.length - k; omega), Ent.fr' ⟨(by kernel_rfl), (by kernel_rfl), (by kernel_rfl), (by kernel_rfl), inc_slot (i := k) (by omega), trivial⟩ (by kernel_rfl)⟩
        rw [htk2] at hy
        rcases List.mem_append.1 hy with hy | hy
        · exact hpk y hy
        · simp at hy; subst hy; exact hx
    · have hke : k = r.length := by
        have : ¬ k < r.length := fun h => h2 (show ((k : Nat) : Int) < ((r.length : Nat) : Int) from Int.ofNat_lt.2 h)
        omega
      subst hke
      rw [List.take_length] at hpk
      repeat first | refine opsStep ?_ | refine codeStep ?_ | refine drawStep ?_
      refine ⟨⟨i + 1, hil, fun y hy => ?_⟩, (by show L.length - (i + 1) < L.length - i; omega), Ent.fr' ⟨(by kernel_rfl), (by kernel_rfl), (by kernel_rfl), inc_slot (i := i) (by omega), trivial⟩ (by kernel_rfl)⟩
      rw [htk] at hy
      rcases List.mem_append.1 hy with hy | hy
      · exact hpre y hy
      · simp at hy; subst hy; rw [List.any_eq_false]; intro z hz; rw [hpk z hz]; simp
  · have hie : i = L.length := by have := h; simp at this; omega
    subst hie
    rw [List.take_length] at hpre
    repeat first | refine opsStep ?_ | refine codeStep ?_ | refine drawStep ?_
    exact finV (v' := .int .i64 (0 : Nat)) (by kernel_rfl) (by rw [levF_zero.2 hpre])

end Tab

/- Layer 21: the law CompareWithin. -/
namespace Tab
open Go Go.Proofs
set_option maxRecDepth 10000
set_option linter.unusedVariables false
set_option linter.unusedSimpArgs false
set_option linter.unusedSectionVars false

theorem askQ0 : askQ 0 = qW := by funext a b; cases a <;> cases b <;> rfl
theorem askQ1 : askQ 1 = qS := by funext a b; cases a <;> cases b <;> rfl
theorem copyA_op (a b : Aut) : opE (copyA a) (copyA b) = opE a b ∧ opA (copyA a) (copyA b) = opA a b ∧ opB (copyA a) (copyA b) = opB a b := by
  have h : opE (copyA a) (copyA b) = opE a b := by rw [opE, opE, copyA_check, copyA_check, (copyA_unp a).1, (copyA_unp b).1]
  refine ⟨h, ?_, ?_⟩
  · rw [opA, opA, h, (copyA_unp a).1, (copyA_unp b).1]
  · rw [opB, opB, h, (copyA_unp a).1, (copyA_unp b).1]
theorem copyA_none (q) (a b : Aut) : noneB q (copyA a) (copyA b) = noneB q a b := by
  obtain ⟨h1, h2, h3⟩ := copyA_op a b
  by_cases h : opE a b = 0
  · rw [noneB_ok (h1.trans h), noneB_ok h, h2, h3]
  · rw [noneB_bad (by rw [h1]; exact h), noneB_bad h]

set_option maxHeartbeats 1000000 in
theorem law_CompareWithin (a b : Aut) (ha : AutOk a) (hb : AutOk b) : Pure Tryz.prog 4 [aAut a, aAut b] (.bool true) := by
  have hca := r12_Copy a ha
  have hcb := r12_Copy b hb
  have hw := cmp_Within (copyA a) (copyA b) (copyA_ok ha) (copyA_ok hb)
  have hs := cmp_Same (copyA a) (copyA b) (copyA_ok ha) (copyA_ok hb)
  rw [copyA_none, (copyA_op a b).1] at hw hs
  have ho := r21_Open a b ha hb
  have hsa := r12_SameC a ha
  have hsb := r12_SameC b hb
  have hbw := fun h => noneB_bad (q := qW) (a := a) (b := b) h
  have hbs := fun h => noneB_bad (q := qS) (a := a) (b := b) h
  have hgood : opE a b = 0 → Pure Tryz.prog 9 [.agg ((opA a b).cells ++ (opB a b).cells), .int .i64 0] (.int .i64 (lenC (opA a b) (opB a b) 0 : Nat)) ∧ Pure Tryz.prog 9 [.agg ((opA a b).cells ++ (opB a b).cells), .int .i64 1] (.int .i64 (lenC (opA a b) (opB a b) 1 : Nat)) ∧
      noneB qW a b = decide ((lenC (opA a b) (opB a b) 0 : Int) = 0) ∧ noneB qS a b = decide ((lenC (opA a b) (opB a b) 1 : Int) = 0) := fun hz => by
    obtain ⟨_, _, _, _, r1, r2, t1, t2⟩ := op_made hz
    have hk : (opA a b).tracks.length = (opB a b).tracks.length := by rw [t1, t2]
    have key : ∀ q, (cmpO (opA a b) (opB a b) (askQ q)).isNone = decide ((lenC (opA a b) (opB a b) q : Int) = 0) := fun q => by
      cases ho : cmpO (opA a b) (opB a b) (askQ q) with
      | none => rw [lenC_none r1 r2 hk q ho]; rfl
      | some w =>
        have hs := cmpO_spec (opA a b) (opB a b) (askQ q) r1 r2 hk
        rw [ho] at hs
        rw [lenC_some r1 r2 hk q ho]
        have : w.length ≠ 0 := fun e => hs.1 (List.length_eq_zero_iff.1 e)
        rw [decide_eq_false (by omega)]; rfl
    exact ⟨r21_Length _ _ 0 r1 r2 hk, r21_Length _ _ 1 r1 r2 hk, by rw [noneB_ok hz, ← askQ0, key], by rw [noneB_ok hz, ← askQ1, key]⟩
  have hz3 : opE a b = 0 ∨ opE a b = 3 ∨ opE a b = 150 := by rw [opE]; split; split; simp; simp; simp
  generalize hca' : copyA a = ca at *
  generalize hcb' : copyA b = cb at *
  generalize noneB qW a b = v1 at *
  generalize noneB qS a b = v2 at *
  generalize opE a b = z at *
  generalize opA a b = x at *
  generalize opB a b = y at *
  generalize lenC x y 0 = n0 at *
  generalize lenC x y 1 = n1 at *
  rcases hz3 with rfl | hz3
  · obtain ⟨l0, l1, e1, e2⟩ := hgood rfl
    clear hgood hbw hbs
    rcases Nat.eq_zero_or_pos n0 with rfl | g0
    · have e1 : v1 = true := e1
      rcases Nat.eq_zero_or_pos n1 with rfl | g1
      · have e2 : v2 = true := e2
        subst e1
        subst e2
        refine Pure.of_sw 79 Tryz.func4 rfl Tryz.ntmps4 (by kernel_rfl) (Nat.le_of_ble_eq_true (by kernel_rfl)) (by simp [closeds, AV.closed, aSs_closed, aIs_closed, aBs_closed, aRs_closed, aDen_closed, aCs_closed, aAut_closed]) (by simp [AV.closed, closeds, aSs_closed, aIs_closed, aBs_closed, aRs_closed, aDen_closed, aCs_closed, aAut_closed]) ?_; refine SW.of_vc ?_
        repeat first | refine opsStep ?_ | refine codeStep ?_ | refine drawStep ?_
        refine SW.drawn rfl (by kernel_rfl) ?_
        repeat first | refine opsStep ?_ | refine codeStep ?_ | refine drawStep ?_
        refine .inl ⟨_, _, [], hca, RdsN_refl _, .inr rfl, none_need, ?_⟩
        repeat first | refine opsStep ?_ | refine codeStep ?_ | refine drawStep ?_
        refine .inl ⟨_, _, [], hcb, RdsN_refl _, .inr rfl, none_need, ?_⟩
        repeat first | refine opsStep ?_ | refine codeStep ?_ | refine drawStep ?_
        refine ⟨by kernel_rfl, ?_⟩
        repeat first | refine opsStep ?_ | refine codeStep ?_ | refine drawStep ?_
        refine callP hw ?_
        repeat first | refine opsStep ?_ | refine codeStep ?_ | refine drawStep ?_
        refine callP hs ?_
        repeat first | refine opsStep ?_ | refine codeStep ?_ | refine drawStep ?_
        refine callP ho ?_
        repeat first | refine opsStep ?_ | refine codeStep ?_ | refine drawStep ?_
        refine callP law21_fixed ?_
        repeat first | refine opsStep ?_ | refine codeStep ?_ | refine drawStep ?_
        refine callP hsa ?_
        repeat first | refine opsStep ?_ | refine codeStep ?_ | refine drawStep ?_
        refine callP hsb ?_
        repeat first | refine opsStep ?_ | refine codeStep ?_ | refine drawStep ?_
        refine callP l0 ?_
        repeat first | refine opsStep ?_ | refine codeStep ?_ | refine drawStep ?_
        refine callP l1 ?_
        repeat first | refine opsStep ?_ | refine codeStep ?_ | refine drawStep ?_
        exact finB (b' := true) (by kernel_rfl) rfl
      · have e2 : v2 = false := e2.trans (decide_eq_false (by omega))
        subst e1
        subst e2
        refine Pure.of_sw 79 Tryz.func4 rfl Tryz.ntmps4 (by kernel_rfl) (Nat.le_of_ble_eq_true (by kernel_rfl)) (by simp [closeds, AV.closed, aSs_closed, aIs_closed, aBs_closed, aRs_closed, aDen_closed, aCs_closed, aAut_closed]) (by simp [AV.closed, closeds, aSs_closed, aIs_closed, aBs_closed, aRs_closed, aDen_closed, aCs_closed, aAut_closed]) ?_; refine SW.of_vc ?_
        repeat first | refine opsStep ?_ | refine codeStep ?_ | refine drawStep ?_
        refine SW.drawn rfl (by kernel_rfl) ?_
        repeat first | refine opsStep ?_ | refine codeStep ?_ | refine drawStep ?_
        refine .inl ⟨_, _, [], hca, RdsN_refl _, .inr rfl, none_need, ?_⟩
        repeat first | refine opsStep ?_ | refine codeStep ?_ | refine drawStep ?_
        refine .inl ⟨_, _, [], hcb, RdsN_refl _, .inr rfl, none_need, ?_⟩
        repeat first | refine opsStep ?_ | refine codeStep ?_ | refine drawStep ?_
        refine ⟨by kernel_rfl, ?_⟩
        repeat first | refine opsStep ?_ | refine codeStep ?_ | refine drawStep ?_
        refine callP hw ?_
        repeat first | refine opsStep ?_ | refine codeStep ?_ | refine drawStep ?_
        refine callP hs ?_
        repeat first | refine opsStep ?_ | refine codeStep ?_ | refine drawStep ?_
        refine callP ho ?_
        repeat first | refine opsStep ?_ | refine codeStep ?_ | refine drawStep ?_
        refine callP law21_fixed ?_
        repeat first | refine opsStep ?_ | refine codeStep ?_ | refine drawStep ?_
        refine callP hsa ?_
        repeat first | refine opsStep ?_ | refine codeStep ?_ | refine drawStep ?_
        refine callP hsb ?_
        repeat first | refine opsStep ?_ | refine codeStep ?_ | refine drawStep ?_
        refine callP l0 ?_
        repeat first | refine opsStep ?_ | refine codeStep ?_ | refine drawStep ?_
        refine callP l1 ?_
        repeat first | refine opsStep ?_ | refine codeStep ?_ | refine drawStep ?_
        exact finB (b' := (false == decide (((n1 : Nat) : Int) = 0))) (by kernel_rfl) (by rw [decide_eq_false (by omega)]; rfl)
    · have e1 : v1 = false := e1.trans (decide_eq_false (by omega))
      rcases Nat.eq_zero_or_pos n1 with rfl | g1
      · have e2 : v2 = true := e2
        subst e1
        subst e2
        refine Pure.of_sw 79 Tryz.func4 rfl Tryz.ntmps4 (by kernel_rfl) (Nat.le_of_ble_eq_true (by kernel_rfl)) (by simp [closeds, AV.closed, aSs_closed, aIs_closed, aBs_closed, aRs_closed, aDen_closed, aCs_closed, aAut_closed]) (by simp [AV.closed, closeds, aSs_closed, aIs_closed, aBs_closed, aRs_closed, aDen_closed, aCs_closed, aAut_closed]) ?_; refine SW.of_vc ?_
        repeat first | refine opsStep ?_ | refine codeStep ?_ | refine drawStep ?_
        refine SW.drawn rfl (by kernel_rfl) ?_
        repeat first | refine opsStep ?_ | refine codeStep ?_ | refine drawStep ?_
        refine .inl ⟨_, _, [], hca, RdsN_refl _, .inr rfl, none_need, ?_⟩
        repeat first | refine opsStep ?_ | refine codeStep ?_ | refine drawStep ?_
        refine .inl ⟨_, _, [], hcb, RdsN_refl _, .inr rfl, none_need, ?_⟩
        repeat first | refine opsStep ?_ | refine codeStep ?_ | refine drawStep ?_
        refine ⟨by kernel_rfl, ?_⟩
        repeat first | refine opsStep ?_ | refine codeStep ?_ | refine drawStep ?_
        refine callP hw ?_
        repeat first | refine opsStep ?_ | refine codeStep ?_ | refine drawStep ?_
        refine callP hs ?_
        repeat first | refine opsStep ?_ | refine codeStep ?_ | refine drawStep ?_
        refine callP ho ?_
        repeat first | refine opsStep ?_ | refine codeStep ?_ | refine drawStep ?_
        refine callP law21_fixed ?_
        repeat first | refine opsStep ?_ | refine codeStep ?_ | refine drawStep ?_
        refine callP hsa ?_
        repeat first | refine opsStep ?_ | refine codeStep ?_ | refine drawStep ?_
        refine callP hsb ?_
        repeat first | refine opsStep ?_ | refine codeStep ?_ | refine drawStep ?_
        refine callP l0 ?_
        repeat first | refine opsStep ?_ | refine codeStep ?_ | refine drawStep ?_
        refine decB_true (b := (false == decide (((n0 : Nat) : Int) = 0))) (by rw [decide_eq_false (by omega)]; rfl) ?_
        repeat first | refine opsStep ?_ | refine codeStep ?_ | refine drawStep ?_
        refine callP l1 ?_
        repeat first | refine opsStep ?_ | refine codeStep ?_ | refine drawStep ?_
        exact finB (b' := true) (by kernel_rfl) rfl
      · have e2 : v2 = false := e2.trans (decide_eq_false (by omega))
        subst e1
        subst e2
        refine Pure.of_sw 79 Tryz.func4 rfl Tryz.ntmps4 (by kernel_rfl) (Nat.le_of_ble_eq_true (by kernel_rfl)) (by simp [closeds, AV.closed, aSs_closed, aIs_closed, aBs_closed, aRs_closed, aDen_closed, aCs_closed, aAut_closed]) (by simp [AV.closed, closeds, aSs_closed, aIs_closed, aBs_closed, aRs_closed, aDen_closed, aCs_closed, aAut_closed]) ?_; refine SW.of_vc ?_
        repeat first | refine opsStep ?_ | refine codeStep ?_ | refine drawStep ?_
        refine SW.drawn rfl (by kernel_rfl) ?_
        repeat first | refine opsStep ?_ | refine codeStep ?_ | refine drawStep ?_
        refine .inl ⟨_, _, [], hca, RdsN_refl _, .inr rfl, none_need, ?_⟩
        repeat first | refine opsStep ?_ | refine codeStep ?_ | refine drawStep ?_
        refine .inl ⟨_, _, [], hcb, RdsN_refl _, .inr rfl, none_need, ?_⟩
        repeat first | refine opsStep ?_ | refine codeStep ?_ | refine drawStep ?_
        refine ⟨by kernel_rfl, ?_⟩
        repeat first | refine opsStep ?_ | refine codeStep ?_ | refine drawStep ?_
        refine callP hw ?_
        repeat first | refine opsStep ?_ | refine codeStep ?_ | refine drawStep ?_
        refine callP hs ?_
        repeat first | refine opsStep ?_ | refine codeStep ?_ | refine drawStep ?_
        refine callP ho ?_
        repeat first | refine opsStep ?_ | refine codeStep ?_ | refine drawStep ?_
        refine callP law21_fixed ?_
        repeat first | refine opsStep ?_ | refine codeStep ?_ | refine drawStep ?_
        refine callP hsa ?_
        repeat first | refine opsStep ?_ | refine codeStep ?_ | refine drawStep ?_
        refine callP hsb ?_
        repeat first | refine opsStep ?_ | refine codeStep ?_ | refine drawStep ?_
        refine callP l0 ?_
        repeat first | refine opsStep ?_ | refine codeStep ?_ | refine drawStep ?_
        refine decB_true (b := (false == decide (((n0 : Nat) : Int) = 0))) (by rw [decide_eq_false (by omega)]; rfl) ?_
        repeat first | refine opsStep ?_ | refine codeStep ?_ | refine drawStep ?_
        refine callP l1 ?_
        repeat first | refine opsStep ?_ | refine codeStep ?_ | refine drawStep ?_
        exact finB (b' := (false == decide (((n1 : Nat) : Int) = 0))) (by kernel_rfl) (by rw [decide_eq_false (by omega)]; rfl)
  · have hz : z ≠ 0 := by omega
    have e1 := hbw hz
    have e2 := hbs hz
    clear hgood hbw hbs
    subst e1
    subst e2
    rcases hz3 with rfl | rfl
    · skip
      refine Pure.of_sw 79 Tryz.func4 rfl Tryz.ntmps4 (by kernel_rfl) (Nat.le_of_ble_eq_true (by kernel_rfl)) (by simp [closeds, AV.closed, aSs_closed, aIs_closed, aBs_closed, aRs_closed, aDen_closed, aCs_closed, aAut_closed]) (by simp [AV.closed, closeds, aSs_closed, aIs_closed, aBs_closed, aRs_closed, aDen_closed, aCs_closed, aAut_closed]) ?_; refine SW.of_vc ?_
      repeat first | refine opsStep ?_ | refine codeStep ?_ | refine drawStep ?_
      refine SW.drawn rfl (by kernel_rfl) ?_
      repeat first | refine opsStep ?_ | refine codeStep ?_ | refine drawStep ?_
      refine .inl ⟨_, _, [], hca, RdsN_refl _, .inr rfl, none_need, ?_⟩
      repeat first | refine opsStep ?_ | refine codeStep ?_ | refine drawStep ?_
      refine .inl ⟨_, _, [], hcb, RdsN_refl _, .inr rfl, none_need, ?_⟩
      repeat first | refine opsStep ?_ | refine codeStep ?_ | refine drawStep ?_
      refine ⟨by kernel_rfl, ?_⟩
      repeat first | refine opsStep ?_ | refine codeStep ?_ | refine drawStep ?_
      refine callP hw ?_
      repeat first | refine opsStep ?_ | refine codeStep ?_ | refine drawStep ?_
      refine callP hs ?_
      repeat first | refine opsStep ?_ | refine codeStep ?_ | refine drawStep ?_
      refine callP ho ?_
      repeat first | refine opsStep ?_ | refine codeStep ?_ | refine drawStep ?_
      refine callP law21_fixed ?_
      repeat first | refine opsStep ?_ | refine codeStep ?_ | refine drawStep ?_
      refine callP hsa ?_
      repeat first | refine opsStep ?_ | refine codeStep ?_ | refine drawStep ?_
      refine callP hsb ?_
      repeat first | refine opsStep ?_ | refine codeStep ?_ | refine drawStep ?_
      exact finB (b' := true) (by kernel_rfl) rfl
    · skip
      refine Pure.of_sw 79 Tryz.func4 rfl Tryz.ntmps4 (by kernel_rfl) (Nat.le_of_ble_eq_true (by kernel_rfl)) (by simp [closeds, AV.closed, aSs_closed, aIs_closed, aBs_closed, aRs_closed, aDen_closed, aCs_closed, aAut_closed]) (by simp [AV.closed, closeds, aSs_closed, aIs_closed, aBs_closed, aRs_closed, aDen_closed, aCs_closed, aAut_closed]) ?_; refine SW.of_vc ?_
      repeat first | refine opsStep ?_ | refine codeStep ?_ | refine drawStep ?_
      refine SW.drawn rfl (by kernel_rfl) ?_
      repeat first | refine opsStep ?_ | refine codeStep ?_ | refine drawStep ?_
      refine .inl ⟨_, _, [], hca, RdsN_refl _, .inr rfl, none_need, ?_⟩
      repeat first | refine opsStep ?_ | refine codeStep ?_ | refine drawStep ?_
      refine .inl ⟨_, _, [], hcb, RdsN_refl _, .inr rfl, none_need, ?_⟩
      repeat first | refine opsStep ?_ | refine codeStep ?_ | refine drawStep ?_
      refine ⟨by kernel_rfl, ?_⟩
      repeat first | refine opsStep ?_ | refine codeStep ?_ | refine drawStep ?_
      refine callP hw ?_
      repeat first | refine opsStep ?_ | refine codeStep ?_ | refine drawStep ?_
      refine callP hs ?_
      repeat first | refine opsStep ?_ | refine codeStep ?_ | refine drawStep ?_
      refine callP ho ?_
      repeat first | refine opsStep ?_ | refine codeStep ?_ | refine drawStep ?_
      refine callP law21_fixed ?_
      repeat first | refine opsStep ?_ | refine codeStep ?_ | refine drawStep ?_
      refine callP hsa ?_
      repeat first | refine opsStep ?_ | refine codeStep ?_ | refine drawStep ?_
      refine callP hsb ?_
      repeat first | refine opsStep ?_ | refine codeStep ?_ | refine drawStep ?_
      exact finB (b' := true) (by kernel_rfl) rfl

end Tab
