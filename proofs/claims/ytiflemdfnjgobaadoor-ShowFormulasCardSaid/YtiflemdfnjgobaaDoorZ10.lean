/- Lemmas for this claim: part 10. No condition. -/
import Derived.Test.YtiflemdfnjgobaaDoorZ7
import Derived.Test.YtiflemdfnjgobaaDoorZ8
import Derived.Test.YtiflemdfnjgobaaDoorZ9
/- Texts of trees: plain. -/
namespace Tab
open Go
set_option maxRecDepth 10000
set_option linter.unusedVariables false
set_option linter.unusedSimpArgs false
set_option linter.unusedSectionVars false

/-! ### Right trees -/
mutual
def TT.nodes : TT → Nat
  | .mk _ _ _ _ args => 1 + ttsNodes args
def ttsNodes : List TT → Nat
  | [] => 0
  | t :: l => t.nodes + ttsNodes l
end
mutual
def TT.right : TT → Prop
  | .mk op num name k args => goodT (.mk op num name k args) = true ∧ ttsRight args
def ttsRight : List TT → Prop
  | [] => True
  | t :: l => t.right ∧ ttsRight l
end
mutual
def FT.nodes : FT → Nat
  | .mk _ _ _ _ terms _ args => 1 + ttsNodes terms + ftsNodes args
def ftsNodes : List FT → Nat
  | [] => 0
  | t :: l => t.nodes + ftsNodes l
end
mutual
def FT.right : FT → Prop
  | .mk op name md tk terms ak args => goodF (.mk op name md tk terms ak args) = true ∧ ttsRight terms ∧ ftsRight args
def ftsRight : List FT → Prop
  | [] => True
  | t :: l => t.right ∧ ftsRight l
end
theorem nodeM_ok {m : Ms} {d : Nat} {g : Bool} (h : (nodeM m d g).err = 0) : (nodeM m d g).size = m.size + 1 ∧ m.size + 1 ≤ 500 ∧ d ≤ 40 ∧ g = true ∧ m.err = 0 := by
  simp only [nodeM] at h ⊢
  split at h
  · simp at h
  · split at h
    · simp at h
    · split at h
      · exact ⟨trivial, by omega, by omega, by assumption, h⟩
      · simp at h
mutual
theorem TT.walk_right : ∀ (t : TT) (d : Nat) (m : Ms), (t.walk d m).err = 0 → t.right ∧ (t.walk d m).size = m.size + t.nodes ∧ (t.walk d m).size ≤ 500
  | .mk op num name k args, d, m, h => by
    rw [TT.walk] at h ⊢
    by_cases hn : (nodeM m d (goodT (.mk op num name k args))).err ≠ 0
    · rw [if_pos hn] at h; exact absurd h hn
    · rw [if_neg hn] at h ⊢
      obtain ⟨n1, n2, _, n4, _⟩ := nodeM_ok (Decidable.of_not_not hn)
      obtain ⟨a1, a2, a3⟩ := ttsWalk_right args _ _ h
      rw [TT.right, TT.nodes]
      exact ⟨⟨n4, a1⟩, by rw [a2, n1]; omega, a3 (by rw [n1]; omega)⟩
theorem ttsWalk_right : ∀ (l : List TT) (d : Nat) (m : Ms), (ttsWalk l d m).err = 0 → ttsRight l ∧ (ttsWalk l d m).size = m.size + ttsNodes l ∧ (m.size ≤ 500 → (ttsWalk l d m).size ≤ 500)
  | [], d, m, h => by simp [ttsWalk, ttsRight, ttsNodes]
  | t :: l, d, m, h => by
    rw [ttsWalk] at h ⊢
    by_cases hn : (t.walk d m).err ≠ 0
    · rw [if_pos hn] at h; exact absurd h hn
    · rw [if_neg hn] at h ⊢
      obtain ⟨a1, a2, a3⟩ := TT.walk_right t d m (Decidable.of_not_not hn)
      obtain ⟨b1, b2, b3⟩ := ttsWalk_right l d _ h
      rw [ttsRight, ttsNodes]
      exact ⟨⟨a1, b1⟩, by rw [b2, a2]; omega, fun _ => b3 a3⟩
end
mutual
theorem FT.walk_right : ∀ (t : FT) (d : Nat) (m : Ms), (t.walk d m).err = 0 → t.right ∧ (t.walk d m).size = m.size + t.nodes ∧ (t.walk d m).size ≤ 500
  | .mk op name md tk terms ak args, d, m, h => by
    rw [FT.walk] at h ⊢
    by_cases hn : (nodeM m d (goodF (.mk op name md tk terms ak args))).err ≠ 0
    · rw [if_pos hn] at h; exact absurd h hn
    · rw [if_neg hn] at h ⊢
      obtain ⟨n1, n2, _, n4, _⟩ := nodeM_ok (Decidable.of_not_not hn)
      by_cases ht : (ttsWalk terms (d + 1) (nodeM m d (goodF (.mk op name md tk terms ak args)))).err ≠ 0
      · rw [if_pos ht] at h; exact absurd h ht
      · rw [if_neg ht] at h ⊢
        obtain ⟨a1, a2, a3⟩ := ttsWalk_right terms _ _ (Decidable.of_not_not ht)
        obtain ⟨b1, b2, b3⟩ := ftsWalk_right args _ _ h
        rw [FT.right, FT.nodes]
        exact ⟨⟨n4, a1, b1⟩, by rw [b2, a2, n1]; omega, b3 (a3 (by rw [n1]; omega))⟩
theorem ftsWalk_right : ∀ (l : List FT) (d : Nat) (m : Ms), (ftsWalk l d m).err = 0 → ftsRight l ∧ (ftsWalk l d m).size = m.size + ftsNodes l ∧ (m.size ≤ 500 → (ftsWalk l d m).size ≤ 500)
  | [], d, m, h => by simp [ftsWalk, ftsRight, ftsNodes]
  | t :: l, d, m, h => by
    rw [ftsWalk] at h ⊢
    by_cases hn : (t.walk d m).err ≠ 0
    · rw [if_pos hn] at h; exact absurd h hn
    · rw [if_neg hn] at h ⊢
      obtain ⟨a1, a2, a3⟩ := FT.walk_right t d m (Decidable.of_not_not hn)
      obtain ⟨b1, b2, b3⟩ := ftsWalk_right l d _ h
      rw [ftsRight, ftsNodes]
      exact ⟨⟨a1, b1⟩, by rw [b2, a2]; omega, fun _ => b3 a3⟩
end
theorem chkT_right {t : TT} (h : chkT t = 0) : t.right ∧ t.nodes ≤ 500 := by
  obtain ⟨h1, h2, h3⟩ := TT.walk_right t 1 ms0 h
  exact ⟨h1, by rw [h2] at h3; simp [ms0] at h3; exact h3⟩
theorem chkF_right {t : FT} (h : chkF t = 0) : t.right ∧ t.nodes ≤ 500 := by
  obtain ⟨h1, h2, h3⟩ := FT.walk_right t 1 ms0 h
  exact ⟨h1, by rw [h2] at h3; simp [ms0] at h3; exact h3⟩

/-! ### Texts -/
def bindsV (op : Int) : Int := if op = 3 ∨ op = 4 then 0 else if op = 5 then 1 else 2
def partS (x : List UInt8 × Int) (least : Int) : List UInt8 := if bindsV x.2 < least then ([91] ++ x.1) ++ [93] else x.1
def joinT (op num : Int) (name : List UInt8) (l : List (List UInt8 × Int)) : List UInt8 :=
  if op = 0 then dgL num.toNat else if op = 1 then name
  else if op = 2 then [45] ++ partS (l.getD 0 ([], 0)) 2
  else if op = 3 then (partS (l.getD 0 ([], 0)) 0 ++ [32, 43, 32]) ++ partS (l.getD 1 ([], 0)) 1
  else if op = 4 then (partS (l.getD 0 ([], 0)) 0 ++ [32, 45, 32]) ++ partS (l.getD 1 ([], 0)) 1
  else (partS (l.getD 0 ([], 0)) 1 ++ [32, 42, 32]) ++ partS (l.getD 1 ([], 0)) 2
mutual
def TT.tx : TT → List UInt8
  | .mk op num name _ args => joinT op num name (ttsTx args)
def ttsTx : List TT → List (List UInt8 × Int)
  | [] => []
  | t :: l => (t.tx, t.op) :: ttsTx l
end
theorem TT.tx_eq (t : TT) : t.tx = joinT t.op t.num t.name (ttsTx t.args) := by cases t; rw [TT.tx]; rfl
theorem ttsTx_map : ∀ l : List TT, ttsTx l = l.map fun t => (t.tx, t.op)
  | [] => rfl
  | t :: l => by rw [ttsTx, ttsTx_map l]; rfl
def signF (op : Int) : List UInt8 :=
  if op = 3 then [32, 97, 110, 100, 32] else if op = 4 then [32, 111, 114, 32] else if op = 5 then [32, 45, 62, 32] else if op = 6 then [32, 60, 45, 62, 32]
  else if op = 9 then [32, 60, 61, 32] else if op = 10 then [32, 60, 32] else if op = 11 then [32, 62, 61, 32] else if op = 12 then [32, 62, 32] else if op = 13 then [32, 61, 32] else if op = 14 then [32, 33, 61, 32] else [32, 126, 32]
def joinF (op : Int) (name : List UInt8) (md : Int) (ts l : List (List UInt8)) : List UInt8 :=
  if op = 0 then [116, 114, 117, 101] else if op = 1 then [102, 97, 108, 115, 101]
  else if op = 2 then [110, 111, 116, 32] ++ l.getD 0 []
  else if op = 7 then (([101, 120, 32] ++ name) ++ [46, 32]) ++ l.getD 0 []
  else if op = 8 then (([97, 108, 108, 32] ++ name) ++ [46, 32]) ++ l.getD 0 []
  else if 3 ≤ op ∧ op ≤ 6 then ((([40] ++ l.getD 0 []) ++ signF op) ++ l.getD 1 []) ++ [41]
  else if op = 15 then (((ts.getD 0 [] ++ [32, 126, 32]) ++ ts.getD 1 []) ++ [32, 109, 111, 100, 32]) ++ dgL md.toNat
  else (ts.getD 0 [] ++ signF op) ++ ts.getD 1 []
mutual
def FT.tx : FT → List UInt8
  | .mk op name md _ terms _ args => joinF op name md (terms.map TT.tx) (ftsTx args)
def ftsTx : List FT → List (List UInt8)
  | [] => []
  | t :: l => t.tx :: ftsTx l
end
theorem FT.tx_eq (t : FT) : t.tx = joinF t.op t.name t.md (t.terms.map TT.tx) (ftsTx t.args) := by cases t; rw [FT.tx]; rfl
theorem ftsTx_map : ∀ l : List FT, ftsTx l = l.map FT.tx
  | [] => rfl
  | t :: l => by rw [ftsTx, ftsTx_map l]; rfl

end Tab

/- Nodes that are well made. -/
namespace Tab
open Go Go.Proofs
set_option maxRecDepth 10000
set_option linter.unusedVariables false
set_option linter.unusedSimpArgs false
set_option linter.unusedSectionVars false
set_option maxHeartbeats 1000000

theorem aTT_closed (t : TT) : (AV.agg t.cells).closed := by simp only [AV.closed]; exact TT.cells_closed t
theorem aFT_closed (t : FT) : (AV.agg t.cells).closed := by simp only [AV.closed]; exact FT.cells_closed t
abbrev tC (op num : Int) (name : List UInt8) (k : SK) (args : List TT) : List AV := [.int .i64 op, .int .i64 num, .str name, .sl k args.length (ttsC args)]
theorem tC_closed (op num : Int) (name : List UInt8) (k : SK) (args : List TT) : (AV.agg (tC op num name k args)).closed := by
  simp only [AV.closed, closeds, true_and, and_true]; exact ttsC_closed args
abbrev fC5 (op : Int) (name : List UInt8) (md : Int) (tk : SK) (terms : List TT) (ak : SK) (args : List FT) : List AV := [.int .i64 op, .str name, .int .i64 md, .sl tk terms.length (ttsC terms), .sl ak args.length (ftsC args)]
theorem fC5_closed (op : Int) (name : List UInt8) (md : Int) (tk : SK) (terms : List TT) (ak : SK) (args : List FT) : (AV.agg (fC5 op name md tk terms ak args)).closed := by
  simp only [AV.closed, closeds, true_and, and_true]; exact ⟨ttsC_closed terms, ftsC_closed args⟩

theorem tree_term (t : TT) (hn : t.name.length < 2^62) : Pure Tryd.prog 82 [.agg t.cells] (.bool (goodT t)) := by
  rw [TT.cells_eq]
  rcases t with ⟨op, num, name, k, args⟩
  simp only [TT.op, TT.num, TT.name, TT.k, TT.args] at hn ⊢
  have hg : goodT ⟨op, num, name, k, args⟩ = if op = 0 then decide (0 ≤ num) && decide (name = []) && decide (args.length = 0)
    else if op = 1 then decide (num = 0) && nameS name && decide (args.length = 0)
    else if op = 2 then decide (num = 0) && decide (name = []) && decide (args.length = 1)
    else if op = 3 ∨ op = 4 ∨ op = 5 then decide (num = 0) && decide (name = []) && decide (args.length = 2)
    else false := rfl
  rw [hg]
  clear hg
  refine Pure.of_sw 69 Tryd.func82 rfl Tryd.ntmps82 (by kernel_rfl) (Nat.le_of_ble_eq_true (by kernel_rfl)) (by simp only [closeds]; exact ⟨tC_closed op num name k args, trivial⟩) (by simp only [AV.closed]) ?_
  refine SW.of_vc ?_
  repeat first | refine opsStep ?_ | refine codeStep ?_ | refine drawStep ?_
  refine SW.drawn rfl (by kernel_rfl) ?_
  repeat first | refine opsStep ?_ | refine codeStep ?_ | refine drawStep ?_
  refine ⟨by kernel_rfl, ?_⟩
  repeat first | refine opsStep ?_ | refine codeStep ?_ | refine drawStep ?_
  refine decB_dec (fun h0 => ?_) (fun h0 => ?_)
  · have h0 : op = 0 := h0
    rw [if_pos h0]
    repeat' first | refine opsStep ?_ | refine codeStep ?_ | refine decB_split (fun h => ?_) (fun h => ?_)
    all_goals exact finB rfl (by simp_all; try omega)
  · have h0 : ¬ op = 0 := h0
    rw [if_neg h0]
    repeat first | refine opsStep ?_ | refine codeStep ?_ | refine drawStep ?_
    refine decB_dec (fun h1 => ?_) (fun h1 => ?_)
    · have h1 : op = 1 := h1
      rw [if_pos h1]
      repeat first | refine opsStep ?_ | refine codeStep ?_ | refine drawStep ?_
      refine decB_split (fun h => ?_) (fun h => ?_)
      · repeat first | refine opsStep ?_ | refine codeStep ?_ | refine drawStep ?_
        refine callP (glyph_Name name hn) ?_
        repeat' first | refine opsStep ?_ | refine codeStep ?_ | refine decB_split (fun h => ?_) (fun h => ?_)
        all_goals exact finB rfl (by simp_all; try omega)
      · repeat first | refine opsStep ?_ | refine codeStep ?_ | refine drawStep ?_
        exact finB rfl (by simp_all)
    · have h1 : ¬ op = 1 := h1
      rw [if_neg h1]
      repeat first | refine opsStep ?_ | refine codeStep ?_ | refine drawStep ?_
      refine decB_dec (fun h2 => ?_) (fun h2 => ?_)
      · have h2 : op = 2 := h2
        rw [if_pos h2]
        repeat' first | refine opsStep ?_ | refine codeStep ?_ | refine decB_split (fun h => ?_) (fun h => ?_)
        all_goals exact finB rfl (by simp_all; try omega)
      · have h2 : ¬ op = 2 := h2
        rw [if_neg h2]
        repeat' first | refine opsStep ?_ | refine codeStep ?_ | refine decB_split (fun h => ?_) (fun h => ?_)
        all_goals exact finB rfl (by simp_all; try omega)

end Tab

/- Texts of terms. -/
namespace Tab
open Go Go.Proofs
set_option maxRecDepth 10000
set_option linter.unusedVariables false
set_option linter.unusedSimpArgs false
set_option linter.unusedSectionVars false
set_option maxHeartbeats 1000000

theorem dg_lenU : ∀ (k n : Nat), n < 10 ^ (k + 1) → (dgL n).length ≤ k + 1
  | 0, n, h => by rw [dgL_small (by omega)]; simp
  | k + 1, n, h => by
    by_cases h9 : n ≤ 9
    · rw [dgL_small h9]; simp
    · rw [dgL_big h9, List.length_append, List.length_singleton]
      have := dg_lenU k (n / 10) (by rw [Nat.div_lt_iff_lt_mul (by decide)]; rw [Nat.pow_succ] at h; exact h)
      omega
theorem binds0 {op : Int} (h : op = 3 ∨ op = 4) : bindsV op = 0 := if_pos h
theorem binds1 {op : Int} (h : op = 5) : bindsV op = 1 := by subst h; rfl
theorem binds2 {op : Int} (h : ¬ op = 3) (h' : ¬ op = 4) (h'' : ¬ op = 5) : bindsV op = 2 := by unfold bindsV; rw [if_neg (by omega), if_neg h'']
def txK : Nat := 2 ^ 47 + 64
theorem part_len (x : List UInt8 × Int) (l : Int) : (partS x l).length ≤ x.1.length + 2 := by
  rw [partS]; split <;> simp <;> omega
def sumL : List (List UInt8 × Int) → Nat
  | [] => 0
  | x :: l => x.1.length + sumL l
theorem sum_two (l : List (List UInt8 × Int)) : (l.getD 0 ([], 0)).1.length + (l.getD 1 ([], 0)).1.length ≤ sumL l := by
  match l with
  | [] => simp [sumL]
  | [a] => simp [sumL]
  | a :: b :: l => simp [sumL] <;> omega
theorem joinT_len (op num : Int) (name : List UInt8) (l : List (List UInt8 × Int)) (hn : okI6 num) (hm : name.length ≤ 2 ^ 47) : (joinT op num name l).length ≤ sumL l + txK := by
  have h2 := sum_two l
  have hk : txK = 2 ^ 47 + 64 := rfl
  rw [joinT]
  split
  · have := dg_lenU 18 num.toNat (by have := hn.2; omega)
    omega
  split
  · omega
  split
  · have := part_len (l.getD 0 ([], 0)) 2
    simp only [List.length_append, List.length_cons, List.length_nil]; omega
  split
  · have := part_len (l.getD 0 ([], 0)) 0
    have := part_len (l.getD 1 ([], 0)) 1
    simp only [List.length_append, List.length_cons, List.length_nil]; omega
  split
  · have := part_len (l.getD 0 ([], 0)) 0
    have := part_len (l.getD 1 ([], 0)) 1
    simp only [List.length_append, List.length_cons, List.length_nil]; omega
  · have := part_len (l.getD 0 ([], 0)) 1
    have := part_len (l.getD 1 ([], 0)) 2
    simp only [List.length_append, List.length_cons, List.length_nil]; omega
mutual
theorem TT.tx_len : ∀ t : TT, t.ok → t.tx.length ≤ t.nodes * txK
  | .mk op num name k args, h => by
    rw [TT.ok] at h
    have h1 := ttsTx_len args h.2.2.2.2
    have h2 := joinT_len op num name (ttsTx args) h.2.1 h.2.2.1
    rw [TT.tx, TT.nodes, Nat.add_mul, Nat.one_mul]
    omega
theorem ttsTx_len : ∀ l : List TT, ttsOk l → sumL (ttsTx l) ≤ ttsNodes l * txK
  | [], _ => by simp [ttsTx, sumL, ttsNodes]
  | t :: l, h => by
    rw [ttsOk] at h
    have h1 := TT.tx_len t h.1
    have h2 := ttsTx_len l h.2
    rw [ttsTx, sumL, ttsNodes, Nat.add_mul]
    simp only
    omega
end
theorem TT.tx_small {t : TT} (h : t.ok) (hn : t.nodes ≤ 500) : t.tx.length < 2 ^ 60 := by
  have h1 := TT.tx_len t h
  have h2 : t.nodes * txK ≤ 500 * txK := Nat.mul_le_mul_right _ hn
  have hk : txK = 2 ^ 47 + 64 := rfl
  omega

theorem show_binds (t : TT) : Pure Tryd.prog 83 [.agg t.cells] (.int .i64 (bindsV t.op)) := by
  rw [TT.cells_eq]
  rcases t with ⟨op, num, name, k, args⟩
  simp only [TT.op, TT.num, TT.name, TT.k, TT.args]
  refine Pure.of_sw 10 Tryd.func83 rfl Tryd.ntmps83 (by kernel_rfl) (Nat.le_of_ble_eq_true (by kernel_rfl)) (by simp only [closeds]; exact ⟨tC_closed op num name k args, trivial⟩) (by simp only [AV.closed]) ?_
  refine SW.of_vc ?_
  repeat first | refine opsStep ?_ | refine codeStep ?_ | refine drawStep ?_
  refine decB_dec (fun h3 => ?_) (fun h3 => ?_)
  · have h3 : op = 3 := h3
    repeat first | refine opsStep ?_ | refine codeStep ?_ | refine drawStep ?_
    refine decB_true (b := decide (op = 3)) (by simp [h3]) ?_
    repeat first | refine opsStep ?_ | refine codeStep ?_ | refine drawStep ?_
    exact finV (v := .int .i64 (bindsV op)) (v' := .int .i64 0) (by kernel_rfl) (by rw [binds0 (.inl h3)])
  · have h3 : ¬ op = 3 := h3
    repeat first | refine opsStep ?_ | refine codeStep ?_ | refine drawStep ?_
    refine decB_dec (fun h4 => ?_) (fun h4 => ?_)
    · have h4 : op = 4 := h4
      repeat first | refine opsStep ?_ | refine codeStep ?_ | refine drawStep ?_
      exact finV (v := .int .i64 (bindsV op)) (v' := .int .i64 0) (by kernel_rfl) (by rw [binds0 (.inr h4)])
    · have h4 : ¬ op = 4 := h4
      repeat first | refine opsStep ?_ | refine codeStep ?_ | refine drawStep ?_
      refine decB_dec (fun h5 => ?_) (fun h5 => ?_)
      · have h5 : op = 5 := h5
        repeat first | refine opsStep ?_ | refine codeStep ?_ | refine drawStep ?_
        exact finV (v := .int .i64 (bindsV op)) (v' := .int .i64 1) (by kernel_rfl) (by rw [binds1 h5])
      · have h5 : ¬ op = 5 := h5
        repeat first | refine opsStep ?_ | refine codeStep ?_ | refine drawStep ?_
        exact finV (v := .int .i64 (bindsV op)) (v' := .int .i64 2) (by kernel_rfl) (by rw [binds2 h3 h4 h5])

theorem show_part (t : TT) (least : Int) (ht : Pure Tryd.prog 36 [.agg t.cells] (.str t.tx)) (hl : t.tx.length < 2 ^ 60) : Pure Tryd.prog 56 [.agg t.cells, .int .i64 least] (.str (partS (t.tx, t.op) least)) := by
  have hb := show_binds t
  have hcl : (t.cells.drop 0).take 4 = t.cells := by rw [List.drop_zero, List.take_of_length_le (by rw [TT.cells_len]; omega)]
  have hlen := TT.cells_len t
  have hcc := TT.cells_closed t
  rw [← hcl] at ht hb
  rw [show [AV.agg t.cells, .int .i64 least] = [AV.agg t.cells, .int .i64 least] from rfl]
  refine Pure.of_sw 15 Tryd.func56 rfl Tryd.ntmps56 (by kernel_rfl) (Nat.le_of_ble_eq_true (by kernel_rfl)) (by simp only [closeds, AV.closed]; exact ⟨hcc, trivial, trivial⟩) (by simp only [AV.closed]) ?_
  refine SW.of_vc ?_
  repeat first | refine opsStep ?_ | refine codeStep ?_ | refine drawStep ?_
  refine guardE_of (by show 0 + 4 ≤ t.cells.length; omega) ?_
  repeat first | refine opsStep ?_ | refine codeStep ?_ | refine drawStep ?_
  refine callP hb ?_
  repeat first | refine opsStep ?_ | refine codeStep ?_ | refine drawStep ?_
  refine decB_dec (fun h => ?_) (fun h => ?_)
  · have h : bindsV t.op < least := h
    repeat first | refine opsStep ?_ | refine codeStep ?_ | refine drawStep ?_
    refine guardE_of (by show 0 + 4 ≤ t.cells.length; omega) ?_
    repeat first | refine opsStep ?_ | refine codeStep ?_ | refine drawStep ?_
    refine callP ht ?_
    repeat first | refine opsStep ?_ | refine codeStep ?_ | refine drawStep ?_
    refine guardE_of (by show 1 + t.tx.length ≤ 9223372036854775807; omega) ?_
    repeat first | refine opsStep ?_ | refine codeStep ?_ | refine drawStep ?_
    refine guardE_of (by show ([91] ++ t.tx).length + 1 ≤ 9223372036854775807; simp only [List.length_append, List.length_singleton]; omega) ?_
    repeat first | refine opsStep ?_ | refine codeStep ?_ | refine drawStep ?_
    exact finV (v' := .str (([91] ++ t.tx) ++ [93])) (by kernel_rfl) (by rw [partS, if_pos h])
  · have h : ¬ bindsV t.op < least := h
    repeat first | refine opsStep ?_ | refine codeStep ?_ | refine drawStep ?_
    refine guardE_of (by show 0 + 4 ≤ t.cells.length; omega) ?_
    repeat first | refine opsStep ?_ | refine codeStep ?_ | refine drawStep ?_
    refine callP ht ?_
    repeat first | refine opsStep ?_ | refine codeStep ?_ | refine drawStep ?_
    exact finV (v' := .str t.tx) (by kernel_rfl) (by rw [partS, if_neg h])

end Tab

/- The walks that measure trees. -/
namespace Tab
open Go Go.Proofs
set_option maxRecDepth 10000
set_option linter.unusedVariables false
set_option linter.unusedSimpArgs false
set_option linter.unusedSectionVars false
set_option maxHeartbeats 1000000

def msC (m : Ms) : List AV := [.int .i64 m.size, .int .i64 m.depth, .int .i64 m.err]
theorem msC_closed (m : Ms) : closeds (msC m) := by simp [msC, closeds, AV.closed]
theorem msC_bel (n : Nat) (m : Ms) : bels n (msC m) := closeds_bel _ (msC_closed m)
/-- What a walk may meet. -/
structure MsOk (m : Ms) (d : Nat) : Prop where
  size : m.size ≤ 500
  dep : m.depth ≤ 100
  d : d ≤ 50
theorem nodeM_bd {m : Ms} {d : Nat} {g : Bool} (h : MsOk m d) (he : (nodeM m d g).err = 0) : MsOk (nodeM m d g) (d + 1) := by
  obtain ⟨h1, h2, h3, _, _⟩ := nodeM_ok he
  have := h.dep
  have := h.d
  exact ⟨by omega, by simp only [nodeM]; omega, by omega⟩

theorem met1 (m : Ms) (d : Nat) (g : Bool) (hm : MsOk m d) (he : m.err = 0) : ACall Tryd.prog 81 [.int .i64 d, .bool g, .ref 1 0 0] [.cells 0 (msC m), .cells 0 [.ref 0 0 0]] fun o H' => o = .ret (.bool (decide ((nodeM m d g).err = 0))) ∧ H' = [.cells 0 (msC (nodeM m d g)), .cells 0 [.ref 0 0 0]] := by
  have h1 := hm.size
  have h2 := hm.dep
  have h3 := hm.d
  have e1 : IntKind.wrap .i64 ((m.size : Int) + 1) = ((m.size + 1 : Nat) : Int) := by rw [IntWalk.i64_in _ (by omega)]; simp
  have e2 : (if (d : Int) > (m.depth : Int) then (d : Int) else (m.depth : Int)) = ((max m.depth d : Nat) : Int) := by split <;> omega
  refine ACall.of_sw 48 Tryd.func81 rfl Tryd.ntmps81 (by kernel_rfl) (Nat.le_of_ble_eq_true (by kernel_rfl)) ?_; refine SW.of_vc ?_
  repeat first | refine opsStep ?_ | refine codeStep ?_ | refine drawStep ?_
  refine SW.drawn rfl (by kernel_rfl) ?_
  repeat first | refine opsStep ?_ | refine codeStep ?_ | refine drawStep ?_
  refine ⟨by kernel_rfl, ?_⟩
  refine VCode.ent (Ent.fr' (l := [(0, .int .i64 d), (1, .bool g), (2, .ref 1 0 0)]) (H' := [.cells 0 [.int .i64 (m.size + 1 : Nat), .int .i64 (max m.depth d : Nat), .int .i64 m.err], .cells 0 [.ref 0 0 0]]) ⟨(by kernel_rfl), (by kernel_rfl), (by kernel_rfl), trivial⟩ (Eq.trans (b := [.cells 0 [.int .i64 (IntKind.wrap .i64 ((m.size : Int) + 1)), .int .i64 (if (d : Int) > (m.depth : Int) then (d : Int) else (m.depth : Int)), .int .i64 m.err], .cells 0 [.ref 0 0 0]]) (by kernel_rfl) (by rw [e1, e2]))) ?_
  repeat first | refine opsStep ?_ | refine codeStep ?_ | refine drawStep ?_
  refine decB_dec (fun c1 => ?_) (fun c1 => ?_)
  · have c1 : ((m.size + 1 : Nat) : Int) > 500 := c1
    have hn : nodeM m d g = ⟨m.size + 1, max m.depth d, 73⟩ := by rw [nodeM, if_pos (by omega)]
    rw [hn]
    repeat first | refine opsStep ?_ | refine codeStep ?_ | refine drawStep ?_
    refine finR (l := [(5, .bool false)]) (v := .bool false) (H₁ := [.cells 0 [.int .i64 (m.size + 1 : Nat), .int .i64 (max m.depth d : Nat), .int .i64 73], .cells 0 [.ref 0 0 0]]) ⟨(by kernel_rfl), trivial⟩ (by kernel_rfl) (Ent.refl _ _ _) (by kernel_rfl) ⟨rfl, rfl⟩
  · have c1 : ¬ ((m.size + 1 : Nat) : Int) > 500 := c1
    repeat first | refine opsStep ?_ | refine codeStep ?_ | refine drawStep ?_
    refine decB_dec (fun c2 => ?_) (fun c2 => ?_)
    · have c2 : (d : Int) > 40 := c2
      have hn : nodeM m d g = ⟨m.size + 1, max m.depth d, 72⟩ := by rw [nodeM, if_neg (by omega), if_pos (by omega)]
      rw [hn]
      repeat first | refine opsStep ?_ | refine codeStep ?_ | refine drawStep ?_
      refine finR (l := [(5, .bool false)]) (v := .bool false) (H₁ := [.cells 0 [.int .i64 (m.size + 1 : Nat), .int .i64 (max m.depth d : Nat), .int .i64 72], .cells 0 [.ref 0 0 0]]) ⟨(by kernel_rfl), trivial⟩ (by kernel_rfl) (Ent.refl _ _ _) (by kernel_rfl) ⟨rfl, rfl⟩
    · have c2 : ¬ (d : Int) > 40 := c2
      cases g with
      | true =>
        have hn : nodeM m d true = ⟨m.size + 1, max m.depth d, m.err⟩ := by rw [nodeM, if_neg (by omega), if_neg (by omega), if_pos rfl]
        rw [hn]
        repeat first | refine opsStep ?_ | refine codeStep ?_ | refine drawStep ?_
        refine finR (l := [(5, .bool (decide (m.err = 0)))]) (v := .bool (decide (m.err = 0))) (H₁ := [.cells 0 [.int .i64 (m.size + 1 : Nat), .int .i64 (max m.depth d : Nat), .int .i64 m.err], .cells 0 [.ref 0 0 0]]) ⟨(by kernel_rfl), trivial⟩ (by kernel_rfl) (Ent.refl _ _ _) (by kernel_rfl) ⟨rfl, rfl⟩
      | false =>
        have hn : nodeM m d false = ⟨m.size + 1, max m.depth d, 3⟩ := by rw [nodeM, if_neg (by omega), if_neg (by omega), if_neg (by simp)]
        rw [hn]
        repeat first | refine opsStep ?_ | refine codeStep ?_ | refine drawStep ?_
        refine finR (l := [(5, .bool false)]) (v := .bool false) (H₁ := [.cells 0 [.int .i64 (m.size + 1 : Nat), .int .i64 (max m.depth d : Nat), .int .i64 3], .cells 0 [.ref 0 0 0]]) ⟨(by kernel_rfl), trivial⟩ (by kernel_rfl) (Ent.refl _ _ _) (by kernel_rfl) ⟨rfl, rfl⟩

end Tab

/- The walk over a term. -/
namespace Tab
open Go Go.Proofs
set_option maxRecDepth 10000
set_option linter.unusedVariables false
set_option linter.unusedSimpArgs false
set_option linter.unusedSectionVars false
set_option maxHeartbeats 1000000

mutual
theorem TT.walk_dep : ∀ (t : TT) (d : Nat) (m : Ms), (t.walk d m).err = 0 → m.depth ≤ 100 → (t.walk d m).depth ≤ 100
  | .mk op num name k args, d, m, h, hm => by
    rw [TT.walk] at h ⊢
    by_cases hn : (nodeM m d (goodT (.mk op num name k args))).err ≠ 0
    · rw [if_pos hn] at h; exact absurd h hn
    · rw [if_neg hn] at h ⊢
      obtain ⟨_, _, n3, _, _⟩ := nodeM_ok (Decidable.of_not_not hn)
      exact ttsWalk_dep args _ _ h (by simp only [nodeM]; omega)
theorem ttsWalk_dep : ∀ (l : List TT) (d : Nat) (m : Ms), (ttsWalk l d m).err = 0 → m.depth ≤ 100 → (ttsWalk l d m).depth ≤ 100
  | [], d, m, h, hm => by simpa [ttsWalk] using hm
  | t :: l, d, m, h, hm => by
    rw [ttsWalk] at h ⊢
    by_cases hn : (t.walk d m).err ≠ 0
    · rw [if_pos hn] at h; exact absurd h hn
    · rw [if_neg hn] at h ⊢
      exact ttsWalk_dep l d _ h (TT.walk_dep t d m (Decidable.of_not_not hn) hm)
end
theorem TT.walk_ok {t : TT} {d : Nat} {m : Ms} (h : MsOk m d) (he : (t.walk d m).err = 0) : MsOk (t.walk d m) d :=
  ⟨(TT.walk_right t d m he).2.2, TT.walk_dep t d m he h.dep, h.d⟩
def wF : AV := .fn (.func 81) [] [.ref 1 0 0]
def mH (m : Ms) : List Blk := [.cells 0 (msC m), .cells 0 [.ref 0 0 0]]
theorem mH_bel (m : Ms) : blksBel 2 (mH m) := by
  simp only [mH, blksBel, Blk.bel]
  exact ⟨msC_bel _ _, by simp [bels, AV.bel], trivial⟩
theorem mH_bel' (m : Ms) (n : Nat) (h : 2 ≤ n) : blksBel n (mH m) := by
  simp only [mH, blksBel, Blk.bel]
  exact ⟨msC_bel _ _, by simp [bels, AV.bel]; omega, trivial⟩
theorem tts_nodes : ∀ {l : List TT} {i : Nat} (h : i < l.length), (l[i]'h).nodes ≤ ttsNodes l
  | t :: l, 0, h => by rw [ttsNodes]; show t.nodes ≤ _; omega
  | t :: l, i + 1, h => by rw [ttsNodes]; have := tts_nodes (l := l) (i := i) (by simpa using h); show (l[i]'_).nodes ≤ _; omega
theorem ttsWalk_drop {l : List TT} {i : Nat} (h : i < l.length) (d : Nat) (m : Ms) : ttsWalk (l.drop i) d m = if ((l[i]'h).walk d m).err ≠ 0 then (l[i]'h).walk d m else ttsWalk (l.drop (i + 1)) d ((l[i]'h).walk d m) := by
  rw [List.drop_eq_getElem_cons h, ttsWalk]

theorem over4 {l : List AV} (h : l.length = 4) (a b c d : AV) : over [a, b, c, d] 0 l = l := by
  rw [over, h]; simp

theorem walk_term : ∀ (n : Nat) (t : TT), t.nodes ≤ n → t.ok → ∀ (m : Ms) (d : Nat), MsOk m d → m.err = 0 → ACall Tryd.prog 55 [wF, .agg t.cells, .int .i64 d] (mH m) fun o H' => o = .ret (.bool (decide ((t.walk d m).err = 0))) ∧ H' = mH (t.walk d m) := by
  intro n
  induction n with
  | zero => intro t h; rcases t with ⟨op, num, name, k, args⟩; rw [TT.nodes] at h; omega
  | succ n ih =>
    intro t hnodes hok m d hm he
    have hgood := tree_term t (by cases t; rw [TT.ok] at hok; have := hok.2.2.1; show List.length _ < _; simp only [TT.name]; omega)
    have hwk := TT.walk_eq t d m
    rw [TT.cells_eq] at hgood ⊢
    rcases t with ⟨op, num, name, k, args⟩
    rw [TT.ok] at hok
    rw [TT.nodes] at hnodes
    generalize goodT ⟨op, num, name, k, args⟩ = g at *
    generalize TT.walk ⟨op, num, name, k, args⟩ d m = w at *
    simp only [TT.op, TT.num, TT.name, TT.k, TT.args] at hgood hwk ⊢
    have hal := hok.2.2.2.1
    have hao := hok.2.2.2.2
    have hd := hm.d
    refine ACall.of_sw 29 Tryd.func55 rfl Tryd.ntmps55 (by kernel_rfl) (Nat.le_of_ble_eq_true (by kernel_rfl)) ?_; refine SW.of_vc ?_
    repeat first | refine opsStep ?_ | refine codeStep ?_ | refine drawStep ?_
    refine callP hgood ?_
    repeat first | refine opsStep ?_ | refine codeStep ?_ | refine drawStep ?_
    refine callT (args := [.int .i64 d, .bool g, .ref 1 0 0]) (met1 m d g hm he) [.cells 0 (tC op num name k args)] rfl rfl (by simp [bels, AV.bel]) (mH_bel m) (mH_bel _) (by simp [AV.bel]) ?_
    repeat first | refine opsStep ?_ | refine codeStep ?_ | refine drawStep ?_
    refine decB_split (fun h => ?_) (fun h => ?_)
    · have hne : (nodeM m d g).err ≠ 0 := by simpa using h
      rw [if_pos hne] at hwk
      repeat first | refine opsStep ?_ | refine codeStep ?_ | refine drawStep ?_
      refine finR (l := [(6, .bool false)]) (v := .bool false) (H₁ := mH (nodeM m d g) ++ [.cells 0 (tC op num name k args)]) ⟨(by kernel_rfl), trivial⟩ (by kernel_rfl) (Ent.frD (l := [(6, .bool false)]) ⟨(by kernel_rfl), trivial⟩ rfl (Nat.le_refl 2) (by simp [frBel, AV.bel]) (mH_bel _)) (by kernel_rfl) ⟨by rw [hwk, decide_eq_false hne], by rw [hwk]⟩
    · have hne : (nodeM m d g).err = 0 := by simpa using h
      rw [if_neg (by simp [hne])] at hwk
      have hm1 := nodeM_bd hm hne
      clear h
      repeat first | refine opsStep ?_ | refine codeStep ?_ | refine drawStep ?_
      refine loopE_of (ι := {x : Nat × Ms // x.1 ≤ args.length ∧ w = ttsWalk (args.drop x.1) (d + 1) x.2 ∧ MsOk x.2 (d + 1) ∧ x.2.err = 0}) (fun x => (fr [(0, wF), (2, .int .i64 d), (16, .sl k args.length (ttsC args)), (17, .int .i64 args.length), (18, .int .i64 x.1.1)], mH x.1.2)) (fun x => args.length - x.1.1)
        ⟨(0, nodeM m d g), Nat.zero_le _, hwk, hm1, hne⟩ (Ent.frD (X := [.cells 0 (tC op num name k args)]) ⟨(by kernel_rfl), (by kernel_rfl), (by kernel_rfl), (by kernel_rfl), (by kernel_rfl), trivial⟩ (by kernel_rfl) (Nat.le_refl 2) (by simp only [frBel, AV.bel, wF, bels]; exact ⟨⟨trivial, by show 1 < 2; decide, trivial⟩, trivial, closeds_bel _ (ttsC_closed _), trivial, trivial, trivial⟩) (mH_bel _)) ?_
      rintro ⟨⟨i, mi⟩, h1, h2, h3, h4⟩
      simp only at h1 h2 h3 h4
      repeat first | refine opsStep ?_ | refine codeStep ?_ | refine drawStep ?_
      refine decB_dec (fun hlt => ?_) (fun hlt => ?_)
      · have hi : i < args.length := by have : (i : Int) < args.length := hlt; omega
        clear hlt
        have hld : ((ttsC args).drop ((i : Int).toNat * 4)).take 4 = (args[i]'hi).cells := by rw [Int.toNat_natCast]; exact ttsC_at hi
        have hfit : 4 ≤ ((ttsC args).drop ((i : Int).toNat * 4)).length := by rw [List.length_drop, ttsC_len, Int.toNat_natCast]; omega
        have hdi : IntKind.wrap .i64 ((d : Int) + 1) = ((d + 1 : Nat) : Int) := by rw [IntWalk.i64_in _ (by omega)]; simp
        have hrec := ih (args[i]'hi) (by have := tts_nodes hi; omega) (ttsOk_iff.1 hao _ (List.getElem_mem hi)) mi (d + 1) h3 h4
        have hstep := ttsWalk_drop hi (d + 1) mi
        rw [← h2] at hstep
        have hao' := @TT.walk_ok (args[i]'hi) (d + 1) mi h3
        have haC := TT.cells_len (args[i]'hi)
        have haB : bels 2 (args[i]'hi).cells := closeds_bel _ (TT.cells_closed (args[i]'hi))
        rw [← hdi] at hrec
        generalize args[i]'hi = a at *
        generalize TT.walk a (d + 1) mi = wi at *
        repeat first | refine opsStep ?_ | refine codeStep ?_ | refine drawStep ?_
        refine guardE_of ⟨by omega, by show (i : Int) < args.length; omega⟩ ?_
        repeat first | refine opsStep ?_ | refine codeStep ?_ | refine drawStep ?_
        refine guardE_of hfit ?_
        repeat first | refine opsStep ?_ | refine codeStep ?_ | refine drawStep ?_
        refine guardE_of ⟨by show (((ttsC args).drop ((i : Int).toNat * 4)).take 4).length = 4; rw [hld]; exact haC, by decide, by decide⟩ ?_
        iterate 1 refine opsStep ?_
        refine VCode.ent (Ent.fr' (l := [(0, wF), (2, .int .i64 d), (8, .ref 2 0 0), (16, .sl k args.length (ttsC args)), (17, .int .i64 args.length), (18, .int .i64 i)]) (H' := mH mi ++ [.cells 0 a.cells]) ⟨(by kernel_rfl), (by kernel_rfl), (by kernel_rfl), (by kernel_rfl), (by kernel_rfl), (by kernel_rfl), trivial⟩ (Eq.trans (b := mH mi ++ [.cells 0 (over [.int .i64 0, .int .i64 0, .str [], .sl .nil 0 []] 0 (((ttsC args).drop ((i : Int).toNat * 4)).take 4))]) (by kernel_rfl) (by rw [hld, over4 haC]))) ?_
        repeat first | refine opsStep ?_ | refine codeStep ?_ | refine drawStep ?_
        refine guardE_of (by show 0 + 4 ≤ a.cells.length; omega) ?_
        repeat first | refine opsStep ?_ | refine codeStep ?_ | refine drawStep ?_
        have hcl : (a.cells.drop 0).take 4 = a.cells := by rw [List.drop_zero, List.take_of_length_le (by omega)]
        have hrec' : ACall Tryd.prog 55 [wF, .agg ((a.cells.drop 0).take 4), .int .i64 (IntKind.wrap .i64 ((d : Int) + 1))] (mH mi) fun o H' => o = .ret (.bool (decide (wi.err = 0))) ∧ H' = mH wi := by rw [hcl]; exact hrec
        refine callT (args := [wF, .agg ((a.cells.drop 0).take 4), .int .i64 (IntKind.wrap .i64 ((d : Int) + 1))]) hrec' [.cells 0 a.cells] rfl rfl (by rw [hcl]; simp only [bels, AV.bel, wF]; exact ⟨⟨trivial, by show 1 < 2; decide, trivial⟩, haB, trivial, trivial⟩) (mH_bel mi) (mH_bel _) (by simp [AV.bel]) ?_
        repeat first | refine opsStep ?_ | refine codeStep ?_ | refine drawStep ?_
        refine decB_split (fun hb => ?_) (fun hb => ?_)
        · have hne : wi.err ≠ 0 := by simpa using hb
          rw [if_pos hne] at hstep
          repeat first | refine opsStep ?_ | refine codeStep ?_ | refine drawStep ?_
          refine finR (l := [(6, .bool false)]) (v := .bool false) (H₁ := mH wi ++ [.cells 0 a.cells]) ⟨(by kernel_rfl), trivial⟩ (by kernel_rfl) (Ent.frD (l := [(6, .bool false)]) ⟨(by kernel_rfl), trivial⟩ rfl (Nat.le_refl 2) (by simp [frBel, AV.bel]) (mH_bel _)) (by kernel_rfl) ⟨by rw [hstep, decide_eq_false hne], by rw [hstep]⟩
        · have hne : wi.err = 0 := by simpa using hb
          rw [if_neg (by simp [hne])] at hstep
          clear hb
          repeat first | refine opsStep ?_ | refine codeStep ?_ | refine drawStep ?_
          exact ⟨⟨(i + 1, wi), hi, hstep, hao' hne, hne⟩, (by show args.length - (i + 1) < args.length - i; omega), Ent.frD (X := [.cells 0 a.cells]) ⟨(by kernel_rfl), (by kernel_rfl), (by kernel_rfl), (by kernel_rfl), inc_slot (i := i) (by omega), trivial⟩ (by kernel_rfl) (Nat.le_refl 2) (by simp only [frBel, AV.bel, wF, bels]; exact ⟨⟨trivial, by show 1 < 2; decide, trivial⟩, trivial, closeds_bel _ (ttsC_closed _), trivial, trivial, trivial⟩) (mH_bel _)⟩
      · have hi : i = args.length := by have : ¬ (i : Int) < args.length := hlt; omega
        clear hlt
        subst hi
        rw [List.drop_length, ttsWalk] at h2
        subst h2
        repeat first | refine opsStep ?_ | refine codeStep ?_ | refine drawStep ?_
        exact finR (l := [(6, .bool true)]) (v := .bool true) (H₁ := mH w) ⟨(by kernel_rfl), trivial⟩ (by kernel_rfl) (Ent.refl _ _ _) (by kernel_rfl) ⟨by rw [decide_eq_true h4], rfl⟩

end Tab

/- Nodes of formulas that are well made. -/
namespace Tab
open Go Go.Proofs
set_option maxRecDepth 10000
set_option linter.unusedVariables false
set_option linter.unusedSimpArgs false
set_option linter.unusedSectionVars false
set_option maxHeartbeats 4000000

theorem tree_formula (f : FT) (hn : f.name.length < 2^62) : Pure Tryd.prog 102 [.agg f.cells] (.bool (goodF f)) := by
  rw [FT.cells_eq]
  rcases f with ⟨op, name, md, tk, terms, ak, args⟩
  simp only [FT.op, FT.name, FT.md, FT.tk, FT.terms, FT.ak, FT.args] at hn ⊢
  have hL0 : ((args.length : Int) = 0) ↔ args.length = 0 := by omega
  have hL1 : ((args.length : Int) = 1) ↔ args.length = 1 := by omega
  have hL2 : ((args.length : Int) = 2) ↔ args.length = 2 := by omega
  have hT0 : ((terms.length : Int) = 0) ↔ terms.length = 0 := by omega
  have hT2 : ((terms.length : Int) = 2) ↔ terms.length = 2 := by omega
  by_cases hr : 0 ≤ op ∧ op ≤ 15
  · rcases (by omega : op = 0 ∨ op = 1 ∨ op = 2 ∨ op = 3 ∨ op = 4 ∨ op = 5 ∨ op = 6 ∨ op = 7 ∨ op = 8 ∨ op = 9 ∨ op = 10 ∨ op = 11 ∨ op = 12 ∨ op = 13 ∨ op = 14 ∨ op = 15) with hop | hop | hop | hop | hop | hop | hop | hop | hop | hop | hop | hop | hop | hop | hop | hop
    · subst hop
      refine Pure.of_sw 132 Tryd.func102 rfl Tryd.ntmps102 (by kernel_rfl) (Nat.le_of_ble_eq_true (by kernel_rfl)) (by simp only [closeds]; exact ⟨fC5_closed 0 name md tk terms ak args, trivial⟩) (by simp only [AV.closed]) ?_
      refine SW.of_vc ?_
      repeat' first | refine opsStep ?_ | refine codeStep ?_ | refine decB_split (fun h => ?_) (fun h => ?_)
      all_goals
        refine SW.drawn rfl (by kernel_rfl) ?_
        repeat first | refine opsStep ?_ | refine codeStep ?_ | refine drawStep ?_
        refine ⟨by kernel_rfl, ?_⟩
        repeat' first | refine opsStep ?_ | refine codeStep ?_ | refine decB_split (fun h => ?_) (fun h => ?_)
      all_goals exact finB rfl (by first | (simp_all [goodF, FT.op, FT.name, FT.md, FT.terms, FT.args]; done) | (clear hr; simp only [goodF, FT.op, FT.name, FT.md, FT.terms, FT.args]; by_cases q1 : name = [] <;> by_cases q2 : md = 0 <;> by_cases q3 : 1 ≤ md <;> by_cases q4 : nameS name = true <;> by_cases q5 : terms = [] <;> by_cases q6 : args = [] <;> simp_all <;> first | rfl | omega | exact decide_eq_false (by omega) | (intro hh; exact absurd (of_decide_eq_true hh) (by omega))))
    · subst hop
      refine Pure.of_sw 132 Tryd.func102 rfl Tryd.ntmps102 (by kernel_rfl) (Nat.le_of_ble_eq_true (by kernel_rfl)) (by simp only [closeds]; exact ⟨fC5_closed 1 name md tk terms ak args, trivial⟩) (by simp only [AV.closed]) ?_
      refine SW.of_vc ?_
      repeat' first | refine opsStep ?_ | refine codeStep ?_ | refine decB_split (fun h => ?_) (fun h => ?_)
      all_goals
        refine SW.drawn rfl (by kernel_rfl) ?_
        repeat first | refine opsStep ?_ | refine codeStep ?_ | refine drawStep ?_
        refine ⟨by kernel_rfl, ?_⟩
        repeat' first | refine opsStep ?_ | refine codeStep ?_ | refine decB_split (fun h => ?_) (fun h => ?_)
      all_goals exact finB rfl (by first | (simp_all [goodF, FT.op, FT.name, FT.md, FT.terms, FT.args]; done) | (clear hr; simp only [goodF, FT.op, FT.name, FT.md, FT.terms, FT.args]; by_cases q1 : name = [] <;> by_cases q2 : md = 0 <;> by_cases q3 : 1 ≤ md <;> by_cases q4 : nameS name = true <;> by_cases q5 : terms = [] <;> by_cases q6 : args = [] <;> simp_all <;> first | rfl | omega | exact decide_eq_false (by omega) | (intro hh; exact absurd (of_decide_eq_true hh) (by omega))))
    · subst hop
      refine Pure.of_sw 132 Tryd.func102 rfl Tryd.ntmps102 (by kernel_rfl) (Nat.le_of_ble_eq_true (by kernel_rfl)) (by simp only [closeds]; exact ⟨fC5_closed 2 name md tk terms ak args, trivial⟩) (by simp only [AV.closed]) ?_
      refine SW.of_vc ?_
      repeat' first | refine opsStep ?_ | refine codeStep ?_ | refine decB_split (fun h => ?_) (fun h => ?_)
      all_goals
        refine SW.drawn rfl (by kernel_rfl) ?_
        repeat first | refine opsStep ?_ | refine codeStep ?_ | refine drawStep ?_
        refine ⟨by kernel_rfl, ?_⟩
        repeat' first | refine opsStep ?_ | refine codeStep ?_ | refine decB_split (fun h => ?_) (fun h => ?_)
      all_goals exact finB rfl (by first | (simp_all [goodF, FT.op, FT.name, FT.md, FT.terms, FT.args]; done) | (clear hr; simp only [goodF, FT.op, FT.name, FT.md, FT.terms, FT.args]; by_cases q1 : name = [] <;> by_cases q2 : md = 0 <;> by_cases q3 : 1 ≤ md <;> by_cases q4 : nameS name = true <;> by_cases q5 : terms = [] <;> by_cases q6 : args = [] <;> simp_all <;> first | rfl | omega | exact decide_eq_false (by omega) | (intro hh; exact absurd (of_decide_eq_true hh) (by omega))))
    · subst hop
      refine Pure.of_sw 132 Tryd.func102 rfl Tryd.ntmps102 (by kernel_rfl) (Nat.le_of_ble_eq_true (by kernel_rfl)) (by simp only [closeds]; exact ⟨fC5_closed 3 name md tk terms ak args, trivial⟩) (by simp only [AV.closed]) ?_
      refine SW.of_vc ?_
      repeat' first | refine opsStep ?_ | refine codeStep ?_ | refine decB_split (fun h => ?_) (fun h => ?_)
      all_goals
        refine SW.drawn rfl (by kernel_rfl) ?_
        repeat first | refine opsStep ?_ | refine codeStep ?_ | refine drawStep ?_
        refine ⟨by kernel_rfl, ?_⟩
        repeat' first | refine opsStep ?_ | refine codeStep ?_ | refine decB_split (fun h => ?_) (fun h => ?_)
      all_goals exact finB rfl (by first | (simp_all [goodF, FT.op, FT.name, FT.md, FT.terms, FT.args]; done) | (clear hr; simp only [goodF, FT.op, FT.name, FT.md, FT.terms, FT.args]; by_cases q1 : name = [] <;> by_cases q2 : md = 0 <;> by_cases q3 : 1 ≤ md <;> by_cases q4 : nameS name = true <;> by_cases q5 : terms = [] <;> by_cases q6 : args = [] <;> simp_all <;> first | rfl | omega | exact decide_eq_false (by omega) | (intro hh; exact absurd (of_decide_eq_true hh) (by omega))))
    · subst hop
      refine Pure.of_sw 132 Tryd.func102 rfl Tryd.ntmps102 (by kernel_rfl) (Nat.le_of_ble_eq_true (by kernel_rfl)) (by simp only [closeds]; exact ⟨fC5_closed 4 name md tk terms ak args, trivial⟩) (by simp only [AV.closed]) ?_
      refine SW.of_vc ?_
      repeat' first | refine opsStep ?_ | refine codeStep ?_ | refine decB_split (fun h => ?_) (fun h => ?_)
      all_goals
        refine SW.drawn rfl (by kernel_rfl) ?_
        repeat first | refine opsStep ?_ | refine codeStep ?_ | refine drawStep ?_
        refine ⟨by kernel_rfl, ?_⟩
        repeat' first | refine opsStep ?_ | refine codeStep ?_ | refine decB_split (fun h => ?_) (fun h => ?_)
      all_goals exact finB rfl (by first | (simp_all [goodF, FT.op, FT.name, FT.md, FT.terms, FT.args]; done) | (clear hr; simp only [goodF, FT.op, FT.name, FT.md, FT.terms, FT.args]; by_cases q1 : name = [] <;> by_cases q2 : md = 0 <;> by_cases q3 : 1 ≤ md <;> by_cases q4 : nameS name = true <;> by_cases q5 : terms = [] <;> by_cases q6 : args = [] <;> simp_all <;> first | rfl | omega | exact decide_eq_false (by omega) | (intro hh; exact absurd (of_decide_eq_true hh) (by omega))))
    · subst hop
      refine Pure.of_sw 132 Tryd.func102 rfl Tryd.ntmps102 (by kernel_rfl) (Nat.le_of_ble_eq_true (by kernel_rfl)) (by simp only [closeds]; exact ⟨fC5_closed 5 name md tk terms ak args, trivial⟩) (by simp only [AV.closed]) ?_
      refine SW.of_vc ?_
      repeat' first | refine opsStep ?_ | refine codeStep ?_ | refine decB_split (fun h => ?_) (fun h => ?_)
      all_goals
        refine SW.drawn rfl (by kernel_rfl) ?_
        repeat first | refine opsStep ?_ | refine codeStep ?_ | refine drawStep ?_
        refine ⟨by kernel_rfl, ?_⟩
        repeat' first | refine opsStep ?_ | refine codeStep ?_ | refine decB_split (fun h => ?_) (fun h => ?_)
      all_goals exact finB rfl (by first | (simp_all [goodF, FT.op, FT.name, FT.md, FT.terms, FT.args]; done) | (clear hr; simp only [goodF, FT.op, FT.name, FT.md, FT.terms, FT.args]; by_cases q1 : name = [] <;> by_cases q2 : md = 0 <;> by_cases q3 : 1 ≤ md <;> by_cases q4 : nameS name = true <;> by_cases q5 : terms = [] <;> by_cases q6 : args = [] <;> simp_all <;> first | rfl | omega | exact decide_eq_false (by omega) | (intro hh; exact absurd (of_decide_eq_true hh) (by omega))))
    · subst hop
      refine Pure.of_sw 132 Tryd.func102 rfl Tryd.ntmps102 (by kernel_rfl) (Nat.le_of_ble_eq_true (by kernel_rfl)) (by simp only [closeds]; exact ⟨fC5_closed 6 name md tk terms ak args, trivial⟩) (by simp only [AV.closed]) ?_
      refine SW.of_vc ?_
      repeat' first | refine opsStep ?_ | refine codeStep ?_ | refine decB_split (fun h => ?_) (fun h => ?_)
      all_goals
        refine SW.drawn rfl (by kernel_rfl) ?_
        repeat first | refine opsStep ?_ | refine codeStep ?_ | refine drawStep ?_
        refine ⟨by kernel_rfl, ?_⟩
        repeat' first | refine opsStep ?_ | refine codeStep ?_ | refine decB_split (fun h => ?_) (fun h => ?_)
      all_goals exact finB rfl (by first | (simp_all [goodF, FT.op, FT.name, FT.md, FT.terms, FT.args]; done) | (clear hr; simp only [goodF, FT.op, FT.name, FT.md, FT.terms, FT.args]; by_cases q1 : name = [] <;> by_cases q2 : md = 0 <;> by_cases q3 : 1 ≤ md <;> by_cases q4 : nameS name = true <;> by_cases q5 : terms = [] <;> by_cases q6 : args = [] <;> simp_all <;> first | rfl | omega | exact decide_eq_false (by omega) | (intro hh; exact absurd (of_decide_eq_true hh) (by omega))))
    · subst hop
      refine Pure.of_sw 132 Tryd.func102 rfl Tryd.ntmps102 (by kernel_rfl) (Nat.le_of_ble_eq_true (by kernel_rfl)) (by simp only [closeds]; exact ⟨fC5_closed 7 name md tk terms ak args, trivial⟩) (by simp only [AV.closed]) ?_
      refine SW.of_vc ?_
      repeat' first | refine opsStep ?_ | refine codeStep ?_ | refine decB_split (fun h => ?_) (fun h => ?_)
      all_goals
        refine SW.drawn rfl (by kernel_rfl) ?_
        repeat first | refine opsStep ?_ | refine codeStep ?_ | refine drawStep ?_
        refine ⟨by kernel_rfl, ?_⟩
        repeat first | refine opsStep ?_ | refine codeStep ?_ | refine drawStep ?_
        refine callP (glyph_Name name hn) ?_
        repeat' first | refine opsStep ?_ | refine codeStep ?_ | refine decB_split (fun h => ?_) (fun h => ?_)
      all_goals exact finB rfl (by first | (simp_all [goodF, FT.op, FT.name, FT.md, FT.terms, FT.args]; done) | (clear hr; simp only [goodF, FT.op, FT.name, FT.md, FT.terms, FT.args]; by_cases q1 : name = [] <;> by_cases q2 : md = 0 <;> by_cases q3 : 1 ≤ md <;> by_cases q4 : nameS name = true <;> by_cases q5 : terms = [] <;> by_cases q6 : args = [] <;> simp_all <;> first | rfl | omega | exact decide_eq_false (by omega) | (intro hh; exact absurd (of_decide_eq_true hh) (by omega))))
    · subst hop
      refine Pure.of_sw 132 Tryd.func102 rfl Tryd.ntmps102 (by kernel_rfl) (Nat.le_of_ble_eq_true (by kernel_rfl)) (by simp only [closeds]; exact ⟨fC5_closed 8 name md tk terms ak args, trivial⟩) (by simp only [AV.closed]) ?_
      refine SW.of_vc ?_
      repeat' first | refine opsStep ?_ | refine codeStep ?_ | refine decB_split (fun h => ?_) (fun h => ?_)
      all_goals
        refine SW.drawn rfl (by kernel_rfl) ?_
        repeat first | refine opsStep ?_ | refine codeStep ?_ | refine drawStep ?_
        refine ⟨by kernel_rfl, ?_⟩
        repeat first | refine opsStep ?_ | refine codeStep ?_ | refine drawStep ?_
        refine callP (glyph_Name name hn) ?_
        repeat' first | refine opsStep ?_ | refine codeStep ?_ | refine decB_split (fun h => ?_) (fun h => ?_)
      all_goals exact finB rfl (by first | (simp_all [goodF, FT.op, FT.name, FT.md, FT.terms, FT.args]; done) | (clear hr; simp only [goodF, FT.op, FT.name, FT.md, FT.terms, FT.args]; by_cases q1 : name = [] <;> by_cases q2 : md = 0 <;> by_cases q3 : 1 ≤ md <;> by_cases q4 : nameS name = true <;> by_cases q5 : terms = [] <;> by_cases q6 : args = [] <;> simp_all <;> first | rfl | omega | exact decide_eq_false (by omega) | (intro hh; exact absurd (of_decide_eq_true hh) (by omega))))
    · subst hop
      refine Pure.of_sw 132 Tryd.func102 rfl Tryd.ntmps102 (by kernel_rfl) (Nat.le_of_ble_eq_true (by kernel_rfl)) (by simp only [closeds]; exact ⟨fC5_closed 9 name md tk terms ak args, trivial⟩) (by simp only [AV.closed]) ?_
      refine SW.of_vc ?_
      repeat' first | refine opsStep ?_ | refine codeStep ?_ | refine decB_split (fun h => ?_) (fun h => ?_)
      all_goals
        refine SW.drawn rfl (by kernel_rfl) ?_
        repeat first | refine opsStep ?_ | refine codeStep ?_ | refine drawStep ?_
        refine ⟨by kernel_rfl, ?_⟩
        repeat' first | refine opsStep ?_ | refine codeStep ?_ | refine decB_split (fun h => ?_) (fun h => ?_)
      all_goals exact finB rfl (by first | (simp_all [goodF, FT.op, FT.name, FT.md, FT.terms, FT.args]; done) | (clear hr; simp only [goodF, FT.op, FT.name, FT.md, FT.terms, FT.args]; by_cases q1 : name = [] <;> by_cases q2 : md = 0 <;> by_cases q3 : 1 ≤ md <;> by_cases q4 : nameS name = true <;> by_cases q5 : terms = [] <;> by_cases q6 : args = [] <;> simp_all <;> first | rfl | omega | exact decide_eq_false (by omega) | (intro hh; exact absurd (of_decide_eq_true hh) (by omega))))
    · subst hop
      refine Pure.of_sw 132 Tryd.func102 rfl Tryd.ntmps102 (by kernel_rfl) (Nat.le_of_ble_eq_true (by kernel_rfl)) (by simp only [closeds]; exact ⟨fC5_closed 10 name md tk terms ak args, trivial⟩) (by simp only [AV.closed]) ?_
      refine SW.of_vc ?_
      repeat' first | refine opsStep ?_ | refine codeStep ?_ | refine decB_split (fun h => ?_) (fun h => ?_)
      all_goals
        refine SW.drawn rfl (by kernel_rfl) ?_
        repeat first | refine opsStep ?_ | refine codeStep ?_ | refine drawStep ?_
        refine ⟨by kernel_rfl, ?_⟩
        repeat' first | refine opsStep ?_ | refine codeStep ?_ | refine decB_split (fun h => ?_) (fun h => ?_)
      all_goals exact finB rfl (by first | (simp_all [goodF, FT.op, FT.name, FT.md, FT.terms, FT.args]; done) | (clear hr; simp only [goodF, FT.op, FT.name, FT.md, FT.terms, FT.args]; by_cases q1 : name = [] <;> by_cases q2 : md = 0 <;> by_cases q3 : 1 ≤ md <;> by_cases q4 : nameS name = true <;> by_cases q5 : terms = [] <;> by_cases q6 : args = [] <;> simp_all <;> first | rfl | omega | exact decide_eq_false (by omega) | (intro hh; exact absurd (of_decide_eq_true hh) (by omega))))
    · subst hop
      refine Pure.of_sw 132 Tryd.func102 rfl Tryd.ntmps102 (by kernel_rfl) (Nat.le_of_ble_eq_true (by kernel_rfl)) (by simp only [closeds]; exact ⟨fC5_closed 11 name md tk terms ak args, trivial⟩) (by simp only [AV.closed]) ?_
      refine SW.of_vc ?_
      repeat' first | refine opsStep ?_ | refine codeStep ?_ | refine decB_split (fun h => ?_) (fun h => ?_)
      all_goals
        refine SW.drawn rfl (by kernel_rfl) ?_
        repeat first | refine opsStep ?_ | refine codeStep ?_ | refine drawStep ?_
        refine ⟨by kernel_rfl, ?_⟩
        repeat' first | refine opsStep ?_ | refine codeStep ?_ | refine decB_split (fun h => ?_) (fun h => ?_)
      all_goals exact finB rfl (by first | (simp_all [goodF, FT.op, FT.name, FT.md, FT.terms, FT.args]; done) | (clear hr; simp only [goodF, FT.op, FT.name, FT.md, FT.terms, FT.args]; by_cases q1 : name = [] <;> by_cases q2 : md = 0 <;> by_cases q3 : 1 ≤ md <;> by_cases q4 : nameS name = true <;> by_cases q5 : terms = [] <;> by_cases q6 : args = [] <;> simp_all <;> first | rfl | omega | exact decide_eq_false (by omega) | (intro hh; exact absurd (of_decide_eq_true hh) (by omega))))
    · subst hop
      refine Pure.of_sw 132 Tryd.func102 rfl Tryd.ntmps102 (by kernel_rfl) (Nat.le_of_ble_eq_true (by kernel_rfl)) (by simp only [closeds]; exact ⟨fC5_closed 12 name md tk terms ak args, trivial⟩) (by simp only [AV.closed]) ?_
      refine SW.of_vc ?_
      repeat' first | refine opsStep ?_ | refine codeStep ?_ | refine decB_split (fun h => ?_) (fun h => ?_)
      all_goals
        refine SW.drawn rfl (by kernel_rfl) ?_
        repeat first | refine opsStep ?_ | refine codeStep ?_ | refine drawStep ?_
        refine ⟨by kernel_rfl, ?_⟩
        repeat' first | refine opsStep ?_ | refine codeStep ?_ | refine decB_split (fun h => ?_) (fun h => ?_)
      all_goals exact finB rfl (by first | (simp_all [goodF, FT.op, FT.name, FT.md, FT.terms, FT.args]; done) | (clear hr; simp only [goodF, FT.op, FT.name, FT.md, FT.terms, FT.args]; by_cases q1 : name = [] <;> by_cases q2 : md = 0 <;> by_cases q3 : 1 ≤ md <;> by_cases q4 : nameS name = true <;> by_cases q5 : terms = [] <;> by_cases q6 : args = [] <;> simp_all <;> first | rfl | omega | exact decide_eq_false (by omega) | (intro hh; exact absurd (of_decide_eq_true hh) (by omega))))
    · subst hop
      refine Pure.of_sw 132 Tryd.func102 rfl Tryd.ntmps102 (by kernel_rfl) (Nat.le_of_ble_eq_true (by kernel_rfl)) (by simp only [closeds]; exact ⟨fC5_closed 13 name md tk terms ak args, trivial⟩) (by simp only [AV.closed]) ?_
      refine SW.of_vc ?_
      repeat' first | refine opsStep ?_ | refine codeStep ?_ | refine decB_split (fun h => ?_) (fun h => ?_)
      all_goals
        refine SW.drawn rfl (by kernel_rfl) ?_
        repeat first | refine opsStep ?_ | refine codeStep ?_ | refine drawStep ?_
        refine ⟨by kernel_rfl, ?_⟩
        repeat' first | refine opsStep ?_ | refine codeStep ?_ | refine decB_split (fun h => ?_) (fun h => ?_)
      all_goals exact finB rfl (by first | (simp_all [goodF, FT.op, FT.name, FT.md, FT.terms, FT.args]; done) | (clear hr; simp only [goodF, FT.op, FT.name, FT.md, FT.terms, FT.args]; by_cases q1 : name = [] <;> by_cases q2 : md = 0 <;> by_cases q3 : 1 ≤ md <;> by_cases q4 : nameS name = true <;> by_cases q5 : terms = [] <;> by_cases q6 : args = [] <;> simp_all <;> first | rfl | omega | exact decide_eq_false (by omega) | (intro hh; exact absurd (of_decide_eq_true hh) (by omega))))
    · subst hop
      refine Pure.of_sw 132 Tryd.func102 rfl Tryd.ntmps102 (by kernel_rfl) (Nat.le_of_ble_eq_true (by kernel_rfl)) (by simp only [closeds]; exact ⟨fC5_closed 14 name md tk terms ak args, trivial⟩) (by simp only [AV.closed]) ?_
      refine SW.of_vc ?_
      repeat' first | refine opsStep ?_ | refine codeStep ?_ | refine decB_split (fun h => ?_) (fun h => ?_)
      all_goals
        refine SW.drawn rfl (by kernel_rfl) ?_
        repeat first | refine opsStep ?_ | refine codeStep ?_ | refine drawStep ?_
        refine ⟨by kernel_rfl, ?_⟩
        repeat' first | refine opsStep ?_ | refine codeStep ?_ | refine decB_split (fun h => ?_) (fun h => ?_)
      all_goals exact finB rfl (by first | (simp_all [goodF, FT.op, FT.name, FT.md, FT.terms, FT.args]; done) | (clear hr; simp only [goodF, FT.op, FT.name, FT.md, FT.terms, FT.args]; by_cases q1 : name = [] <;> by_cases q2 : md = 0 <;> by_cases q3 : 1 ≤ md <;> by_cases q4 : nameS name = true <;> by_cases q5 : terms = [] <;> by_cases q6 : args = [] <;> simp_all <;> first | rfl | omega | exact decide_eq_false (by omega) | (intro hh; exact absurd (of_decide_eq_true hh) (by omega))))
    · subst hop
      refine Pure.of_sw 132 Tryd.func102 rfl Tryd.ntmps102 (by kernel_rfl) (Nat.le_of_ble_eq_true (by kernel_rfl)) (by simp only [closeds]; exact ⟨fC5_closed 15 name md tk terms ak args, trivial⟩) (by simp only [AV.closed]) ?_
      refine SW.of_vc ?_
      repeat' first | refine opsStep ?_ | refine codeStep ?_ | refine decB_split (fun h => ?_) (fun h => ?_)
      all_goals
        refine SW.drawn rfl (by kernel_rfl) ?_
        repeat first | refine opsStep ?_ | refine codeStep ?_ | refine drawStep ?_
        refine ⟨by kernel_rfl, ?_⟩
        repeat' first | refine opsStep ?_ | refine codeStep ?_ | refine decB_split (fun h => ?_) (fun h => ?_)
      all_goals exact finB rfl (by first | (simp_all [goodF, FT.op, FT.name, FT.md, FT.terms, FT.args]; done) | (clear hr; simp only [goodF, FT.op, FT.name, FT.md, FT.terms, FT.args]; by_cases q1 : name = [] <;> by_cases q2 : md = 0 <;> by_cases q3 : 1 ≤ md <;> by_cases q4 : nameS name = true <;> by_cases q5 : terms = [] <;> by_cases q6 : args = [] <;> simp_all <;> first | rfl | omega | exact decide_eq_false (by omega) | (intro hh; exact absurd (of_decide_eq_true hh) (by omega))))
  · skip
    have hg : goodF ⟨op, name, md, tk, terms, ak, args⟩ = false := by
      show (if op = 0 ∨ op = 1 then decide (name = []) && decide (md = 0) && decide (terms.length = 0) && decide (args.length = 0)
        else if op = 2 then decide (name = []) && decide (md = 0) && decide (terms.length = 0) && decide (args.length = 1)
        else if 3 ≤ op ∧ op ≤ 6 then decide (name = []) && decide (md = 0) && decide (terms.length = 0) && decide (args.length = 2)
        else if op = 7 ∨ op = 8 then nameS name && decide (md = 0) && decide (terms.length = 0) && decide (args.length = 1)
        else if 9 ≤ op ∧ op ≤ 14 then decide (name = []) && decide (md = 0) && decide (terms.length = 2) && decide (args.length = 0)
        else if op = 15 then decide (name = []) && decide (1 ≤ md) && decide (terms.length = 2) && decide (args.length = 0)
        else false) = false
      rw [if_neg (by omega), if_neg (by omega), if_neg (by omega), if_neg (by omega), if_neg (by omega), if_neg (by omega)]
    rw [hg]
    refine Pure.of_sw 132 Tryd.func102 rfl Tryd.ntmps102 (by kernel_rfl) (Nat.le_of_ble_eq_true (by kernel_rfl)) (by simp only [closeds]; exact ⟨fC5_closed op name md tk terms ak args, trivial⟩) (by simp only [AV.closed]) ?_
    refine SW.of_vc ?_
    repeat' first | refine opsStep ?_ | refine codeStep ?_ | refine decB_split (fun h => ?_) (fun h => ?_)
    all_goals
      refine SW.drawn rfl (by kernel_rfl) ?_
      repeat first | refine opsStep ?_ | refine codeStep ?_ | refine drawStep ?_
      refine ⟨by kernel_rfl, ?_⟩
      repeat' first | refine opsStep ?_ | refine codeStep ?_ | refine decB_split (fun h => ?_) (fun h => ?_)
    all_goals first
      | exact finB (b' := false) rfl rfl
      | (exfalso; simp_all <;> omega)

end Tab

/- The walk over a formula. -/
namespace Tab
open Go Go.Proofs
set_option maxRecDepth 10000
set_option linter.unusedVariables false
set_option linter.unusedSimpArgs false
set_option linter.unusedSectionVars false
set_option maxHeartbeats 1000000

mutual
theorem FT.walk_dep : ∀ (t : FT) (d : Nat) (m : Ms), (t.walk d m).err = 0 → m.depth ≤ 100 → (t.walk d m).depth ≤ 100
  | .mk op name md tk terms ak args, d, m, h, hm => by
    rw [FT.walk] at h ⊢
    by_cases hn : (nodeM m d (goodF (.mk op name md tk terms ak args))).err ≠ 0
    · rw [if_pos hn] at h; exact absurd h hn
    · rw [if_neg hn] at h ⊢
      obtain ⟨_, _, n3, _, _⟩ := nodeM_ok (Decidable.of_not_not hn)
      by_cases ht : (ttsWalk terms (d + 1) (nodeM m d (goodF (.mk op name md tk terms ak args)))).err ≠ 0
      · rw [if_pos ht] at h; exact absurd h ht
      · rw [if_neg ht] at h ⊢
        exact ftsWalk_dep args _ _ h (ttsWalk_dep terms _ _ (Decidable.of_not_not ht) (by simp only [nodeM]; omega))
theorem ftsWalk_dep : ∀ (l : List FT) (d : Nat) (m : Ms), (ftsWalk l d m).err = 0 → m.depth ≤ 100 → (ftsWalk l d m).depth ≤ 100
  | [], d, m, h, hm => by simpa [ftsWalk] using hm
  | t :: l, d, m, h, hm => by
    rw [ftsWalk] at h ⊢
    by_cases hn : (t.walk d m).err ≠ 0
    · rw [if_pos hn] at h; exact absurd h hn
    · rw [if_neg hn] at h ⊢
      exact ftsWalk_dep l d _ h (FT.walk_dep t d m (Decidable.of_not_not hn) hm)
end
theorem FT.walk_ok {t : FT} {d : Nat} {m : Ms} (h : MsOk m d) (he : (t.walk d m).err = 0) : MsOk (t.walk d m) d :=
  ⟨(FT.walk_right t d m he).2.2, FT.walk_dep t d m he h.dep, h.d⟩
theorem fts_nodes : ∀ {l : List FT} {i : Nat} (h : i < l.length), (l[i]'h).nodes ≤ ftsNodes l
  | t :: l, 0, h => by rw [ftsNodes]; show t.nodes ≤ _; omega
  | t :: l, i + 1, h => by rw [ftsNodes]; have := fts_nodes (l := l) (i := i) (by simpa using h); show (l[i]'_).nodes ≤ _; omega
theorem ftsWalk_drop {l : List FT} {i : Nat} (h : i < l.length) (d : Nat) (m : Ms) : ftsWalk (l.drop i) d m = if ((l[i]'h).walk d m).err ≠ 0 then (l[i]'h).walk d m else ftsWalk (l.drop (i + 1)) d ((l[i]'h).walk d m) := by
  rw [List.drop_eq_getElem_cons h, ftsWalk]
theorem over5 {l : List AV} (h : l.length = 5) (a b c d e : AV) : over [a, b, c, d, e] 0 l = l := by
  rw [over, h]; simp

theorem walk_formula : ∀ (n : Nat) (f : FT), f.nodes ≤ n → f.ok → ∀ (m : Ms) (d : Nat), MsOk m d → m.err = 0 → ACall Tryd.prog 73 [wF, .agg f.cells, .int .i64 d] (mH m) fun o H' => o = .ret (.bool (decide ((f.walk d m).err = 0))) ∧ H' = mH (f.walk d m) := by
  intro n
  induction n with
  | zero => intro t h; rcases t with ⟨op, name, md, tk, terms, ak, args⟩; rw [FT.nodes] at h; omega
  | succ n ih =>
    intro f hnodes hok m d hm he
    have hgood := tree_formula f (by cases f; rw [FT.ok] at hok; have := hok.2.1; show List.length _ < _; simp only [FT.name]; omega)
    rw [FT.cells_eq] at hgood ⊢
    rcases f with ⟨op, name, md, tk, terms, ak, args⟩
    have hwk : FT.walk ⟨op, name, md, tk, terms, ak, args⟩ d m = if (nodeM m d (goodF ⟨op, name, md, tk, terms, ak, args⟩)).err ≠ 0 then nodeM m d (goodF ⟨op, name, md, tk, terms, ak, args⟩) else if (ttsWalk terms (d + 1) (nodeM m d (goodF ⟨op, name, md, tk, terms, ak, args⟩))).err ≠ 0 then ttsWalk terms (d + 1) (nodeM m d (goodF ⟨op, name, md, tk, terms, ak, args⟩)) else ftsWalk args (d + 1) (ttsWalk terms (d + 1) (nodeM m d (goodF ⟨op, name, md, tk, terms, ak, args⟩))) := by rw [FT.walk]
    rw [FT.ok] at hok
    rw [FT.nodes] at hnodes
    generalize goodF ⟨op, name, md, tk, terms, ak, args⟩ = g at *
    generalize FT.walk ⟨op, name, md, tk, terms, ak, args⟩ d m = w at *
    simp only [FT.op, FT.name, FT.md, FT.tk, FT.terms, FT.ak, FT.args] at hgood ⊢
    have htl := hok.2.2.2.1
    have hto := hok.2.2.2.2.1
    have hal := hok.2.2.2.2.2.1
    have hao := hok.2.2.2.2.2.2
    have hd := hm.d
    have hdi : IntKind.wrap .i64 ((d : Int) + 1) = ((d + 1 : Nat) : Int) := by rw [IntWalk.i64_in _ (by omega)]; simp
    have hFB : bels 3 (fC5 op name md tk terms ak args) := by simp only [bels, AV.bel]; exact ⟨trivial, trivial, trivial, closeds_bel _ (ttsC_closed _), closeds_bel _ (ftsC_closed _), trivial⟩
    refine ACall.of_sw 45 Tryd.func73 rfl Tryd.ntmps73 (by kernel_rfl) (Nat.le_of_ble_eq_true (by kernel_rfl)) ?_; refine SW.of_vc ?_
    repeat first | refine opsStep ?_ | refine codeStep ?_ | refine drawStep ?_
    refine callP hgood ?_
    repeat first | refine opsStep ?_ | refine codeStep ?_ | refine drawStep ?_
    refine callT (args := [.int .i64 d, .bool g, .ref 1 0 0]) (met1 m d g hm he) [.cells 0 (fC5 op name md tk terms ak args)] rfl rfl (by simp [bels, AV.bel]) (mH_bel m) (mH_bel _) (by simp [AV.bel]) ?_
    repeat first | refine opsStep ?_ | refine codeStep ?_ | refine drawStep ?_
    refine decB_split (fun h => ?_) (fun h => ?_)
    · have hne : (nodeM m d g).err ≠ 0 := by simpa using h
      rw [if_pos hne] at hwk
      repeat first | refine opsStep ?_ | refine codeStep ?_ | refine drawStep ?_
      refine finR (l := [(6, .bool false)]) (v := .bool false) (H₁ := mH (nodeM m d g) ++ [.cells 0 (fC5 op name md tk terms ak args)]) ⟨(by kernel_rfl), trivial⟩ (by kernel_rfl) (Ent.frD (l := [(6, .bool false)]) ⟨(by kernel_rfl), trivial⟩ rfl (Nat.le_refl 2) (by simp [frBel, AV.bel]) (mH_bel _)) (by kernel_rfl) ⟨by rw [hwk, decide_eq_false hne], by rw [hwk]⟩
    · have hne : (nodeM m d g).err = 0 := by simpa using h
      rw [if_neg (by simp [hne])] at hwk
      have hm1 := nodeM_bd hm hne
      clear h
      repeat first | refine opsStep ?_ | refine codeStep ?_ | refine drawStep ?_
      refine loopE_of (ι := {x : Nat × Ms // x.1 ≤ terms.length ∧ ttsWalk terms (d + 1) (nodeM m d g) = ttsWalk (terms.drop x.1) (d + 1) x.2 ∧ MsOk x.2 (d + 1) ∧ x.2.err = 0}) (fun x => (fr [(0, wF), (2, .int .i64 d), (4, .ref 2 0 0), (18, .sl tk terms.length (ttsC terms)), (19, .int .i64 terms.length), (20, .int .i64 x.1.1)], mH x.1.2 ++ [.cells 0 (fC5 op name md tk terms ak args)])) (fun x => terms.length - x.1.1)
        ⟨(0, nodeM m d g), Nat.zero_le _, rfl, hm1, hne⟩ (Ent.fr' ⟨(by kernel_rfl), (by kernel_rfl), (by kernel_rfl), (by kernel_rfl), (by kernel_rfl), (by kernel_rfl), trivial⟩ (by kernel_rfl)) ?_
      rintro ⟨⟨i, mi⟩, h1, h2, h3, h4⟩
      simp only at h1 h2 h3 h4
      repeat first | refine opsStep ?_ | refine codeStep ?_ | refine drawStep ?_
      refine decB_dec (fun hlt => ?_) (fun hlt => ?_)
      · have hi : i < terms.length := by have : (i : Int) < terms.length := hlt; omega
        clear hlt
        have hld : ((ttsC terms).drop ((i : Int).toNat * 4)).take 4 = (terms[i]'hi).cells := by rw [Int.toNat_natCast]; exact ttsC_at hi
        have hfit : 4 ≤ ((ttsC terms).drop ((i : Int).toNat * 4)).length := by rw [List.length_drop, ttsC_len, Int.toNat_natCast]; omega
        have hrec := walk_term _ (terms[i]'hi) (Nat.le_refl _) (ttsOk_iff.1 hto _ (List.getElem_mem hi)) mi (d + 1) h3 h4
        have hstep := ttsWalk_drop hi (d + 1) mi
        rw [← h2] at hstep
        have hao' := @TT.walk_ok (terms[i]'hi) (d + 1) mi h3
        have haC := TT.cells_len (terms[i]'hi)
        have haB : bels 2 (terms[i]'hi).cells := closeds_bel _ (TT.cells_closed (terms[i]'hi))
        rw [← hdi] at hrec
        generalize terms[i]'hi = a at *
        generalize TT.walk a (d + 1) mi = wi at *
        repeat first | refine opsStep ?_ | refine codeStep ?_ | refine drawStep ?_
        refine guardE_of ⟨by omega, by show (i : Int) < terms.length; omega⟩ ?_
        repeat first | refine opsStep ?_ | refine codeStep ?_ | refine drawStep ?_
        refine guardE_of hfit ?_
        repeat first | refine opsStep ?_ | refine codeStep ?_ | refine drawStep ?_
        refine guardE_of ⟨by show (((ttsC terms).drop ((i : Int).toNat * 4)).take 4).length = 4; rw [hld]; exact haC, by decide, by decide⟩ ?_
        iterate 1 refine opsStep ?_
        refine VCode.ent (Ent.fr' (l := [(0, wF), (2, .int .i64 d), (4, .ref 2 0 0), (8, .ref 3 0 0), (18, .sl tk terms.length (ttsC terms)), (19, .int .i64 terms.length), (20, .int .i64 i)]) (H' := mH mi ++ [.cells 0 (fC5 op name md tk terms ak args), .cells 0 a.cells]) ⟨(by kernel_rfl), (by kernel_rfl), (by kernel_rfl), (by kernel_rfl), (by kernel_rfl), (by kernel_rfl), (by kernel_rfl), trivial⟩ (Eq.trans (b := mH mi ++ [.cells 0 (fC5 op name md tk terms ak args), .cells 0 (over [.int .i64 0, .int .i64 0, .str [], .sl .nil 0 []] 0 (((ttsC terms).drop ((i : Int).toNat * 4)).take 4))]) (by kernel_rfl) (by rw [hld, over4 haC]))) ?_
        repeat first | refine opsStep ?_ | refine codeStep ?_ | refine drawStep ?_
        refine guardE_of (by show 0 + 4 ≤ a.cells.length; omega) ?_
        repeat first | refine opsStep ?_ | refine codeStep ?_ | refine drawStep ?_
        have hcl : (a.cells.drop 0).take 4 = a.cells := by rw [List.drop_zero, List.take_of_length_le (by omega)]
        have hrec' : ACall Tryd.prog 55 [wF, .agg ((a.cells.drop 0).take 4), .int .i64 (IntKind.wrap .i64 ((d : Int) + 1))] (mH mi) fun o H' => o = .ret (.bool (decide (wi.err = 0))) ∧ H' = mH wi := by rw [hcl]; exact hrec
        refine callT (args := [wF, .agg ((a.cells.drop 0).take 4), .int .i64 (IntKind.wrap .i64 ((d : Int) + 1))]) hrec' [.cells 0 (fC5 op name md tk terms ak args), .cells 0 a.cells] rfl rfl (by rw [hcl]; simp only [bels, AV.bel, wF]; exact ⟨⟨trivial, by show 1 < 2; decide, trivial⟩, haB, trivial, trivial⟩) (mH_bel mi) (mH_bel _) (by simp [AV.bel]) ?_
        repeat first | refine opsStep ?_ | refine codeStep ?_ | refine drawStep ?_
        refine decB_split (fun hb => ?_) (fun hb => ?_)
        · have hne2 : wi.err ≠ 0 := by simpa using hb
          rw [if_pos hne2] at hstep
          have hw : w = wi := by rw [hwk, hstep, if_pos hne2]
          repeat first | refine opsStep ?_ | refine codeStep ?_ | refine drawStep ?_
          refine finR (l := [(6, .bool false)]) (v := .bool false) (H₁ := mH wi ++ [.cells 0 (fC5 op name md tk terms ak args), .cells 0 a.cells]) ⟨(by kernel_rfl), trivial⟩ (by kernel_rfl) (Ent.frD (l := [(6, .bool false)]) ⟨(by kernel_rfl), trivial⟩ rfl (Nat.le_refl 2) (by simp [frBel, AV.bel]) (mH_bel _)) (by kernel_rfl) ⟨by rw [hw, decide_eq_false hne2], by rw [hw]⟩
        · have hne2 : wi.err = 0 := by simpa using hb
          rw [if_neg (by simp [hne2])] at hstep
          clear hb
          repeat first | refine opsStep ?_ | refine codeStep ?_ | refine drawStep ?_
          exact ⟨⟨(i + 1, wi), hi, hstep, hao' hne2, hne2⟩, (by show terms.length - (i + 1) < terms.length - i; omega), Ent.frD (X := [.cells 0 a.cells]) ⟨(by kernel_rfl), (by kernel_rfl), (by kernel_rfl), (by kernel_rfl), (by kernel_rfl), inc_slot (i := i) (by omega), trivial⟩ (by kernel_rfl) (Nat.le_succ 2) (by simp only [frBel, AV.bel, wF, bels]; exact ⟨⟨trivial, by show 1 < 3; decide, trivial⟩, trivial, by show 2 < 3; decide, closeds_bel _ (ttsC_closed _), trivial, trivial, trivial⟩) (by simp only [mH, List.cons_append, List.nil_append, blksBel, Blk.bel]; exact ⟨msC_bel _ _, by simp [bels, AV.bel], hFB, trivial⟩)⟩
      · have hi : i = terms.length := by have : ¬ (i : Int) < terms.length := hlt; omega
        clear hlt
        subst hi
        rw [List.drop_length, ttsWalk] at h2
        rw [h2, if_neg (by simp [h4])] at hwk
        clear h2
        repeat first | refine opsStep ?_ | refine codeStep ?_ | refine drawStep ?_
        refine loopE_of (ι := {x : Nat × Ms // x.1 ≤ args.length ∧ w = ftsWalk (args.drop x.1) (d + 1) x.2 ∧ MsOk x.2 (d + 1) ∧ x.2.err = 0}) (fun x => (fr [(0, wF), (2, .int .i64 d), (32, .sl ak args.length (ftsC args)), (33, .int .i64 args.length), (34, .int .i64 x.1.1)], mH x.1.2)) (fun x => args.length - x.1.1)
          ⟨(0, mi), Nat.zero_le _, hwk, h3, h4⟩ (Ent.frD (X := [.cells 0 (fC5 op name md tk terms ak args)]) ⟨(by kernel_rfl), (by kernel_rfl), (by kernel_rfl), (by kernel_rfl), (by kernel_rfl), trivial⟩ (by kernel_rfl) (Nat.le_refl 2) (by simp only [frBel, AV.bel, wF, bels]; exact ⟨⟨trivial, by show 1 < 2; decide, trivial⟩, trivial, closeds_bel _ (ftsC_closed _), trivial, trivial, trivial⟩) (mH_bel _)) ?_
        rintro ⟨⟨i, mi⟩, h1, h2, h3, h4⟩
        simp only at h1 h2 h3 h4
        repeat first | refine opsStep ?_ | refine codeStep ?_ | refine drawStep ?_
        refine decB_dec (fun hlt => ?_) (fun hlt => ?_)
        · have hi : i < args.length := by have : (i : Int) < args.length := hlt; omega
          clear hlt
          have hld : ((ftsC args).drop ((i : Int).toNat * 5)).take 5 = (args[i]'hi).cells := by rw [Int.toNat_natCast]; exact ftsC_at hi
          have hfit : 5 ≤ ((ftsC args).drop ((i : Int).toNat * 5)).length := by rw [List.length_drop, ftsC_len, Int.toNat_natCast]; omega
          have hrec := ih (args[i]'hi) (by have := fts_nodes hi; omega) (ftsOk_iff.1 hao _ (List.getElem_mem hi)) mi (d + 1) h3 h4
          have hstep := ftsWalk_drop hi (d + 1) mi
          rw [← h2] at hstep
          have hao' := @FT.walk_ok (args[i]'hi) (d + 1) mi h3
          have haC := FT.cells_len (args[i]'hi)
          have haB : bels 2 (args[i]'hi).cells := closeds_bel _ (FT.cells_closed (args[i]'hi))
          rw [← hdi] at hrec
          generalize args[i]'hi = a at *
          generalize FT.walk a (d + 1) mi = wi at *
          repeat first | refine opsStep ?_ | refine codeStep ?_ | refine drawStep ?_
          refine guardE_of ⟨by omega, by show (i : Int) < args.length; omega⟩ ?_
          repeat first | refine opsStep ?_ | refine codeStep ?_ | refine drawStep ?_
          refine guardE_of hfit ?_
          repeat first | refine opsStep ?_ | refine codeStep ?_ | refine drawStep ?_
          refine guardE_of ⟨by show (((ftsC args).drop ((i : Int).toNat * 5)).take 5).length = 5; rw [hld]; exact haC, by decide, by decide⟩ ?_
          iterate 1 refine opsStep ?_
          refine VCode.ent (Ent.fr' (l := [(0, wF), (2, .int .i64 d), (10, .ref 2 0 0), (32, .sl ak args.length (ftsC args)), (33, .int .i64 args.length), (34, .int .i64 i)]) (H' := mH mi ++ [.cells 0 a.cells]) ⟨(by kernel_rfl), (by kernel_rfl), (by kernel_rfl), (by kernel_rfl), (by kernel_rfl), (by kernel_rfl), trivial⟩ (Eq.trans (b := mH mi ++ [.cells 0 (over [.int .i64 0, .str [], .int .i64 0, .sl .nil 0 [], .sl .nil 0 []] 0 (((ftsC args).drop ((i : Int).toNat * 5)).take 5))]) (by kernel_rfl) (by rw [hld, over5 haC]))) ?_
          repeat first | refine opsStep ?_ | refine codeStep ?_ | refine drawStep ?_
          refine guardE_of (by show 0 + 5 ≤ a.cells.length; omega) ?_
          repeat first | refine opsStep ?_ | refine codeStep ?_ | refine drawStep ?_
          have hcl : (a.cells.drop 0).take 5 = a.cells := by rw [List.drop_zero, List.take_of_length_le (by omega)]
          have hrec' : ACall Tryd.prog 73 [wF, .agg ((a.cells.drop 0).take 5), .int .i64 (IntKind.wrap .i64 ((d : Int) + 1))] (mH mi) fun o H' => o = .ret (.bool (decide (wi.err = 0))) ∧ H' = mH wi := by rw [hcl]; exact hrec
          refine callT (args := [wF, .agg ((a.cells.drop 0).take 5), .int .i64 (IntKind.wrap .i64 ((d : Int) + 1))]) hrec' [.cells 0 a.cells] rfl rfl (by rw [hcl]; simp only [bels, AV.bel, wF]; exact ⟨⟨trivial, by show 1 < 2; decide, trivial⟩, haB, trivial, trivial⟩) (mH_bel mi) (mH_bel _) (by simp [AV.bel]) ?_
          repeat first | refine opsStep ?_ | refine codeStep ?_ | refine drawStep ?_
          refine decB_split (fun hb => ?_) (fun hb => ?_)
          · have hne2 : wi.err ≠ 0 := by simpa using hb
            rw [if_pos hne2] at hstep
            repeat first | refine opsStep ?_ | refine codeStep ?_ | refine drawStep ?_
            refine finR (l := [(6, .bool false)]) (v := .bool false) (H₁ := mH wi ++ [.cells 0 a.cells]) ⟨(by kernel_rfl), trivial⟩ (by kernel_rfl) (Ent.frD (l := [(6, .bool false)]) ⟨(by kernel_rfl), trivial⟩ rfl (Nat.le_refl 2) (by simp [frBel, AV.bel]) (mH_bel _)) (by kernel_rfl) ⟨by rw [hstep, decide_eq_false hne2], by rw [hstep]⟩
          · have hne2 : wi.err = 0 := by simpa using hb
            rw [if_neg (by simp [hne2])] at hstep
            clear hb
            repeat first | refine opsStep ?_ | refine codeStep ?_ | refine drawStep ?_
            exact ⟨⟨(i + 1, wi), hi, hstep, hao' hne2, hne2⟩, (by show args.length - (i + 1) < args.length - i; omega), Ent.frD (X := [.cells 0 a.cells]) ⟨(by kernel_rfl), (by kernel_rfl), (by kernel_rfl), (by kernel_rfl), inc_slot (i := i) (by omega), trivial⟩ (by kernel_rfl) (Nat.le_refl 2) (by simp only [frBel, AV.bel, wF, bels]; exact ⟨⟨trivial, by show 1 < 2; decide, trivial⟩, trivial, closeds_bel _ (ftsC_closed _), trivial, trivial, trivial⟩) (mH_bel _)⟩
        · have hi : i = args.length := by have : ¬ (i : Int) < args.length := hlt; omega
          clear hlt
          subst hi
          rw [List.drop_length, ftsWalk] at h2
          subst h2
          repeat first | refine opsStep ?_ | refine codeStep ?_ | refine drawStep ?_
          exact finR (l := [(6, .bool true)]) (v := .bool true) (H₁ := mH w) ⟨(by kernel_rfl), trivial⟩ (by kernel_rfl) (Ent.refl _ _ _) (by kernel_rfl) ⟨by rw [decide_eq_true h4], rfl⟩

end Tab

/- Trees are measured. -/
namespace Tab
open Go Go.Proofs
set_option maxRecDepth 10000
set_option linter.unusedVariables false
set_option linter.unusedSimpArgs false
set_option linter.unusedSectionVars false
set_option maxHeartbeats 1000000

theorem met (b : Nat) (H : List Blk) : ACall Tryd.prog 54 [.ref b 0 0] H fun o H' => o = .ret (.fn (.func 81) [] [.ref H.length 0 0]) ∧ H' = H ++ [.cells 0 [.ref b 0 0]] := by
  refine ACall.of_sw 4 Tryd.func54 rfl Tryd.ntmps54 (by kernel_rfl) (Nat.le_of_ble_eq_true (by kernel_rfl)) ?_; refine SW.of_vc ?_
  repeat first | refine opsStep ?_ | refine codeStep ?_ | refine drawStep ?_
  exact finR (l := [(2, .fn (.func 81) [] [.ref H.length 0 0])]) (H₁ := H ++ [.cells 0 [.ref b 0 0]]) ⟨(by kernel_rfl), trivial⟩ (by kernel_rfl) (Ent.refl _ _ _) (by kernel_rfl) ⟨rfl, rfl⟩

theorem down_of {ops : List Oper} {D : Nat → Bool} (h : Down ops D) {j i : Nat} {o : Oper} {e : Edge} (hj : ops[j]? = some o) (he : e ∈ o.after) (hb : Region.binds .any e = true) (hi : e.on = i) (hD : D i = false) : D j = false := by
  cases hd : D j with
  | false => rfl
  | true => have := h j o e hd hj he hb; rw [hi, hD] at this; cases this
theorem addD_self (D : Nat → Bool) (i : Nat) : addD D i i = true := by simp [addD]
theorem addD_ne (D : Nat → Bool) {i j : Nat} (h : j ≠ i) : addD D i j = D j := by simp [addD, h]

def c1S (x : List AV) (b0 b1 : Bool) : Slots := fr [(1, .ref 0 0 0), (3, .ref 1 0 0), (5, cond b0 (.fn (.func 81) [] [.ref 2 0 0]) .junk), (6, cond b1 (.agg x) .junk)]
def c1H (x : List AV) (m : Ms) (b0 b2 : Bool) : List Blk := cond b2 [.cells 0 x, .cells 0 (msC m), .cells 0 [.ref 1 0 0]] (cond b0 [.cells 0 x, .cells 0 (msC ms0), .cells 0 [.ref 1 0 0]] [.cells 0 x, .cells 0 (msC ms0)])
theorem tree_CheckTerm (t : TT) (hok : t.ok) : Pure Tryd.prog 35 [.agg t.cells] (.int .i64 (chkT t)) := by
  have hw := walk_term _ t (Nat.le_refl _) hok ms0 1 ⟨by decide, by decide, by decide⟩ rfl
  have hxl := TT.cells_len t
  have hxc := TT.cells_closed t
  rw [chkT]
  generalize TT.walk t 1 ms0 = m at *
  generalize t.cells = x at *
  refine Pure.of_sw 10 Tryd.func35 rfl Tryd.ntmps35 (by kernel_rfl) (Nat.le_of_ble_eq_true (by kernel_rfl)) (by simp only [closeds, AV.closed]; exact ⟨hxc, trivial⟩) (by simp only [AV.closed]) ?_
  refine SW.of_vc ?_
  repeat first | refine opsStep ?_ | refine codeStep ?_ | refine drawStep ?_
  refine SW.anyO (ι := Unit) (fun _ => True) (fun D _ => (c1S x (D 0) (D 1), c1H x m (D 0) (D 2))) rfl (by kernel_rfl) (by kernel_rfl) (by kernel_rfl) ?_ ?_ ?_
  · intro D hD
    refine ⟨trivial, (), ?_⟩
    simp only [hD 0 (by decide), hD 1 (by decide), hD 2 (by decide)]
    exact Ent.fr' ⟨(by kernel_rfl), (by kernel_rfl), (by kernel_rfl), (by kernel_rfl), trivial⟩ (by kernel_rfl)
  · intro D _ i o _ hdn ho hDi hrdy
    match i, ho with
    | 0, ho =>
      cases ho
      have h2 : D 2 = false := down_of hdn (j := 2) (e := ⟨0, .data⟩) rfl (by simp) rfl rfl hDi
      show vcRun Tryd.prog _ (c1S x (D 0) (D 1)) (c1H x m (D 0) (D 2)) _ (fun s H => True ∧ ∃ y : Unit, Ent _ s H (c1S x (addD D 0 0) (addD D 0 1)) (c1H x m (addD D 0 0) (addD D 0 2)))
      rw [addD_self, addD_ne D (by decide), addD_ne D (by decide), hDi, h2]
      refine ⟨_, met 1 [.cells 0 x, .cells 0 (msC ms0)], ?_⟩
      rintro _ _ ⟨rfl, rfl⟩
      exact ⟨trivial, (), Ent.fr' ⟨(by kernel_rfl), (by kernel_rfl), (by kernel_rfl), (by kernel_rfl), trivial⟩ (by kernel_rfl)⟩
    | 1, ho =>
      cases ho
      have h2 : D 2 = false := down_of hdn (j := 2) (e := ⟨1, .data⟩) rfl (by simp) rfl rfl hDi
      show vcRun Tryd.prog _ (c1S x (D 0) (D 1)) (c1H x m (D 0) (D 2)) _ (fun s H => True ∧ ∃ y : Unit, Ent _ s H (c1S x (addD D 1 0) (addD D 1 1)) (c1H x m (addD D 1 0) (addD D 1 2)))
      rw [addD_self, addD_ne D (by decide), addD_ne D (by decide), hDi, h2]
      have hcl : (x.drop 0).take 4 = x := by rw [List.drop_zero, List.take_of_length_le (by omega)]
      cases D 0 with
      | true =>
        refine guardE_of (by show 0 + 4 ≤ x.length; omega) ?_
        exact ⟨trivial, (), Ent.fr' ⟨(by kernel_rfl), (by kernel_rfl), (by kernel_rfl), Eq.trans (b := .agg ((x.drop 0).take 4)) (by kernel_rfl) (by rw [hcl]; rfl), trivial⟩ (by kernel_rfl)⟩
      | false =>
        refine guardE_of (by show 0 + 4 ≤ x.length; omega) ?_
        exact ⟨trivial, (), Ent.fr' ⟨(by kernel_rfl), (by kernel_rfl), (by kernel_rfl), Eq.trans (b := .agg ((x.drop 0).take 4)) (by kernel_rfl) (by rw [hcl]; rfl), trivial⟩ (by kernel_rfl)⟩
    | 2, ho =>
      cases ho
      have h0 : D 0 = true := hrdy ⟨0, .data⟩ (by simp) rfl
      have h1 : D 1 = true := hrdy ⟨1, .data⟩ (by simp) rfl
      show vcRun Tryd.prog _ (c1S x (D 0) (D 1)) (c1H x m (D 0) (D 2)) _ (fun s H => True ∧ ∃ y : Unit, Ent _ s H (c1S x (addD D 2 0) (addD D 2 1)) (c1H x m (addD D 2 0) (addD D 2 2)))
      rw [addD_self, addD_ne D (by decide), addD_ne D (by decide), hDi, h0, h1]
      refine callF [1, 2] hw (by decide) (by intro b hb; simp at hb; show b < 3; omega) rfl ?_ ?_ ?_ ?_ ?_
      · rfl
      · simp only [bels, AV.bel, wF]; exact ⟨⟨trivial, by show 1 < 2; decide, trivial⟩, closeds_bel _ hxc, trivial, trivial⟩
      · exact mH_bel _
      · simp only [rns, AV.rn, wF, closeds_rn _ hxc]
        rfl
      · rintro _ _ ⟨rfl, rfl⟩
        exact ⟨trivial, (), Ent.fr' ⟨(by kernel_rfl), (by kernel_rfl), (by kernel_rfl), (by kernel_rfl), trivial⟩ (by kernel_rfl)⟩
  · intro D _ _ hD
    show VCode _ _ _ _ _ _
    simp only [hD 0 (by decide), hD 1 (by decide), hD 2 (by decide)]
    repeat first | refine opsStep ?_ | refine codeStep ?_ | refine drawStep ?_
    exact finV (v' := .int .i64 m.err) (by kernel_rfl) rfl

def c2S (x : List AV) (b0 b1 : Bool) : Slots := fr [(1, .ref 0 0 0), (2, .ref 1 0 0), (3, .ref 2 0 0), (5, cond b0 (.fn (.func 81) [] [.ref 3 0 0]) .junk), (6, cond b1 (.agg x) .junk)]
def c2H (x : List AV) (m : Ms) (b0 b2 : Bool) : List Blk := cond b2 [.cells 0 x, .cells 0 (msC ms0), .cells 0 (msC m), .cells 0 [.ref 2 0 0]] (cond b0 [.cells 0 x, .cells 0 (msC ms0), .cells 0 (msC ms0), .cells 0 [.ref 2 0 0]] [.cells 0 x, .cells 0 (msC ms0), .cells 0 (msC ms0)])
theorem tree_measured (t : FT) (hok : t.ok) : Pure Tryd.prog 47 [.agg t.cells] (.agg (msC (t.walk 1 ms0))) := by
  have hw := walk_formula _ t (Nat.le_refl _) hok ms0 1 ⟨by decide, by decide, by decide⟩ rfl
  have hxl := FT.cells_len t
  have hxc := FT.cells_closed t
  generalize FT.walk t 1 ms0 = m at *
  generalize t.cells = x at *
  refine Pure.of_sw 9 Tryd.func47 rfl Tryd.ntmps47 (by kernel_rfl) (Nat.le_of_ble_eq_true (by kernel_rfl)) (by simp only [closeds, AV.closed]; exact ⟨hxc, trivial⟩) (by simp only [AV.closed]; exact msC_closed _) ?_
  refine SW.of_vc ?_
  repeat first | refine opsStep ?_ | refine codeStep ?_ | refine drawStep ?_
  refine SW.anyO (ι := Unit) (fun _ => True) (fun D _ => (c2S x (D 0) (D 1), c2H x m (D 0) (D 2))) rfl (by kernel_rfl) (by kernel_rfl) (by kernel_rfl) ?_ ?_ ?_
  · intro D hD
    refine ⟨trivial, (), ?_⟩
    simp only [hD 0 (by decide), hD 1 (by decide), hD 2 (by decide)]
    exact Ent.fr' ⟨(by kernel_rfl), (by kernel_rfl), (by kernel_rfl), (by kernel_rfl), (by kernel_rfl), trivial⟩ (by kernel_rfl)
  · intro D _ i o _ hdn ho hDi hrdy
    match i, ho with
    | 0, ho =>
      cases ho
      have h2 : D 2 = false := down_of hdn (j := 2) (e := ⟨0, .data⟩) rfl (by simp) rfl rfl hDi
      show vcRun Tryd.prog _ (c2S x (D 0) (D 1)) (c2H x m (D 0) (D 2)) _ (fun s H => True ∧ ∃ y : Unit, Ent _ s H (c2S x (addD D 0 0) (addD D 0 1)) (c2H x m (addD D 0 0) (addD D 0 2)))
      rw [addD_self, addD_ne D (by decide), addD_ne D (by decide), hDi, h2]
      refine ⟨_, met 2 [.cells 0 x, .cells 0 (msC ms0), .cells 0 (msC ms0)], ?_⟩
      rintro _ _ ⟨rfl, rfl⟩
      exact ⟨trivial, (), Ent.fr' ⟨(by kernel_rfl), (by kernel_rfl), (by kernel_rfl), (by kernel_rfl), (by kernel_rfl), trivial⟩ (by kernel_rfl)⟩
    | 1, ho =>
      cases ho
      have h2 : D 2 = false := down_of hdn (j := 2) (e := ⟨1, .data⟩) rfl (by simp) rfl rfl hDi
      show vcRun Tryd.prog _ (c2S x (D 0) (D 1)) (c2H x m (D 0) (D 2)) _ (fun s H => True ∧ ∃ y : Unit, Ent _ s H (c2S x (addD D 1 0) (addD D 1 1)) (c2H x m (addD D 1 0) (addD D 1 2)))
      rw [addD_self, addD_ne D (by decide), addD_ne D (by decide), hDi, h2]
      have hcl : (x.drop 0).take 5 = x := by rw [List.drop_zero, List.take_of_length_le (by omega)]
      cases D 0 with
      | true =>
        refine guardE_of (by show 0 + 5 ≤ x.length; omega) ?_
        exact ⟨trivial, (), Ent.fr' ⟨(by kernel_rfl), (by kernel_rfl), (by kernel_rfl), (by kernel_rfl), Eq.trans (b := .agg ((x.drop 0).take 5)) (by kernel_rfl) (by rw [hcl]; rfl), trivial⟩ (by kernel_rfl)⟩
      | false =>
        refine guardE_of (by show 0 + 5 ≤ x.length; omega) ?_
        exact ⟨trivial, (), Ent.fr' ⟨(by kernel_rfl), (by kernel_rfl), (by kernel_rfl), (by kernel_rfl), Eq.trans (b := .agg ((x.drop 0).take 5)) (by kernel_rfl) (by rw [hcl]; rfl), trivial⟩ (by kernel_rfl)⟩
    | 2, ho =>
      cases ho
      have h0 : D 0 = true := hrdy ⟨0, .data⟩ (by simp) rfl
      have h1 : D 1 = true := hrdy ⟨1, .data⟩ (by simp) rfl
      show vcRun Tryd.prog _ (c2S x (D 0) (D 1)) (c2H x m (D 0) (D 2)) _ (fun s H => True ∧ ∃ y : Unit, Ent _ s H (c2S x (addD D 2 0) (addD D 2 1)) (c2H x m (addD D 2 0) (addD D 2 2)))
      rw [addD_self, addD_ne D (by decide), addD_ne D (by decide), hDi, h0, h1]
      refine callF [2, 3] hw (by decide) (by intro b hb; simp at hb; show b < 4; omega) rfl ?_ ?_ ?_ ?_ ?_
      · rfl
      · simp only [bels, AV.bel, wF]; exact ⟨⟨trivial, by show 1 < 2; decide, trivial⟩, closeds_bel _ hxc, trivial, trivial⟩
      · exact mH_bel _
      · simp only [rns, AV.rn, wF, closeds_rn _ hxc]
        rfl
      · rintro _ _ ⟨rfl, rfl⟩
        exact ⟨trivial, (), Ent.fr' ⟨(by kernel_rfl), (by kernel_rfl), (by kernel_rfl), (by kernel_rfl), (by kernel_rfl), trivial⟩ (by kernel_rfl)⟩
  · intro D _ _ hD
    show VCode _ _ _ _ _ _
    simp only [hD 0 (by decide), hD 1 (by decide), hD 2 (by decide)]
    repeat first | refine opsStep ?_ | refine codeStep ?_ | refine drawStep ?_
    refine finV (v' := .agg (((msC ms0).take 0 ++ msC m) ++ (msC ms0).drop 3)) (by kernel_rfl) ?_
    simp [msC]

theorem tree_Check (t : FT) (hok : t.ok) : Pure Tryd.prog 25 [.agg t.cells] (.int .i64 (chkF t)) := by
  have hm := tree_measured t hok
  have hxl := FT.cells_len t
  have hxc := FT.cells_closed t
  rw [chkF]
  generalize FT.walk t 1 ms0 = m at *
  generalize t.cells = x at *
  have hcl : (x.drop 0).take 5 = x := by rw [List.drop_zero, List.take_of_length_le (by omega)]
  have hm' : Pure Tryd.prog 47 [.agg ((x.drop 0).take 5)] (.agg (msC m)) := by rw [hcl]; exact hm
  refine Pure.of_sw 6 Tryd.func25 rfl Tryd.ntmps25 (by kernel_rfl) (Nat.le_of_ble_eq_true (by kernel_rfl)) (by simp only [closeds, AV.closed]; exact ⟨hxc, trivial⟩) (by simp only [AV.closed]) ?_
  refine SW.of_vc ?_
  repeat first | refine opsStep ?_ | refine codeStep ?_ | refine drawStep ?_
  refine guardE_of (by show 0 + 5 ≤ x.length; omega) ?_
  repeat first | refine opsStep ?_ | refine codeStep ?_ | refine drawStep ?_
  refine callP hm' ?_
  repeat first | refine opsStep ?_ | refine codeStep ?_ | refine drawStep ?_
  exact finV (v' := .int .i64 m.err) (by kernel_rfl) rfl

end Tab

/- Texts of terms: the walk. -/
namespace Tab
open Go Go.Proofs
set_option maxRecDepth 10000
set_option linter.unusedVariables false
set_option linter.unusedSimpArgs false
set_option linter.unusedSectionVars false
set_option maxHeartbeats 1000000

theorem two_of {α : Type} : ∀ {l : List α}, l.length = 2 → ∃ a b, l = [a, b]
  | [a, b], _ => ⟨a, b, rfl⟩
theorem goodT_cases {op num : Int} {name : List UInt8} {k : SK} {args : List TT} (h : goodT ⟨op, num, name, k, args⟩ = true) :
    (op = 0 ∧ 0 ≤ num ∧ args = []) ∨ (op = 1 ∧ args = []) ∨ (op = 2 ∧ ∃ a, args = [a]) ∨ ((op = 3 ∨ op = 4 ∨ op = 5) ∧ ∃ a b, args = [a, b]) := by
  have hg : (if op = 0 then decide (0 ≤ num) && decide (name = []) && decide (args.length = 0)
    else if op = 1 then decide (num = 0) && nameS name && decide (args.length = 0)
    else if op = 2 then decide (num = 0) && decide (name = []) && decide (args.length = 1)
    else if op = 3 ∨ op = 4 ∨ op = 5 then decide (num = 0) && decide (name = []) && decide (args.length = 2)
    else false) = true := h
  clear h
  split at hg
  · simp only [Bool.and_eq_true, decide_eq_true_eq] at hg
    exact .inl ⟨by assumption, hg.1.1, List.length_eq_zero_iff.1 hg.2⟩
  split at hg
  · simp only [Bool.and_eq_true, decide_eq_true_eq] at hg
    exact .inr (.inl ⟨by assumption, List.length_eq_zero_iff.1 hg.2⟩)
  split at hg
  · simp only [Bool.and_eq_true, decide_eq_true_eq] at hg
    exact .inr (.inr (.inl ⟨by assumption, List.length_eq_one_iff.1 hg.2⟩))
  split at hg
  · simp only [Bool.and_eq_true, decide_eq_true_eq] at hg
    exact .inr (.inr (.inr ⟨by assumption, two_of hg.2⟩))
  · cases hg
theorem cell_a (a : TT) (l : List TT) : ((ttsC (a :: l)).drop ((0 : Int).toNat * 4)).take 4 = a.cells := ttsC_at (l := a :: l) (i := 0) (by simp)
theorem cell_b (a b : TT) (l : List TT) : ((ttsC (a :: b :: l)).drop ((1 : Int).toNat * 4)).take 4 = b.cells := ttsC_at (l := a :: b :: l) (i := 1) (by simp)
theorem tt_pos (t : TT) : 1 ≤ t.nodes := by cases t; rw [TT.nodes]; omega

theorem shTerm : ∀ (n : Nat) (t : TT), t.nodes ≤ n → n ≤ 500 → t.right → t.ok → Pure Tryd.prog 36 [.agg t.cells] (.str t.tx) := by
  intro n
  induction n with
  | zero => intro t h; have := tt_pos t; omega
  | succ n ih =>
    intro t hn h500 hr hok
    rw [TT.cells_eq]
    rcases t with ⟨op, num, name, k, args⟩
    rw [TT.right] at hr
    rw [TT.nodes] at hn
    rw [TT.ok] at hok
    have hnum := hok.2.1
    have hao := hok.2.2.2.2
    have har := hr.2
    simp only [TT.op, TT.num, TT.name, TT.k, TT.args]
    rcases goodT_cases hr.1 with ⟨rfl, h0, rfl⟩ | ⟨rfl, rfl⟩ | ⟨rfl, a, rfl⟩ | ⟨hop, a, b, rfl⟩
    · have htx : TT.tx ⟨0, num, name, k, []⟩ = dgL num.toNat := by rw [TT.tx, joinT, if_pos rfl]
      rw [htx]
      have hc := fmt_Int num.toNat (by have := hnum.2; omega)
      rw [Int.toNat_of_nonneg h0] at hc
      refine Pure.of_sw 62 Tryd.func36 rfl Tryd.ntmps36 (by kernel_rfl) (Nat.le_of_ble_eq_true (by kernel_rfl)) (by simp only [closeds]; exact ⟨tC_closed 0 num name k [], trivial⟩) (by simp only [AV.closed]) ?_
      refine SW.of_vc ?_
      repeat first | refine opsStep ?_ | refine codeStep ?_ | refine drawStep ?_
      refine callP hc ?_
      repeat first | refine opsStep ?_ | refine codeStep ?_ | refine drawStep ?_
      exact finV (v' := .str (dgL num.toNat)) (by kernel_rfl) rfl
    · have htx : TT.tx ⟨1, num, name, k, []⟩ = name := by rw [TT.tx, joinT, if_neg (by decide), if_pos rfl]
      rw [htx]
      refine Pure.of_sw 62 Tryd.func36 rfl Tryd.ntmps36 (by kernel_rfl) (Nat.le_of_ble_eq_true (by kernel_rfl)) (by simp only [closeds]; exact ⟨tC_closed 1 num name k [], trivial⟩) (by simp only [AV.closed]) ?_
      refine SW.of_vc ?_
      repeat first | refine opsStep ?_ | refine codeStep ?_ | refine drawStep ?_
      exact finV (v' := .str name) (by kernel_rfl) rfl
    · rw [ttsNodes, ttsNodes] at hn
      rw [ttsOk] at hao
      rw [ttsRight] at har
      have ha := ih a (by omega) (by omega) har.1 hao.1
      have la := TT.tx_small hao.1 (by omega : a.nodes ≤ 500)
      have htx : TT.tx ⟨2, num, name, k, [a]⟩ = [45] ++ partS (a.tx, a.op) 2 := by
        rw [TT.tx, joinT, if_neg (by decide), if_neg (by decide), if_pos rfl]
        rfl
      rw [htx]
      have pa := show_part a 2 ha la
      have sa := part_len (a.tx, a.op) 2
      simp only at sa
      rw [← cell_a a []] at pa
      have hf0 : 4 ≤ ((ttsC [a]).drop ((0 : Int).toNat * 4)).length := by rw [List.length_drop, ttsC_len]; simp
      refine Pure.of_sw 62 Tryd.func36 rfl Tryd.ntmps36 (by kernel_rfl) (Nat.le_of_ble_eq_true (by kernel_rfl)) (by simp only [closeds]; exact ⟨tC_closed 2 num name k [a], trivial⟩) (by simp only [AV.closed]) ?_
      refine SW.of_vc ?_
      repeat first | refine opsStep ?_ | refine codeStep ?_ | refine drawStep ?_
      refine guardE_of hf0 ?_
      repeat first | refine opsStep ?_ | refine codeStep ?_ | refine drawStep ?_
      refine callP pa ?_
      repeat first | refine opsStep ?_ | refine codeStep ?_ | refine drawStep ?_
      refine guardE_of (by show 1 + (partS (a.tx, a.op) 2).length ≤ 9223372036854775807; omega) ?_
      repeat first | refine opsStep ?_ | refine codeStep ?_ | refine drawStep ?_
      exact finV (v' := .str ([45] ++ partS (a.tx, a.op) 2)) (by kernel_rfl) rfl
    · rw [ttsNodes, ttsNodes, ttsNodes] at hn
      rw [ttsOk, ttsOk] at hao
      rw [ttsRight, ttsRight] at har
      have ha := ih a (by omega) (by omega) har.1 hao.1
      have hb := ih b (by omega) (by omega) har.2.1 hao.2.1
      have la := TT.tx_small hao.1 (by omega : a.nodes ≤ 500)
      have lb := TT.tx_small hao.2.1 (by omega : b.nodes ≤ 500)
      have hf0 : 4 ≤ ((ttsC [a, b]).drop ((0 : Int).toNat * 4)).length := by rw [List.length_drop, ttsC_len]; simp
      have hf1 : 4 ≤ ((ttsC [a, b]).drop ((1 : Int).toNat * 4)).length := by rw [List.length_drop, ttsC_len]; simp
      rcases hop with hop | hop | hop
      · subst hop
        have htx : TT.tx ⟨3, num, name, k, [a, b]⟩ = (partS (a.tx, a.op) 0 ++ [32, 43, 32]) ++ partS (b.tx, b.op) 1 := by
          rw [TT.tx, joinT]
          simp only [show ¬ ((3 : Int) = 0) by decide, show ¬ ((3 : Int) = 1) by decide, show ¬ ((3 : Int) = 2) by decide, if_false]
          rfl
        rw [htx]
        have pa := show_part a 0 ha la
        have pb := show_part b 1 hb lb
        have sa := part_len (a.tx, a.op) 0
        have sb := part_len (b.tx, b.op) 1
        simp only at sa sb
        rw [← cell_a a [b]] at pa
        rw [← cell_b a b []] at pb
        refine Pure.of_sw 62 Tryd.func36 rfl Tryd.ntmps36 (by kernel_rfl) (Nat.le_of_ble_eq_true (by kernel_rfl)) (by simp only [closeds]; exact ⟨tC_closed 3 num name k [a, b], trivial⟩) (by simp only [AV.closed]) ?_
        refine SW.of_vc ?_
        repeat first | refine opsStep ?_ | refine codeStep ?_ | refine drawStep ?_
        refine SW.drawn rfl (by kernel_rfl) ?_
        repeat first | refine opsStep ?_ | refine codeStep ?_ | refine drawStep ?_
        refine guardE_of hf0 ?_
        repeat first | refine opsStep ?_ | refine codeStep ?_ | refine drawStep ?_
        refine .inl ⟨_, _, [], pa, RdsN_refl _, .inr rfl, none_need, ?_⟩
        repeat first | refine opsStep ?_ | refine codeStep ?_ | refine drawStep ?_
        refine guardE_of (by show (partS (a.tx, a.op) 0).length + 3 ≤ 9223372036854775807; omega) ?_
        repeat first | refine opsStep ?_ | refine codeStep ?_ | refine drawStep ?_
        refine guardE_of hf1 ?_
        repeat first | refine opsStep ?_ | refine codeStep ?_ | refine drawStep ?_
        refine .inl ⟨_, _, [], pb, RdsN_refl _, .inr rfl, none_need, ?_⟩
        repeat first | refine opsStep ?_ | refine codeStep ?_ | refine drawStep ?_
        refine guardE_of (by show (partS (a.tx, a.op) 0 ++ [32, 43, 32]).length + (partS (b.tx, b.op) 1).length ≤ 9223372036854775807; simp only [List.length_append, List.length_cons, List.length_nil]; omega) ?_
        repeat first | refine opsStep ?_ | refine codeStep ?_ | refine drawStep ?_
        refine ⟨by kernel_rfl, ?_⟩
        repeat first | refine opsStep ?_ | refine codeStep ?_ | refine drawStep ?_
        exact finV (v' := .str ((partS (a.tx, a.op) 0 ++ [32, 43, 32]) ++ partS (b.tx, b.op) 1)) (by kernel_rfl) rfl
      · subst hop
        have htx : TT.tx ⟨4, num, name, k, [a, b]⟩ = (partS (a.tx, a.op) 0 ++ [32, 45, 32]) ++ partS (b.tx, b.op) 1 := by
          rw [TT.tx, joinT]
          simp only [show ¬ ((4 : Int) = 0) by decide, show ¬ ((4 : Int) = 1) by decide, show ¬ ((4 : Int) = 2) by decide, if_false]
          rfl
        rw [htx]
        have pa := show_part a 0 ha la
        have pb := show_part b 1 hb lb
        have sa := part_len (a.tx, a.op) 0
        have sb := part_len (b.tx, b.op) 1
        simp only at sa sb
        rw [← cell_a a [b]] at pa
        rw [← cell_b a b []] at pb
        refine Pure.of_sw 62 Tryd.func36 rfl Tryd.ntmps36 (by kernel_rfl) (Nat.le_of_ble_eq_true (by kernel_rfl)) (by simp only [closeds]; exact ⟨tC_closed 4 num name k [a, b], trivial⟩) (by simp only [AV.closed]) ?_
        refine SW.of_vc ?_
        repeat first | refine opsStep ?_ | refine codeStep ?_ | refine drawStep ?_
        refine SW.drawn rfl (by kernel_rfl) ?_
        repeat first | refine opsStep ?_ | refine codeStep ?_ | refine drawStep ?_
        refine guardE_of hf0 ?_
        repeat first | refine opsStep ?_ | refine codeStep ?_ | refine drawStep ?_
        refine .inl ⟨_, _, [], pa, RdsN_refl _, .inr rfl, none_need, ?_⟩
        repeat first | refine opsStep ?_ | refine codeStep ?_ | refine drawStep ?_
        refine guardE_of (by show (partS (a.tx, a.op) 0).length + 3 ≤ 9223372036854775807; omega) ?_
        repeat first | refine opsStep ?_ | refine codeStep ?_ | refine drawStep ?_
        refine guardE_of hf1 ?_
        repeat first | refine opsStep ?_ | refine codeStep ?_ | refine drawStep ?_
        refine .inl ⟨_, _, [], pb, RdsN_refl _, .inr rfl, none_need, ?_⟩
        repeat first | refine opsStep ?_ | refine codeStep ?_ | refine drawStep ?_
        refine guardE_of (by show (partS (a.tx, a.op) 0 ++ [32, 45, 32]).length + (partS (b.tx, b.op) 1).length ≤ 9223372036854775807; simp only [List.length_append, List.length_cons, List.length_nil]; omega) ?_
        repeat first | refine opsStep ?_ | refine codeStep ?_ | refine drawStep ?_
        refine ⟨by kernel_rfl, ?_⟩
        repeat first | refine opsStep ?_ | refine codeStep ?_ | refine drawStep ?_
        exact finV (v' := .str ((partS (a.tx, a.op) 0 ++ [32, 45, 32]) ++ partS (b.tx, b.op) 1)) (by kernel_rfl) rfl
      · subst hop
        have htx : TT.tx ⟨5, num, name, k, [a, b]⟩ = (partS (a.tx, a.op) 1 ++ [32, 42, 32]) ++ partS (b.tx, b.op) 2 := by
          rw [TT.tx, joinT]
          simp only [show ¬ ((5 : Int) = 0) by decide, show ¬ ((5 : Int) = 1) by decide, show ¬ ((5 : Int) = 2) by decide, if_false]
          rfl
        rw [htx]
        have pa := show_part a 1 ha la
        have pb := show_part b 2 hb lb
        have sa := part_len (a.tx, a.op) 1
        have sb := part_len (b.tx, b.op) 2
        simp only at sa sb
        rw [← cell_a a [b]] at pa
        rw [← cell_b a b []] at pb
        refine Pure.of_sw 62 Tryd.func36 rfl Tryd.ntmps36 (by kernel_rfl) (Nat.le_of_ble_eq_true (by kernel_rfl)) (by simp only [closeds]; exact ⟨tC_closed 5 num name k [a, b], trivial⟩) (by simp only [AV.closed]) ?_
        refine SW.of_vc ?_
        repeat first | refine opsStep ?_ | refine codeStep ?_ | refine drawStep ?_
        refine SW.drawn rfl (by kernel_rfl) ?_
        repeat first | refine opsStep ?_ | refine codeStep ?_ | refine drawStep ?_
        refine guardE_of hf0 ?_
        repeat first | refine opsStep ?_ | refine codeStep ?_ | refine drawStep ?_
        refine .inl ⟨_, _, [], pa, RdsN_refl _, .inr rfl, none_need, ?_⟩
        repeat first | refine opsStep ?_ | refine codeStep ?_ | refine drawStep ?_
        refine guardE_of (by show (partS (a.tx, a.op) 1).length + 3 ≤ 9223372036854775807; omega) ?_
        repeat first | refine opsStep ?_ | refine codeStep ?_ | refine drawStep ?_
        refine guardE_of hf1 ?_
        repeat first | refine opsStep ?_ | refine codeStep ?_ | refine drawStep ?_
        refine .inl ⟨_, _, [], pb, RdsN_refl _, .inr rfl, none_need, ?_⟩
        repeat first | refine opsStep ?_ | refine codeStep ?_ | refine drawStep ?_
        refine guardE_of (by show (partS (a.tx, a.op) 1 ++ [32, 42, 32]).length + (partS (b.tx, b.op) 2).length ≤ 9223372036854775807; simp only [List.length_append, List.length_cons, List.length_nil]; omega) ?_
        repeat first | refine opsStep ?_ | refine codeStep ?_ | refine drawStep ?_
        refine ⟨by kernel_rfl, ?_⟩
        repeat first | refine opsStep ?_ | refine codeStep ?_ | refine drawStep ?_
        exact finV (v' := .str ((partS (a.tx, a.op) 1 ++ [32, 42, 32]) ++ partS (b.tx, b.op) 2)) (by kernel_rfl) rfl

theorem show_Term (t : TT) (hok : t.ok) : Pure Tryd.prog 17 [.agg t.cells] (.tup [.str (if chkT t = 0 then t.tx else []), .int .i64 (chkT t)]) := by
  have hck := tree_CheckTerm t hok
  have hst : chkT t = 0 → Pure Tryd.prog 36 [.agg t.cells] (.str t.tx) := fun h => by
    obtain ⟨h1, h2⟩ := chkT_right h
    exact shTerm _ t (Nat.le_refl _) h2 h1 hok
  have hcl : (t.cells.drop 0).take 4 = t.cells := by rw [List.drop_zero, List.take_of_length_le (by rw [TT.cells_len]; omega)]
  have hlen := TT.cells_len t
  have hcc := TT.cells_closed t
  generalize chkT t = c at *
  generalize t.tx = x at *
  generalize t.cells = y at *
  rw [← hcl] at hck hst
  refine Pure.of_sw 12 Tryd.func17 rfl Tryd.ntmps17 (by kernel_rfl) (Nat.le_of_ble_eq_true (by kernel_rfl)) (by simp only [closeds, AV.closed]; exact ⟨hcc, trivial⟩) (by simp only [AV.closed, closeds]; exact ⟨trivial, trivial, trivial⟩) ?_
  refine SW.of_vc ?_
  repeat first | refine opsStep ?_ | refine codeStep ?_ | refine drawStep ?_
  refine guardE_of (by show 0 + 4 ≤ y.length; omega) ?_
  repeat first | refine opsStep ?_ | refine codeStep ?_ | refine drawStep ?_
  refine callP (args := [.agg ((y.drop 0).take 4)]) hck ?_
  repeat first | refine opsStep ?_ | refine codeStep ?_ | refine drawStep ?_
  refine decB_dec (fun h => ?_) (fun h => ?_)
  · have h : c ≠ 0 := h
    repeat first | refine opsStep ?_ | refine codeStep ?_ | refine drawStep ?_
    exact finV (v' := .tup [.str [], .int .i64 c]) (by kernel_rfl) (by rw [if_neg h])
  · have h : c = 0 := Decidable.of_not_not h
    repeat first | refine opsStep ?_ | refine codeStep ?_ | refine drawStep ?_
    refine guardE_of (by show 0 + 4 ≤ y.length; omega) ?_
    repeat first | refine opsStep ?_ | refine codeStep ?_ | refine drawStep ?_
    refine callP (args := [.agg ((y.drop 0).take 4)]) (hst h) ?_
    repeat first | refine opsStep ?_ | refine codeStep ?_ | refine drawStep ?_
    exact finV (v' := .tup [.str x, .int .i64 0]) (by kernel_rfl) (by rw [if_pos h, h])

end Tab

/- Texts of formulas. -/
namespace Tab
open Go Go.Proofs
set_option maxRecDepth 10000
set_option linter.unusedVariables false
set_option linter.unusedSimpArgs false
set_option linter.unusedSectionVars false
set_option maxHeartbeats 1000000

theorem show_sign (op : Int) : Pure Tryd.prog 51 [.int .i64 op] (.str (signF op)) := by
  refine Pure.of_sw 24 Tryd.func51 rfl Tryd.ntmps51 (by kernel_rfl) (Nat.le_of_ble_eq_true (by kernel_rfl)) (by simp [closeds, AV.closed, aSs_closed, aIs_closed, aBs_closed, aRs_closed, aDen_closed]) (by simp [AV.closed, closeds, aSs_closed, aIs_closed, aBs_closed, aRs_closed, aDen_closed]) ?_; refine SW.of_vc ?_
  repeat' first | refine opsStep ?_ | refine codeStep ?_ | refine decB_split (fun h => ?_) (fun h => ?_)
  all_goals first
    | (have e := of_decide_eq_true h; subst e; exact finV rfl rfl)
    | exact finV (v := .str (signF op)) (v' := .str [32, 126, 32]) rfl (by simp only [decide_eq_false_iff_not] at *; simp [signF, *])

theorem fsign_len (op : Int) : (signF op).length ≤ 10 := by
  unfold signF
  repeat' split
  all_goals simp
def fsumL : List (List UInt8) → Nat
  | [] => 0
  | x :: l => x.length + fsumL l
theorem fsum_two (l : List (List UInt8)) : (l.getD 0 []).length + (l.getD 1 []).length ≤ fsumL l := by
  match l with
  | [] => simp [fsumL]
  | [a] => simp [fsumL]
  | a :: b :: l => simp [fsumL] <;> omega
theorem fsum_tts (l : List TT) (h : ttsOk l) : fsumL (l.map TT.tx) ≤ ttsNodes l * txK := by
  induction l with
  | nil => simp [fsumL, ttsNodes]
  | cons t l ih =>
    rw [ttsOk] at h
    have h1 := TT.tx_len t h.1
    have h2 := ih h.2
    rw [List.map_cons, fsumL, ttsNodes, Nat.add_mul]
    omega
theorem joinF_len (op : Int) (name : List UInt8) (md : Int) (ts l : List (List UInt8)) (hn : okI6 md) (hm : name.length ≤ 2 ^ 47) : (joinF op name md ts l).length ≤ fsumL ts + fsumL l + txK := by
  have h1 := fsum_two ts
  have h2 := fsum_two l
  have hk : txK = 2 ^ 47 + 64 := rfl
  have h3 := fsign_len op
  have h4 := dg_lenU 18 md.toNat (by have := hn.2; omega)
  rw [joinF]
  repeat' split
  all_goals (simp only [List.length_append, List.length_cons, List.length_nil]; omega)
mutual
theorem FT.tx_len : ∀ t : FT, t.ok → t.tx.length ≤ t.nodes * txK
  | .mk op name md tk terms ak args, h => by
    rw [FT.ok] at h
    have h1 := ftsTx_len args h.2.2.2.2.2.2
    have h0 := fsum_tts terms h.2.2.2.2.1
    have h2 := joinF_len op name md (terms.map TT.tx) (ftsTx args) h.2.2.1 h.2.1
    rw [FT.tx, FT.nodes, Nat.add_mul, Nat.add_mul, Nat.one_mul]
    omega
theorem ftsTx_len : ∀ l : List FT, ftsOk l → fsumL (ftsTx l) ≤ ftsNodes l * txK
  | [], _ => by simp [ftsTx, fsumL, ftsNodes]
  | t :: l, h => by
    rw [ftsOk] at h
    have h1 := FT.tx_len t h.1
    have h2 := ftsTx_len l h.2
    rw [ftsTx, fsumL, ftsNodes, Nat.add_mul]
    omega
end
theorem FT.tx_small {t : FT} (h : t.ok) (hn : t.nodes ≤ 500) : t.tx.length < 2 ^ 60 := by
  have h1 := FT.tx_len t h
  have h2 : t.nodes * txK ≤ 500 * txK := Nat.mul_le_mul_right _ hn
  have hk : txK = 2 ^ 47 + 64 := rfl
  omega
theorem ft_pos (t : FT) : 1 ≤ t.nodes := by cases t; rw [FT.nodes]; omega
theorem fcell_a (a : FT) (l : List FT) : ((ftsC (a :: l)).drop ((0 : Int).toNat * 5)).take 5 = a.cells := ftsC_at (l := a :: l) (i := 0) (by simp)
theorem fcell_b (a b : FT) (l : List FT) : ((ftsC (a :: b :: l)).drop ((1 : Int).toNat * 5)).take 5 = b.cells := ftsC_at (l := a :: b :: l) (i := 1) (by simp)
theorem goodF_cases {op : Int} {name : List UInt8} {md : Int} {tk : SK} {terms : List TT} {ak : SK} {args : List FT} (h : goodF ⟨op, name, md, tk, terms, ak, args⟩ = true) :
    ((op = 0 ∨ op = 1) ∧ terms = [] ∧ args = []) ∨ (op = 2 ∧ terms = [] ∧ ∃ a, args = [a]) ∨ ((op = 3 ∨ op = 4 ∨ op = 5 ∨ op = 6) ∧ terms = [] ∧ ∃ a b, args = [a, b]) ∨ ((op = 7 ∨ op = 8) ∧ terms = [] ∧ ∃ a, args = [a]) ∨
    ((op = 9 ∨ op = 10 ∨ op = 11 ∨ op = 12 ∨ op = 13 ∨ op = 14) ∧ args = [] ∧ ∃ a b, terms = [a, b]) ∨ (op = 15 ∧ 1 ≤ md ∧ args = [] ∧ ∃ a b, terms = [a, b]) := by
  have hg : (if op = 0 ∨ op = 1 then decide (name = []) && decide (md = 0) && decide (terms.length = 0) && decide (args.length = 0)
    else if op = 2 then decide (name = []) && decide (md = 0) && decide (terms.length = 0) && decide (args.length = 1)
    else if 3 ≤ op ∧ op ≤ 6 then decide (name = []) && decide (md = 0) && decide (terms.length = 0) && decide (args.length = 2)
    else if op = 7 ∨ op = 8 then nameS name && decide (md = 0) && decide (terms.length = 0) && decide (args.length = 1)
    else if 9 ≤ op ∧ op ≤ 14 then decide (name = []) && decide (md = 0) && decide (terms.length = 2) && decide (args.length = 0)
    else if op = 15 then decide (name = []) && decide (1 ≤ md) && decide (terms.length = 2) && decide (args.length = 0)
    else false) = true := h
  clear h
  split at hg
  · simp only [Bool.and_eq_true, decide_eq_true_eq] at hg
    exact .inl ⟨by assumption, List.length_eq_zero_iff.1 hg.1.2, List.length_eq_zero_iff.1 hg.2⟩
  split at hg
  · simp only [Bool.and_eq_true, decide_eq_true_eq] at hg
    exact .inr (.inl ⟨by assumption, List.length_eq_zero_iff.1 hg.1.2, List.length_eq_one_iff.1 hg.2⟩)
  split at hg
  · simp only [Bool.and_eq_true, decide_eq_true_eq] at hg
    exact .inr (.inr (.inl ⟨by omega, List.length_eq_zero_iff.1 hg.1.2, two_of hg.2⟩))
  split at hg
  · simp only [Bool.and_eq_true, decide_eq_true_eq] at hg
    exact .inr (.inr (.inr (.inl ⟨by assumption, List.length_eq_zero_iff.1 hg.1.2, List.length_eq_one_iff.1 hg.2⟩)))
  split at hg
  · simp only [Bool.and_eq_true, decide_eq_true_eq] at hg
    exact .inr (.inr (.inr (.inr (.inl ⟨by omega, List.length_eq_zero_iff.1 hg.2, two_of hg.1.2⟩))))
  split at hg
  · simp only [Bool.and_eq_true, decide_eq_true_eq] at hg
    exact .inr (.inr (.inr (.inr (.inr ⟨by assumption, hg.1.1.2, List.length_eq_zero_iff.1 hg.2, two_of hg.1.2⟩))))
  · cases hg

end Tab

/- Texts of formulas: the walk. -/
namespace Tab
open Go Go.Proofs
set_option maxRecDepth 10000
set_option linter.unusedVariables false
set_option linter.unusedSimpArgs false
set_option linter.unusedSectionVars false
set_option maxHeartbeats 2000000

theorem shFormula : ∀ (n : Nat) (f : FT), f.nodes ≤ n → n ≤ 500 → f.right → f.ok → Pure Tryd.prog 32 [.agg f.cells] (.str f.tx) := by
  intro n
  induction n with
  | zero => intro t h; have := ft_pos t; omega
  | succ n ih =>
    intro f hn h500 hr hok
    rw [FT.cells_eq]
    rcases f with ⟨op, name, md, tk, terms, ak, args⟩
    rw [FT.right] at hr
    rw [FT.nodes] at hn
    rw [FT.ok] at hok
    have hnm := hok.2.1
    have hmd := hok.2.2.1
    have hto := hok.2.2.2.2.1
    have hao := hok.2.2.2.2.2.2
    have htr := hr.2.1
    have har := hr.2.2
    simp only [FT.op, FT.name, FT.md, FT.tk, FT.terms, FT.ak, FT.args]
    rcases goodF_cases hr.1 with ⟨hop, rfl, rfl⟩ | ⟨rfl, rfl, a, rfl⟩ | ⟨hop, rfl, a, b, rfl⟩ | ⟨hop, rfl, a, rfl⟩ | ⟨hop, rfl, a, b, rfl⟩ | ⟨rfl, h1, rfl, a, b, rfl⟩
    · rcases hop with rfl | rfl
      · have htx : FT.tx ⟨0, name, md, tk, [], ak, []⟩ = [116, 114, 117, 101] := by rw [FT.tx, joinF, if_pos rfl]
        rw [htx]
        refine Pure.of_sw 97 Tryd.func32 rfl Tryd.ntmps32 (by kernel_rfl) (Nat.le_of_ble_eq_true (by kernel_rfl)) (by simp only [closeds]; exact ⟨fC5_closed 0 name md tk [] ak [], trivial⟩) (by simp only [AV.closed]) ?_
        refine SW.of_vc ?_
        repeat first | refine opsStep ?_ | refine codeStep ?_ | refine drawStep ?_
        exact finV (v' := .str [116, 114, 117, 101]) (by kernel_rfl) rfl
      · have htx : FT.tx ⟨1, name, md, tk, [], ak, []⟩ = [102, 97, 108, 115, 101] := by rw [FT.tx, joinF, if_neg (by decide), if_pos rfl]
        rw [htx]
        refine Pure.of_sw 97 Tryd.func32 rfl Tryd.ntmps32 (by kernel_rfl) (Nat.le_of_ble_eq_true (by kernel_rfl)) (by simp only [closeds]; exact ⟨fC5_closed 1 name md tk [] ak [], trivial⟩) (by simp only [AV.closed]) ?_
        refine SW.of_vc ?_
        repeat first | refine opsStep ?_ | refine codeStep ?_ | refine drawStep ?_
        exact finV (v' := .str [102, 97, 108, 115, 101]) (by kernel_rfl) rfl
    · rw [ftsNodes, ftsNodes] at hn
      rw [ftsOk] at hao
      rw [ftsRight] at har
      have ha' := ih a (by omega) (by omega) har.1 hao.1
      have la := FT.tx_small hao.1 (by omega : a.nodes ≤ 500)
      have hf0 : 5 ≤ ((ftsC [a]).drop ((0 : Int).toNat * 5)).length := by rw [List.length_drop, ftsC_len]; simp
      rw [← fcell_a a []] at ha'
      have htx : FT.tx ⟨2, name, md, tk, [], ak, [a]⟩ = [110, 111, 116, 32] ++ a.tx := by
        rw [FT.tx, joinF, if_neg (by decide), if_neg (by decide), if_pos rfl]
        rfl
      rw [htx]
      refine Pure.of_sw 97 Tryd.func32 rfl Tryd.ntmps32 (by kernel_rfl) (Nat.le_of_ble_eq_true (by kernel_rfl)) (by simp only [closeds]; exact ⟨fC5_closed 2 name md tk [] ak [a], trivial⟩) (by simp only [AV.closed]) ?_
      refine SW.of_vc ?_
      repeat first | refine opsStep ?_ | refine codeStep ?_ | refine drawStep ?_
      refine guardE_of hf0 ?_
      repeat first | refine opsStep ?_ | refine codeStep ?_ | refine drawStep ?_
      refine callP ha' ?_
      repeat first | refine opsStep ?_ | refine codeStep ?_ | refine drawStep ?_
      refine guardE_of (by show 4 + a.tx.length ≤ 9223372036854775807; omega) ?_
      repeat first | refine opsStep ?_ | refine codeStep ?_ | refine drawStep ?_
      exact finV (v' := .str ([110, 111, 116, 32] ++ a.tx)) (by kernel_rfl) rfl
    · rw [ftsNodes, ftsNodes, ftsNodes] at hn
      rw [ftsOk, ftsOk] at hao
      rw [ftsRight, ftsRight] at har
      have ha' := ih a (by omega) (by omega) har.1 hao.1
      have hb' := ih b (by omega) (by omega) har.2.1 hao.2.1
      have la := FT.tx_small hao.1 (by omega : a.nodes ≤ 500)
      have lb := FT.tx_small hao.2.1 (by omega : b.nodes ≤ 500)
      have hf0 : 5 ≤ ((ftsC [a, b]).drop ((0 : Int).toNat * 5)).length := by rw [List.length_drop, ftsC_len]; simp
      have hf1 : 5 ≤ ((ftsC [a, b]).drop ((1 : Int).toNat * 5)).length := by rw [List.length_drop, ftsC_len]; simp
      rw [← fcell_a a [b]] at ha'
      rw [← fcell_b a b []] at hb'
      rcases hop with hop | hop | hop | hop
      · subst hop
        have htx : FT.tx ⟨3, name, md, tk, [], ak, [a, b]⟩ = ((([40] ++ a.tx) ++ signF 3) ++ b.tx) ++ [41] := by
          rw [FT.tx, joinF]
          simp only [show ¬ ((3 : Int) = 0) by decide, show ¬ ((3 : Int) = 1) by decide, show ¬ ((3 : Int) = 2) by decide, show ¬ ((3 : Int) = 7) by decide, show ¬ ((3 : Int) = 8) by decide, show ((3 : Int) ≤ 3 ∧ (3 : Int) ≤ 6) by decide, if_false, if_true]
          rfl
        rw [htx]
        have hsg := fsign_len 3
        refine Pure.of_sw 97 Tryd.func32 rfl Tryd.ntmps32 (by kernel_rfl) (Nat.le_of_ble_eq_true (by kernel_rfl)) (by simp only [closeds]; exact ⟨fC5_closed 3 name md tk [] ak [a, b], trivial⟩) (by simp only [AV.closed]) ?_
        refine SW.of_vc ?_
        repeat first | refine opsStep ?_ | refine codeStep ?_ | refine drawStep ?_
        refine SW.drawn rfl (by kernel_rfl) ?_
        repeat first | refine opsStep ?_ | refine codeStep ?_ | refine drawStep ?_
        refine guardE_of hf0 ?_
        repeat first | refine opsStep ?_ | refine codeStep ?_ | refine drawStep ?_
        refine .inl ⟨_, _, [], ha', RdsN_refl _, .inr rfl, none_need, ?_⟩
        repeat first | refine opsStep ?_ | refine codeStep ?_ | refine drawStep ?_
        refine guardE_of (by show 1 + a.tx.length ≤ 9223372036854775807; omega) ?_
        repeat first | refine opsStep ?_ | refine codeStep ?_ | refine drawStep ?_
        refine .inl ⟨_, _, [], (show_sign 3), RdsN_refl _, .inr rfl, none_need, ?_⟩
        repeat first | refine opsStep ?_ | refine codeStep ?_ | refine drawStep ?_
        refine guardE_of (by show ([40] ++ a.tx).length + (signF 3).length ≤ 9223372036854775807; simp only [List.length_append, List.length_cons, List.length_nil]; omega) ?_
        repeat first | refine opsStep ?_ | refine codeStep ?_ | refine drawStep ?_
        refine guardE_of hf1 ?_
        repeat first | refine opsStep ?_ | refine codeStep ?_ | refine drawStep ?_
        refine .inl ⟨_, _, [], hb', RdsN_refl _, .inr rfl, none_need, ?_⟩
        repeat first | refine opsStep ?_ | refine codeStep ?_ | refine drawStep ?_
        refine guardE_of (by show (([40] ++ a.tx) ++ signF 3).length + b.tx.length ≤ 9223372036854775807; simp only [List.length_append, List.length_cons, List.length_nil]; omega) ?_
        repeat first | refine opsStep ?_ | refine codeStep ?_ | refine drawStep ?_
        refine guardE_of (by show ((([40] ++ a.tx) ++ signF 3) ++ b.tx).length + 1 ≤ 9223372036854775807; simp only [List.length_append, List.length_cons, List.length_nil]; omega) ?_
        repeat first | refine opsStep ?_ | refine codeStep ?_ | refine drawStep ?_
        refine ⟨by kernel_rfl, ?_⟩
        repeat first | refine opsStep ?_ | refine codeStep ?_ | refine drawStep ?_
        exact finV (v' := .str (((([40] ++ a.tx) ++ signF 3) ++ b.tx) ++ [41])) (by kernel_rfl) rfl
      · subst hop
        have htx : FT.tx ⟨4, name, md, tk, [], ak, [a, b]⟩ = ((([40] ++ a.tx) ++ signF 4) ++ b.tx) ++ [41] := by
          rw [FT.tx, joinF]
          simp only [show ¬ ((4 : Int) = 0) by decide, show ¬ ((4 : Int) = 1) by decide, show ¬ ((4 : Int) = 2) by decide, show ¬ ((4 : Int) = 7) by decide, show ¬ ((4 : Int) = 8) by decide, show ((3 : Int) ≤ 4 ∧ (4 : Int) ≤ 6) by decide, if_false, if_true]
          rfl
        rw [htx]
        have hsg := fsign_len 4
        refine Pure.of_sw 97 Tryd.func32 rfl Tryd.ntmps32 (by kernel_rfl) (Nat.le_of_ble_eq_true (by kernel_rfl)) (by simp only [closeds]; exact ⟨fC5_closed 4 name md tk [] ak [a, b], trivial⟩) (by simp only [AV.closed]) ?_
        refine SW.of_vc ?_
        repeat first | refine opsStep ?_ | refine codeStep ?_ | refine drawStep ?_
        refine SW.drawn rfl (by kernel_rfl) ?_
        repeat first | refine opsStep ?_ | refine codeStep ?_ | refine drawStep ?_
        refine guardE_of hf0 ?_
        repeat first | refine opsStep ?_ | refine codeStep ?_ | refine drawStep ?_
        refine .inl ⟨_, _, [], ha', RdsN_refl _, .inr rfl, none_need, ?_⟩
        repeat first | refine opsStep ?_ | refine codeStep ?_ | refine drawStep ?_
        refine guardE_of (by show 1 + a.tx.length ≤ 9223372036854775807; omega) ?_
        repeat first | refine opsStep ?_ | refine codeStep ?_ | refine drawStep ?_
        refine .inl ⟨_, _, [], (show_sign 4), RdsN_refl _, .inr rfl, none_need, ?_⟩
        repeat first | refine opsStep ?_ | refine codeStep ?_ | refine drawStep ?_
        refine guardE_of (by show ([40] ++ a.tx).length + (signF 4).length ≤ 9223372036854775807; simp only [List.length_append, List.length_cons, List.length_nil]; omega) ?_
        repeat first | refine opsStep ?_ | refine codeStep ?_ | refine drawStep ?_
        refine guardE_of hf1 ?_
        repeat first | refine opsStep ?_ | refine codeStep ?_ | refine drawStep ?_
        refine .inl ⟨_, _, [], hb', RdsN_refl _, .inr rfl, none_need, ?_⟩
        repeat first | refine opsStep ?_ | refine codeStep ?_ | refine drawStep ?_
        refine guardE_of (by show (([40] ++ a.tx) ++ signF 4).length + b.tx.length ≤ 9223372036854775807; simp only [List.length_append, List.length_cons, List.length_nil]; omega) ?_
        repeat first | refine opsStep ?_ | refine codeStep ?_ | refine drawStep ?_
        refine guardE_of (by show ((([40] ++ a.tx) ++ signF 4) ++ b.tx).length + 1 ≤ 9223372036854775807; simp only [List.length_append, List.length_cons, List.length_nil]; omega) ?_
        repeat first | refine opsStep ?_ | refine codeStep ?_ | refine drawStep ?_
        refine ⟨by kernel_rfl, ?_⟩
        repeat first | refine opsStep ?_ | refine codeStep ?_ | refine drawStep ?_
        exact finV (v' := .str (((([40] ++ a.tx) ++ signF 4) ++ b.tx) ++ [41])) (by kernel_rfl) rfl
      · subst hop
        have htx : FT.tx ⟨5, name, md, tk, [], ak, [a, b]⟩ = ((([40] ++ a.tx) ++ signF 5) ++ b.tx) ++ [41] := by
          rw [FT.tx, joinF]
          simp only [show ¬ ((5 : Int) = 0) by decide, show ¬ ((5 : Int) = 1) by decide, show ¬ ((5 : Int) = 2) by decide, show ¬ ((5 : Int) = 7) by decide, show ¬ ((5 : Int) = 8) by decide, show ((3 : Int) ≤ 5 ∧ (5 : Int) ≤ 6) by decide, if_false, if_true]
          rfl
        rw [htx]
        have hsg := fsign_len 5
        refine Pure.of_sw 97 Tryd.func32 rfl Tryd.ntmps32 (by kernel_rfl) (Nat.le_of_ble_eq_true (by kernel_rfl)) (by simp only [closeds]; exact ⟨fC5_closed 5 name md tk [] ak [a, b], trivial⟩) (by simp only [AV.closed]) ?_
        refine SW.of_vc ?_
        repeat first | refine opsStep ?_ | refine codeStep ?_ | refine drawStep ?_
        refine SW.drawn rfl (by kernel_rfl) ?_
        repeat first | refine opsStep ?_ | refine codeStep ?_ | refine drawStep ?_
        refine guardE_of hf0 ?_
        repeat first | refine opsStep ?_ | refine codeStep ?_ | refine drawStep ?_
        refine .inl ⟨_, _, [], ha', RdsN_refl _, .inr rfl, none_need, ?_⟩
        repeat first | refine opsStep ?_ | refine codeStep ?_ | refine drawStep ?_
        refine guardE_of (by show 1 + a.tx.length ≤ 9223372036854775807; omega) ?_
        repeat first | refine opsStep ?_ | refine codeStep ?_ | refine drawStep ?_
        refine .inl ⟨_, _, [], (show_sign 5), RdsN_refl _, .inr rfl, none_need, ?_⟩
        repeat first | refine opsStep ?_ | refine codeStep ?_ | refine drawStep ?_
        refine guardE_of (by show ([40] ++ a.tx).length + (signF 5).length ≤ 9223372036854775807; simp only [List.length_append, List.length_cons, List.length_nil]; omega) ?_
        repeat first | refine opsStep ?_ | refine codeStep ?_ | refine drawStep ?_
        refine guardE_of hf1 ?_
        repeat first | refine opsStep ?_ | refine codeStep ?_ | refine drawStep ?_
        refine .inl ⟨_, _, [], hb', RdsN_refl _, .inr rfl, none_need, ?_⟩
        repeat first | refine opsStep ?_ | refine codeStep ?_ | refine drawStep ?_
        refine guardE_of (by show (([40] ++ a.tx) ++ signF 5).length + b.tx.length ≤ 9223372036854775807; simp only [List.length_append, List.length_cons, List.length_nil]; omega) ?_
        repeat first | refine opsStep ?_ | refine codeStep ?_ | refine drawStep ?_
        refine guardE_of (by show ((([40] ++ a.tx) ++ signF 5) ++ b.tx).length + 1 ≤ 9223372036854775807; simp only [List.length_append, List.length_cons, List.length_nil]; omega) ?_
        repeat first | refine opsStep ?_ | refine codeStep ?_ | refine drawStep ?_
        refine ⟨by kernel_rfl, ?_⟩
        repeat first | refine opsStep ?_ | refine codeStep ?_ | refine drawStep ?_
        exact finV (v' := .str (((([40] ++ a.tx) ++ signF 5) ++ b.tx) ++ [41])) (by kernel_rfl) rfl
      · subst hop
        have htx : FT.tx ⟨6, name, md, tk, [], ak, [a, b]⟩ = ((([40] ++ a.tx) ++ signF 6) ++ b.tx) ++ [41] := by
          rw [FT.tx, joinF]
          simp only [show ¬ ((6 : Int) = 0) by decide, show ¬ ((6 : Int) = 1) by decide, show ¬ ((6 : Int) = 2) by decide, show ¬ ((6 : Int) = 7) by decide, show ¬ ((6 : Int) = 8) by decide, show ((3 : Int) ≤ 6 ∧ (6 : Int) ≤ 6) by decide, if_false, if_true]
          rfl
        rw [htx]
        have hsg := fsign_len 6
        refine Pure.of_sw 97 Tryd.func32 rfl Tryd.ntmps32 (by kernel_rfl) (Nat.le_of_ble_eq_true (by kernel_rfl)) (by simp only [closeds]; exact ⟨fC5_closed 6 name md tk [] ak [a, b], trivial⟩) (by simp only [AV.closed]) ?_
        refine SW.of_vc ?_
        repeat first | refine opsStep ?_ | refine codeStep ?_ | refine drawStep ?_
        refine SW.drawn rfl (by kernel_rfl) ?_
        repeat first | refine opsStep ?_ | refine codeStep ?_ | refine drawStep ?_
        refine guardE_of hf0 ?_
        repeat first | refine opsStep ?_ | refine codeStep ?_ | refine drawStep ?_
        refine .inl ⟨_, _, [], ha', RdsN_refl _, .inr rfl, none_need, ?_⟩
        repeat first | refine opsStep ?_ | refine codeStep ?_ | refine drawStep ?_
        refine guardE_of (by show 1 + a.tx.length ≤ 9223372036854775807; omega) ?_
        repeat first | refine opsStep ?_ | refine codeStep ?_ | refine drawStep ?_
        refine .inl ⟨_, _, [], (show_sign 6), RdsN_refl _, .inr rfl, none_need, ?_⟩
        repeat first | refine opsStep ?_ | refine codeStep ?_ | refine drawStep ?_
        refine guardE_of (by show ([40] ++ a.tx).length + (signF 6).length ≤ 9223372036854775807; simp only [List.length_append, List.length_cons, List.length_nil]; omega) ?_
        repeat first | refine opsStep ?_ | refine codeStep ?_ | refine drawStep ?_
        refine guardE_of hf1 ?_
        repeat first | refine opsStep ?_ | refine codeStep ?_ | refine drawStep ?_
        refine .inl ⟨_, _, [], hb', RdsN_refl _, .inr rfl, none_need, ?_⟩
        repeat first | refine opsStep ?_ | refine codeStep ?_ | refine drawStep ?_
        refine guardE_of (by show (([40] ++ a.tx) ++ signF 6).length + b.tx.length ≤ 9223372036854775807; simp only [List.length_append, List.length_cons, List.length_nil]; omega) ?_
        repeat first | refine opsStep ?_ | refine codeStep ?_ | refine drawStep ?_
        refine guardE_of (by show ((([40] ++ a.tx) ++ signF 6) ++ b.tx).length + 1 ≤ 9223372036854775807; simp only [List.length_append, List.length_cons, List.length_nil]; omega) ?_
        repeat first | refine opsStep ?_ | refine codeStep ?_ | refine drawStep ?_
        refine ⟨by kernel_rfl, ?_⟩
        repeat first | refine opsStep ?_ | refine codeStep ?_ | refine drawStep ?_
        exact finV (v' := .str (((([40] ++ a.tx) ++ signF 6) ++ b.tx) ++ [41])) (by kernel_rfl) rfl
    · rw [ftsNodes, ftsNodes] at hn
      rw [ftsOk] at hao
      rw [ftsRight] at har
      have ha' := ih a (by omega) (by omega) har.1 hao.1
      have la := FT.tx_small hao.1 (by omega : a.nodes ≤ 500)
      have hf0 : 5 ≤ ((ftsC [a]).drop ((0 : Int).toNat * 5)).length := by rw [List.length_drop, ftsC_len]; simp
      rw [← fcell_a a []] at ha'
      rcases hop with hop | hop
      · subst hop
        have htx : FT.tx ⟨7, name, md, tk, [], ak, [a]⟩ = (([101, 120, 32] ++ name) ++ [46, 32]) ++ a.tx := by
          rw [FT.tx, joinF]
          simp only [show ¬ ((7 : Int) = 0) by decide, show ¬ ((7 : Int) = 1) by decide, show ¬ ((7 : Int) = 2) by decide, show ¬ ((8 : Int) = 7) by decide, if_false, if_true]
          rfl
        rw [htx]
        refine Pure.of_sw 97 Tryd.func32 rfl Tryd.ntmps32 (by kernel_rfl) (Nat.le_of_ble_eq_true (by kernel_rfl)) (by simp only [closeds]; exact ⟨fC5_closed 7 name md tk [] ak [a], trivial⟩) (by simp only [AV.closed]) ?_
        refine SW.of_vc ?_
        repeat first | refine opsStep ?_ | refine codeStep ?_ | refine drawStep ?_
        refine SW.drawn rfl (by kernel_rfl) ?_
        repeat first | refine opsStep ?_ | refine codeStep ?_ | refine drawStep ?_
        refine guardE_of (by show 3 + name.length ≤ 9223372036854775807; omega) ?_
        repeat first | refine opsStep ?_ | refine codeStep ?_ | refine drawStep ?_
        refine guardE_of (by show ([101, 120, 32] ++ name).length + 2 ≤ 9223372036854775807; simp only [List.length_append, List.length_cons, List.length_nil]; omega) ?_
        repeat first | refine opsStep ?_ | refine codeStep ?_ | refine drawStep ?_
        refine guardE_of hf0 ?_
        repeat first | refine opsStep ?_ | refine codeStep ?_ | refine drawStep ?_
        refine .inl ⟨_, _, [], ha', RdsN_refl _, .inr rfl, none_need, ?_⟩
        repeat first | refine opsStep ?_ | refine codeStep ?_ | refine drawStep ?_
        refine guardE_of (by show (([101, 120, 32] ++ name) ++ [46, 32]).length + a.tx.length ≤ 9223372036854775807; simp only [List.length_append, List.length_cons, List.length_nil]; omega) ?_
        repeat first | refine opsStep ?_ | refine codeStep ?_ | refine drawStep ?_
        refine ⟨by kernel_rfl, ?_⟩
        repeat first | refine opsStep ?_ | refine codeStep ?_ | refine drawStep ?_
        exact finV (v' := .str ((([101, 120, 32] ++ name) ++ [46, 32]) ++ a.tx)) (by kernel_rfl) rfl
      · subst hop
        have htx : FT.tx ⟨8, name, md, tk, [], ak, [a]⟩ = (([97, 108, 108, 32] ++ name) ++ [46, 32]) ++ a.tx := by
          rw [FT.tx, joinF]
          simp only [show ¬ ((8 : Int) = 0) by decide, show ¬ ((8 : Int) = 1) by decide, show ¬ ((8 : Int) = 2) by decide, show ¬ ((8 : Int) = 7) by decide, if_false, if_true]
          rfl
        rw [htx]
        refine Pure.of_sw 97 Tryd.func32 rfl Tryd.ntmps32 (by kernel_rfl) (Nat.le_of_ble_eq_true (by kernel_rfl)) (by simp only [closeds]; exact ⟨fC5_closed 8 name md tk [] ak [a], trivial⟩) (by simp only [AV.closed]) ?_
        refine SW.of_vc ?_
        repeat first | refine opsStep ?_ | refine codeStep ?_ | refine drawStep ?_
        refine SW.drawn rfl (by kernel_rfl) ?_
        repeat first | refine opsStep ?_ | refine codeStep ?_ | refine drawStep ?_
        refine guardE_of (by show 4 + name.length ≤ 9223372036854775807; omega) ?_
        repeat first | refine opsStep ?_ | refine codeStep ?_ | refine drawStep ?_
        refine guardE_of (by show ([97, 108, 108, 32] ++ name).length + 2 ≤ 9223372036854775807; simp only [List.length_append, List.length_cons, List.length_nil]; omega) ?_
        repeat first | refine opsStep ?_ | refine codeStep ?_ | refine drawStep ?_
        refine guardE_of hf0 ?_
        repeat first | refine opsStep ?_ | refine codeStep ?_ | refine drawStep ?_
        refine .inl ⟨_, _, [], ha', RdsN_refl _, .inr rfl, none_need, ?_⟩
        repeat first | refine opsStep ?_ | refine codeStep ?_ | refine drawStep ?_
        refine guardE_of (by show (([97, 108, 108, 32] ++ name) ++ [46, 32]).length + a.tx.length ≤ 9223372036854775807; simp only [List.length_append, List.length_cons, List.length_nil]; omega) ?_
        repeat first | refine opsStep ?_ | refine codeStep ?_ | refine drawStep ?_
        refine ⟨by kernel_rfl, ?_⟩
        repeat first | refine opsStep ?_ | refine codeStep ?_ | refine drawStep ?_
        exact finV (v' := .str ((([97, 108, 108, 32] ++ name) ++ [46, 32]) ++ a.tx)) (by kernel_rfl) rfl
    · rw [ttsNodes, ttsNodes, ttsNodes] at hn
      rw [ttsOk, ttsOk] at hto
      rw [ttsRight, ttsRight] at htr
      have ha' := shTerm _ a (Nat.le_refl _) (by omega) htr.1 hto.1
      have hb' := shTerm _ b (Nat.le_refl _) (by omega) htr.2.1 hto.2.1
      have la := TT.tx_small hto.1 (by omega : a.nodes ≤ 500)
      have lb := TT.tx_small hto.2.1 (by omega : b.nodes ≤ 500)
      have hf0 : 4 ≤ ((ttsC [a, b]).drop ((0 : Int).toNat * 4)).length := by rw [List.length_drop, ttsC_len]; simp
      have hf1 : 4 ≤ ((ttsC [a, b]).drop ((1 : Int).toNat * 4)).length := by rw [List.length_drop, ttsC_len]; simp
      rw [← cell_a a [b]] at ha'
      rw [← cell_b a b []] at hb'
      rcases hop with hop | hop | hop | hop | hop | hop
      · subst hop
        have htx : FT.tx ⟨9, name, md, tk, [a, b], ak, []⟩ = (a.tx ++ signF 9) ++ b.tx := by
          rw [FT.tx, joinF]
          simp only [show ¬ ((9 : Int) = 0) by decide, show ¬ ((9 : Int) = 1) by decide, show ¬ ((9 : Int) = 2) by decide, show ¬ ((9 : Int) = 7) by decide, show ¬ ((9 : Int) = 8) by decide, show ¬ ((3 : Int) ≤ 9 ∧ (9 : Int) ≤ 6) by decide, show ¬ ((9 : Int) = 15) by decide, if_false]
          rfl
        rw [htx]
        have hsg := fsign_len 9
        refine Pure.of_sw 97 Tryd.func32 rfl Tryd.ntmps32 (by kernel_rfl) (Nat.le_of_ble_eq_true (by kernel_rfl)) (by simp only [closeds]; exact ⟨fC5_closed 9 name md tk [a, b] ak [], trivial⟩) (by simp only [AV.closed]) ?_
        refine SW.of_vc ?_
        repeat first | refine opsStep ?_ | refine codeStep ?_ | refine drawStep ?_
        refine SW.drawn rfl (by kernel_rfl) ?_
        repeat first | refine opsStep ?_ | refine codeStep ?_ | refine drawStep ?_
        refine guardE_of hf0 ?_
        repeat first | refine opsStep ?_ | refine codeStep ?_ | refine drawStep ?_
        refine .inl ⟨_, _, [], ha', RdsN_refl _, .inr rfl, none_need, ?_⟩
        repeat first | refine opsStep ?_ | refine codeStep ?_ | refine drawStep ?_
        refine .inl ⟨_, _, [], (show_sign 9), RdsN_refl _, .inr rfl, none_need, ?_⟩
        repeat first | refine opsStep ?_ | refine codeStep ?_ | refine drawStep ?_
        refine guardE_of (by show a.tx.length + (signF 9).length ≤ 9223372036854775807; omega) ?_
        repeat first | refine opsStep ?_ | refine codeStep ?_ | refine drawStep ?_
        refine guardE_of hf1 ?_
        repeat first | refine opsStep ?_ | refine codeStep ?_ | refine drawStep ?_
        refine .inl ⟨_, _, [], hb', RdsN_refl _, .inr rfl, none_need, ?_⟩
        repeat first | refine opsStep ?_ | refine codeStep ?_ | refine drawStep ?_
        refine guardE_of (by show (a.tx ++ signF 9).length + b.tx.length ≤ 9223372036854775807; simp only [List.length_append]; omega) ?_
        repeat first | refine opsStep ?_ | refine codeStep ?_ | refine drawStep ?_
        refine ⟨by kernel_rfl, ?_⟩
        repeat first | refine opsStep ?_ | refine codeStep ?_ | refine drawStep ?_
        exact finV (v' := .str ((a.tx ++ signF 9) ++ b.tx)) (by kernel_rfl) rfl
      · subst hop
        have htx : FT.tx ⟨10, name, md, tk, [a, b], ak, []⟩ = (a.tx ++ signF 10) ++ b.tx := by
          rw [FT.tx, joinF]
          simp only [show ¬ ((10 : Int) = 0) by decide, show ¬ ((10 : Int) = 1) by decide, show ¬ ((10 : Int) = 2) by decide, show ¬ ((10 : Int) = 7) by decide, show ¬ ((10 : Int) = 8) by decide, show ¬ ((3 : Int) ≤ 10 ∧ (10 : Int) ≤ 6) by decide, show ¬ ((10 : Int) = 15) by decide, if_false]
          rfl
        rw [htx]
        have hsg := fsign_len 10
        refine Pure.of_sw 97 Tryd.func32 rfl Tryd.ntmps32 (by kernel_rfl) (Nat.le_of_ble_eq_true (by kernel_rfl)) (by simp only [closeds]; exact ⟨fC5_closed 10 name md tk [a, b] ak [], trivial⟩) (by simp only [AV.closed]) ?_
        refine SW.of_vc ?_
        repeat first | refine opsStep ?_ | refine codeStep ?_ | refine drawStep ?_
        refine SW.drawn rfl (by kernel_rfl) ?_
        repeat first | refine opsStep ?_ | refine codeStep ?_ | refine drawStep ?_
        refine guardE_of hf0 ?_
        repeat first | refine opsStep ?_ | refine codeStep ?_ | refine drawStep ?_
        refine .inl ⟨_, _, [], ha', RdsN_refl _, .inr rfl, none_need, ?_⟩
        repeat first | refine opsStep ?_ | refine codeStep ?_ | refine drawStep ?_
        refine .inl ⟨_, _, [], (show_sign 10), RdsN_refl _, .inr rfl, none_need, ?_⟩
        repeat first | refine opsStep ?_ | refine codeStep ?_ | refine drawStep ?_
        refine guardE_of (by show a.tx.length + (signF 10).length ≤ 9223372036854775807; omega) ?_
        repeat first | refine opsStep ?_ | refine codeStep ?_ | refine drawStep ?_
        refine guardE_of hf1 ?_
        repeat first | refine opsStep ?_ | refine codeStep ?_ | refine drawStep ?_
        refine .inl ⟨_, _, [], hb', RdsN_refl _, .inr rfl, none_need, ?_⟩
        repeat first | refine opsStep ?_ | refine codeStep ?_ | refine drawStep ?_
        refine guardE_of (by show (a.tx ++ signF 10).length + b.tx.length ≤ 9223372036854775807; simp only [List.length_append]; omega) ?_
        repeat first | refine opsStep ?_ | refine codeStep ?_ | refine drawStep ?_
        refine ⟨by kernel_rfl, ?_⟩
        repeat first | refine opsStep ?_ | refine codeStep ?_ | refine drawStep ?_
        exact finV (v' := .str ((a.tx ++ signF 10) ++ b.tx)) (by kernel_rfl) rfl
      · subst hop
        have htx : FT.tx ⟨11, name, md, tk, [a, b], ak, []⟩ = (a.tx ++ signF 11) ++ b.tx := by
          rw [FT.tx, joinF]
          simp only [show ¬ ((11 : Int) = 0) by decide, show ¬ ((11 : Int) = 1) by decide, show ¬ ((11 : Int) = 2) by decide, show ¬ ((11 : Int) = 7) by decide, show ¬ ((11 : Int) = 8) by decide, show ¬ ((3 : Int) ≤ 11 ∧ (11 : Int) ≤ 6) by decide, show ¬ ((11 : Int) = 15) by decide, if_false]
          rfl
        rw [htx]
        have hsg := fsign_len 11
        refine Pure.of_sw 97 Tryd.func32 rfl Tryd.ntmps32 (by kernel_rfl) (Nat.le_of_ble_eq_true (by kernel_rfl)) (by simp only [closeds]; exact ⟨fC5_closed 11 name md tk [a, b] ak [], trivial⟩) (by simp only [AV.closed]) ?_
        refine SW.of_vc ?_
        repeat first | refine opsStep ?_ | refine codeStep ?_ | refine drawStep ?_
        refine SW.drawn rfl (by kernel_rfl) ?_
        repeat first | refine opsStep ?_ | refine codeStep ?_ | refine drawStep ?_
        refine guardE_of hf0 ?_
        repeat first | refine opsStep ?_ | refine codeStep ?_ | refine drawStep ?_
        refine .inl ⟨_, _, [], ha', RdsN_refl _, .inr rfl, none_need, ?_⟩
        repeat first | refine opsStep ?_ | refine codeStep ?_ | refine drawStep ?_
        refine .inl ⟨_, _, [], (show_sign 11), RdsN_refl _, .inr rfl, none_need, ?_⟩
        repeat first | refine opsStep ?_ | refine codeStep ?_ | refine drawStep ?_
        refine guardE_of (by show a.tx.length + (signF 11).length ≤ 9223372036854775807; omega) ?_
        repeat first | refine opsStep ?_ | refine codeStep ?_ | refine drawStep ?_
        refine guardE_of hf1 ?_
        repeat first | refine opsStep ?_ | refine codeStep ?_ | refine drawStep ?_
        refine .inl ⟨_, _, [], hb', RdsN_refl _, .inr rfl, none_need, ?_⟩
        repeat first | refine opsStep ?_ | refine codeStep ?_ | refine drawStep ?_
        refine guardE_of (by show (a.tx ++ signF 11).length + b.tx.length ≤ 9223372036854775807; simp only [List.length_append]; omega) ?_
        repeat first | refine opsStep ?_ | refine codeStep ?_ | refine drawStep ?_
        refine ⟨by kernel_rfl, ?_⟩
        repeat first | refine opsStep ?_ | refine codeStep ?_ | refine drawStep ?_
        exact finV (v' := .str ((a.tx ++ signF 11) ++ b.tx)) (by kernel_rfl) rfl
      · subst hop
        have htx : FT.tx ⟨12, name, md, tk, [a, b], ak, []⟩ = (a.tx ++ signF 12) ++ b.tx := by
          rw [FT.tx, joinF]
          simp only [show ¬ ((12 : Int) = 0) by decide, show ¬ ((12 : Int) = 1) by decide, show ¬ ((12 : Int) = 2) by decide, show ¬ ((12 : Int) = 7) by decide, show ¬ ((12 : Int) = 8) by decide, show ¬ ((3 : Int) ≤ 12 ∧ (12 : Int) ≤ 6) by decide, show ¬ ((12 : Int) = 15) by decide, if_false]
          rfl
        rw [htx]
        have hsg := fsign_len 12
        refine Pure.of_sw 97 Tryd.func32 rfl Tryd.ntmps32 (by kernel_rfl) (Nat.le_of_ble_eq_true (by kernel_rfl)) (by simp only [closeds]; exact ⟨fC5_closed 12 name md tk [a, b] ak [], trivial⟩) (by simp only [AV.closed]) ?_
        refine SW.of_vc ?_
        repeat first | refine opsStep ?_ | refine codeStep ?_ | refine drawStep ?_
        refine SW.drawn rfl (by kernel_rfl) ?_
        repeat first | refine opsStep ?_ | refine codeStep ?_ | refine drawStep ?_
        refine guardE_of hf0 ?_
        repeat first | refine opsStep ?_ | refine codeStep ?_ | refine drawStep ?_
        refine .inl ⟨_, _, [], ha', RdsN_refl _, .inr rfl, none_need, ?_⟩
        repeat first | refine opsStep ?_ | refine codeStep ?_ | refine drawStep ?_
        refine .inl ⟨_, _, [], (show_sign 12), RdsN_refl _, .inr rfl, none_need, ?_⟩
        repeat first | refine opsStep ?_ | refine codeStep ?_ | refine drawStep ?_
        refine guardE_of (by show a.tx.length + (signF 12).length ≤ 9223372036854775807; omega) ?_
        repeat first | refine opsStep ?_ | refine codeStep ?_ | refine drawStep ?_
        refine guardE_of hf1 ?_
        repeat first | refine opsStep ?_ | refine codeStep ?_ | refine drawStep ?_
        refine .inl ⟨_, _, [], hb', RdsN_refl _, .inr rfl, none_need, ?_⟩
        repeat first | refine opsStep ?_ | refine codeStep ?_ | refine drawStep ?_
        refine guardE_of (by show (a.tx ++ signF 12).length + b.tx.length ≤ 9223372036854775807; simp only [List.length_append]; omega) ?_
        repeat first | refine opsStep ?_ | refine codeStep ?_ | refine drawStep ?_
        refine ⟨by kernel_rfl, ?_⟩
        repeat first | refine opsStep ?_ | refine codeStep ?_ | refine drawStep ?_
        exact finV (v' := .str ((a.tx ++ signF 12) ++ b.tx)) (by kernel_rfl) rfl
      · subst hop
        have htx : FT.tx ⟨13, name, md, tk, [a, b], ak, []⟩ = (a.tx ++ signF 13) ++ b.tx := by
          rw [FT.tx, joinF]
          simp only [show ¬ ((13 : Int) = 0) by decide, show ¬ ((13 : Int) = 1) by decide, show ¬ ((13 : Int) = 2) by decide, show ¬ ((13 : Int) = 7) by decide, show ¬ ((13 : Int) = 8) by decide, show ¬ ((3 : Int) ≤ 13 ∧ (13 : Int) ≤ 6) by decide, show ¬ ((13 : Int) = 15) by decide, if_false]
          rfl
        rw [htx]
        have hsg := fsign_len 13
        refine Pure.of_sw 97 Tryd.func32 rfl Tryd.ntmps32 (by kernel_rfl) (Nat.le_of_ble_eq_true (by kernel_rfl)) (by simp only [closeds]; exact ⟨fC5_closed 13 name md tk [a, b] ak [], trivial⟩) (by simp only [AV.closed]) ?_
        refine SW.of_vc ?_
        repeat first | refine opsStep ?_ | refine codeStep ?_ | refine drawStep ?_
        refine SW.drawn rfl (by kernel_rfl) ?_
        repeat first | refine opsStep ?_ | refine codeStep ?_ | refine drawStep ?_
        refine guardE_of hf0 ?_
        repeat first | refine opsStep ?_ | refine codeStep ?_ | refine drawStep ?_
        refine .inl ⟨_, _, [], ha', RdsN_refl _, .inr rfl, none_need, ?_⟩
        repeat first | refine opsStep ?_ | refine codeStep ?_ | refine drawStep ?_
        refine .inl ⟨_, _, [], (show_sign 13), RdsN_refl _, .inr rfl, none_need, ?_⟩
        repeat first | refine opsStep ?_ | refine codeStep ?_ | refine drawStep ?_
        refine guardE_of (by show a.tx.length + (signF 13).length ≤ 9223372036854775807; omega) ?_
        repeat first | refine opsStep ?_ | refine codeStep ?_ | refine drawStep ?_
        refine guardE_of hf1 ?_
        repeat first | refine opsStep ?_ | refine codeStep ?_ | refine drawStep ?_
        refine .inl ⟨_, _, [], hb', RdsN_refl _, .inr rfl, none_need, ?_⟩
        repeat first | refine opsStep ?_ | refine codeStep ?_ | refine drawStep ?_
        refine guardE_of (by show (a.tx ++ signF 13).length + b.tx.length ≤ 9223372036854775807; simp only [List.length_append]; omega) ?_
        repeat first | refine opsStep ?_ | refine codeStep ?_ | refine drawStep ?_
        refine ⟨by kernel_rfl, ?_⟩
        repeat first | refine opsStep ?_ | refine codeStep ?_ | refine drawStep ?_
        exact finV (v' := .str ((a.tx ++ signF 13) ++ b.tx)) (by kernel_rfl) rfl
      · subst hop
        have htx : FT.tx ⟨14, name, md, tk, [a, b], ak, []⟩ = (a.tx ++ signF 14) ++ b.tx := by
          rw [FT.tx, joinF]
          simp only [show ¬ ((14 : Int) = 0) by decide, show ¬ ((14 : Int) = 1) by decide, show ¬ ((14 : Int) = 2) by decide, show ¬ ((14 : Int) = 7) by decide, show ¬ ((14 : Int) = 8) by decide, show ¬ ((3 : Int) ≤ 14 ∧ (14 : Int) ≤ 6) by decide, show ¬ ((14 : Int) = 15) by decide, if_false]
          rfl
        rw [htx]
        have hsg := fsign_len 14
        refine Pure.of_sw 97 Tryd.func32 rfl Tryd.ntmps32 (by kernel_rfl) (Nat.le_of_ble_eq_true (by kernel_rfl)) (by simp only [closeds]; exact ⟨fC5_closed 14 name md tk [a, b] ak [], trivial⟩) (by simp only [AV.closed]) ?_
        refine SW.of_vc ?_
        repeat first | refine opsStep ?_ | refine codeStep ?_ | refine drawStep ?_
        refine SW.drawn rfl (by kernel_rfl) ?_
        repeat first | refine opsStep ?_ | refine codeStep ?_ | refine drawStep ?_
        refine guardE_of hf0 ?_
        repeat first | refine opsStep ?_ | refine codeStep ?_ | refine drawStep ?_
        refine .inl ⟨_, _, [], ha', RdsN_refl _, .inr rfl, none_need, ?_⟩
        repeat first | refine opsStep ?_ | refine codeStep ?_ | refine drawStep ?_
        refine .inl ⟨_, _, [], (show_sign 14), RdsN_refl _, .inr rfl, none_need, ?_⟩
        repeat first | refine opsStep ?_ | refine codeStep ?_ | refine drawStep ?_
        refine guardE_of (by show a.tx.length + (signF 14).length ≤ 9223372036854775807; omega) ?_
        repeat first | refine opsStep ?_ | refine codeStep ?_ | refine drawStep ?_
        refine guardE_of hf1 ?_
        repeat first | refine opsStep ?_ | refine codeStep ?_ | refine drawStep ?_
        refine .inl ⟨_, _, [], hb', RdsN_refl _, .inr rfl, none_need, ?_⟩
        repeat first | refine opsStep ?_ | refine codeStep ?_ | refine drawStep ?_
        refine guardE_of (by show (a.tx ++ signF 14).length + b.tx.length ≤ 9223372036854775807; simp only [List.length_append]; omega) ?_
        repeat first | refine opsStep ?_ | refine codeStep ?_ | refine drawStep ?_
        refine ⟨by kernel_rfl, ?_⟩
        repeat first | refine opsStep ?_ | refine codeStep ?_ | refine drawStep ?_
        exact finV (v' := .str ((a.tx ++ signF 14) ++ b.tx)) (by kernel_rfl) rfl
    · rw [ttsNodes, ttsNodes, ttsNodes] at hn
      rw [ttsOk, ttsOk] at hto
      rw [ttsRight, ttsRight] at htr
      have ha' := shTerm _ a (Nat.le_refl _) (by omega) htr.1 hto.1
      have hb' := shTerm _ b (Nat.le_refl _) (by omega) htr.2.1 hto.2.1
      have la := TT.tx_small hto.1 (by omega : a.nodes ≤ 500)
      have lb := TT.tx_small hto.2.1 (by omega : b.nodes ≤ 500)
      have hf0 : 4 ≤ ((ttsC [a, b]).drop ((0 : Int).toNat * 4)).length := by rw [List.length_drop, ttsC_len]; simp
      have hf1 : 4 ≤ ((ttsC [a, b]).drop ((1 : Int).toNat * 4)).length := by rw [List.length_drop, ttsC_len]; simp
      rw [← cell_a a [b]] at ha'
      rw [← cell_b a b []] at hb'
      have hfm := fmt_Int md.toNat (by have := hmd.2; omega)
      have hfl := dg_lenU 18 md.toNat (by have := hmd.2; omega)
      rw [Int.toNat_of_nonneg (by omega)] at hfm
      have htx : FT.tx ⟨15, name, md, tk, [a, b], ak, []⟩ = (((a.tx ++ [32, 126, 32]) ++ b.tx) ++ [32, 109, 111, 100, 32]) ++ dgL md.toNat := by
        rw [FT.tx, joinF]
        simp only [show ¬ ((15 : Int) = 0) by decide, show ¬ ((15 : Int) = 1) by decide, show ¬ ((15 : Int) = 2) by decide, show ¬ ((15 : Int) = 7) by decide, show ¬ ((15 : Int) = 8) by decide, show ¬ ((3 : Int) ≤ 15 ∧ (15 : Int) ≤ 6) by decide, if_false, if_true]
        rfl
      rw [htx]
      refine Pure.of_sw 97 Tryd.func32 rfl Tryd.ntmps32 (by kernel_rfl) (Nat.le_of_ble_eq_true (by kernel_rfl)) (by simp only [closeds]; exact ⟨fC5_closed 15 name md tk [a, b] ak [], trivial⟩) (by simp only [AV.closed]) ?_
      refine SW.of_vc ?_
      repeat first | refine opsStep ?_ | refine codeStep ?_ | refine drawStep ?_
      refine SW.drawn rfl (by kernel_rfl) ?_
      repeat first | refine opsStep ?_ | refine codeStep ?_ | refine drawStep ?_
      refine guardE_of hf0 ?_
      repeat first | refine opsStep ?_ | refine codeStep ?_ | refine drawStep ?_
      refine .inl ⟨_, _, [], ha', RdsN_refl _, .inr rfl, none_need, ?_⟩
      repeat first | refine opsStep ?_ | refine codeStep ?_ | refine drawStep ?_
      refine guardE_of (by show a.tx.length + 3 ≤ 9223372036854775807; omega) ?_
      repeat first | refine opsStep ?_ | refine codeStep ?_ | refine drawStep ?_
      refine guardE_of hf1 ?_
      repeat first | refine opsStep ?_ | refine codeStep ?_ | refine drawStep ?_
      refine .inl ⟨_, _, [], hb', RdsN_refl _, .inr rfl, none_need, ?_⟩
      repeat first | refine opsStep ?_ | refine codeStep ?_ | refine drawStep ?_
      refine guardE_of (by show (a.tx ++ [32, 126, 32]).length + b.tx.length ≤ 9223372036854775807; simp only [List.length_append, List.length_cons, List.length_nil]; omega) ?_
      repeat first | refine opsStep ?_ | refine codeStep ?_ | refine drawStep ?_
      refine guardE_of (by show ((a.tx ++ [32, 126, 32]) ++ b.tx).length + 5 ≤ 9223372036854775807; simp only [List.length_append, List.length_cons, List.length_nil]; omega) ?_
      repeat first | refine opsStep ?_ | refine codeStep ?_ | refine drawStep ?_
      refine .inl ⟨_, _, [], hfm, RdsN_refl _, .inr rfl, none_need, ?_⟩
      repeat first | refine opsStep ?_ | refine codeStep ?_ | refine drawStep ?_
      refine guardE_of (by show (((a.tx ++ [32, 126, 32]) ++ b.tx) ++ [32, 109, 111, 100, 32]).length + (dgL md.toNat).length ≤ 9223372036854775807; simp only [List.length_append, List.length_cons, List.length_nil]; omega) ?_
      repeat first | refine opsStep ?_ | refine codeStep ?_ | refine drawStep ?_
      refine ⟨by kernel_rfl, ?_⟩
      repeat first | refine opsStep ?_ | refine codeStep ?_ | refine drawStep ?_
      exact finV (v' := .str ((((a.tx ++ [32, 126, 32]) ++ b.tx) ++ [32, 109, 111, 100, 32]) ++ dgL md.toNat)) (by kernel_rfl) rfl

theorem show_Formula (t : FT) (hok : t.ok) : Pure Tryd.prog 13 [.agg t.cells] (.tup [.str (if chkF t = 0 then t.tx else []), .int .i64 (chkF t)]) := by
  have hck := tree_Check t hok
  have hst : chkF t = 0 → Pure Tryd.prog 32 [.agg t.cells] (.str t.tx) := fun h => by
    obtain ⟨h1, h2⟩ := chkF_right h
    exact shFormula _ t (Nat.le_refl _) h2 h1 hok
  have hcl : (t.cells.drop 0).take 5 = t.cells := by rw [List.drop_zero, List.take_of_length_le (by rw [FT.cells_len]; omega)]
  have hlen := FT.cells_len t
  have hcc := FT.cells_closed t
  generalize chkF t = c at *
  generalize t.tx = x at *
  generalize t.cells = y at *
  rw [← hcl] at hck hst
  refine Pure.of_sw 12 Tryd.func13 rfl Tryd.ntmps13 (by kernel_rfl) (Nat.le_of_ble_eq_true (by kernel_rfl)) (by simp only [closeds, AV.closed]; exact ⟨hcc, trivial⟩) (by simp only [AV.closed, closeds]; exact ⟨trivial, trivial, trivial⟩) ?_
  refine SW.of_vc ?_
  repeat first | refine opsStep ?_ | refine codeStep ?_ | refine drawStep ?_
  refine guardE_of (by show 0 + 5 ≤ y.length; omega) ?_
  repeat first | refine opsStep ?_ | refine codeStep ?_ | refine drawStep ?_
  refine callP (args := [.agg ((y.drop 0).take 5)]) hck ?_
  repeat first | refine opsStep ?_ | refine codeStep ?_ | refine drawStep ?_
  refine decB_dec (fun h => ?_) (fun h => ?_)
  · have h : c ≠ 0 := h
    repeat first | refine opsStep ?_ | refine codeStep ?_ | refine drawStep ?_
    exact finV (v' := .tup [.str [], .int .i64 c]) (by kernel_rfl) (by rw [if_neg h])
  · have h : c = 0 := Decidable.of_not_not h
    repeat first | refine opsStep ?_ | refine codeStep ?_ | refine drawStep ?_
    refine guardE_of (by show 0 + 5 ≤ y.length; omega) ?_
    repeat first | refine opsStep ?_ | refine codeStep ?_ | refine drawStep ?_
    refine callP (args := [.agg ((y.drop 0).take 5)]) (hst h) ?_
    repeat first | refine opsStep ?_ | refine codeStep ?_ | refine drawStep ?_
    exact finV (v' := .tup [.str x, .int .i64 0]) (by kernel_rfl) (by rw [if_pos h, h])

end Tab

/- The reference's texts of numbers and parts. -/
namespace Tab
open Go Go.Proofs
set_option maxRecDepth 10000
set_option linter.unusedVariables false
set_option linter.unusedSimpArgs false
set_option linter.unusedSectionVars false
set_option maxHeartbeats 1000000

theorem dg_split (m : Nat) : dgL m = (if m ≤ 9 then [] else dgL (m / 10)) ++ [UInt8.ofNat (48 + m % 10)] := by
  by_cases h : m ≤ 9
  · rw [dgL_small h, if_pos h, Nat.mod_eq_of_lt (by omega)]; rfl
  · rw [if_neg h, dgL_big h]

theorem r08_Number (n : Nat) (hn : n ≤ 9223372036854775807) : Pure Tryd.prog 34 [.int .i64 n] (.str (dgL n)) := by
  have hdl := dg_lenU 18 n (by omega)
  have w8 : ∀ d : Nat, d ≤ 9 → IntKind.wrap .u8 (IntKind.wrap .i64 (48 + (d : Int))) = ((48 + d : Nat) : Int) := fun d hd => by
    rw [IntWalk.i64_in _ (by omega), IntWalk.u8_in _ (by omega)]; simp
  have hr : ∀ m : Nat, (m : Int).tmod 10 = ((m % 10 : Nat) : Int) := fun m => by
    rw [show ((10 : Int)) = ((10 : Nat) : Int) from rfl, ← Int.ofNat_tmod]
  have hcell : ∀ m : Nat, UInt8.ofNat (IntKind.wrap .u8 (IntKind.wrap .i64 (48 + (m : Int).tmod 10))).toNat = UInt8.ofNat (48 + m % 10) := fun m => by
    rw [hr, w8 _ (by omega), Int.toNat_natCast]
  refine Pure.of_sw 23 Tryd.func34 rfl Tryd.ntmps34 (by kernel_rfl) (Nat.le_of_ble_eq_true (by kernel_rfl)) (by simp [closeds, AV.closed, aSs_closed, aIs_closed, aBs_closed, aRs_closed, aDen_closed]) (by simp [AV.closed, closeds, aSs_closed, aIs_closed, aBs_closed, aRs_closed, aDen_closed]) ?_; refine SW.of_vc ?_
  repeat first | refine opsStep ?_ | refine codeStep ?_ | refine drawStep ?_
  refine loopE_of (ι := {x : Nat × Str // dgL n = (if x.1 ≤ 9 then [] else dgL (x.1 / 10)) ++ x.2 ∧ x.1 ≤ 9223372036854775807}) (fun x => (fr [(0, .int .i64 x.1.1), (3, .str x.1.2)], [])) (fun x => x.1.1)
    ⟨(n, [UInt8.ofNat (48 + n % 10)]), dg_split n, hn⟩ ?_ ?_
  · refine Ent.frD (X := [.cells 0 [.int .u8 (IntKind.wrap .u8 (IntKind.wrap .i64 (48 + (n : Int).tmod 10)))]]) (H' := []) ⟨(by kernel_rfl), ?_, trivial⟩ (by kernel_rfl) (Nat.zero_le _) (by simp [frBel, AV.bel]) trivial
    exact Eq.trans (b := AV.str [UInt8.ofNat (IntKind.wrap .u8 (IntKind.wrap .i64 (48 + (n : Int).tmod 10))).toNat]) (by kernel_rfl) (by rw [hcell])
  rintro ⟨⟨m, t⟩, h1, h2⟩
  simp only at h1 h2
  have htl : t.length ≤ 19 := by have := congrArg List.length h1; simp only [List.length_append] at this; omega
  repeat first | refine opsStep ?_ | refine codeStep ?_ | refine drawStep ?_
  refine decB_dec (fun h => ?_) (fun h => ?_)
  · have h' : ¬ m ≤ 9 := by have : (m : Int) ≥ 10 := h; omega
    clear h
    have hq : IntKind.wrap .i64 ((m : Int).tdiv 10) = ((m / 10 : Nat) : Int) := by
      rw [show ((10 : Int)) = ((10 : Nat) : Int) from rfl, ← Int.ofNat_tdiv]
      exact IntWalk.i64_in _ (by omega)
    have hd : dgL n = (if m / 10 ≤ 9 then [] else dgL (m / 10 / 10)) ++ ([UInt8.ofNat (48 + (m / 10) % 10)] ++ t) := by
      rw [h1, if_neg h', ← List.append_assoc, ← dg_split]
    repeat first | refine opsStep ?_ | refine codeStep ?_ | refine drawStep ?_
    refine guardE_of (by show 1 + t.length ≤ 9223372036854775807; omega) ?_
    repeat first | refine opsStep ?_ | refine codeStep ?_ | refine drawStep ?_
    refine ⟨⟨(m / 10, [UInt8.ofNat (48 + (m / 10) % 10)] ++ t), hd, by simp only; omega⟩, (by show m / 10 < m; omega), ?_⟩
    refine Ent.frD (X := [.cells 0 [.int .u8 (IntKind.wrap .u8 (IntKind.wrap .i64 (48 + (IntKind.wrap .i64 ((m : Int).tdiv 10)).tmod 10)))]]) (H' := []) ⟨congrArg (AV.int .i64) hq, ?_, trivial⟩ (by kernel_rfl) (Nat.zero_le _) (by simp [frBel, AV.bel]) trivial
    refine Eq.trans (b := AV.str ([UInt8.ofNat (IntKind.wrap .u8 (IntKind.wrap .i64 (48 + (IntKind.wrap .i64 ((m : Int).tdiv 10)).tmod 10))).toNat] ++ t)) (by kernel_rfl) ?_
    rw [hq, hcell]
  · have h' : m ≤ 9 := by have : ¬ (m : Int) ≥ 10 := h; omega
    clear h
    repeat first | refine opsStep ?_ | refine codeStep ?_ | refine drawStep ?_
    exact finV (v' := .str t) (by kernel_rfl) (by rw [h1, if_pos h', List.nil_append])

def heldB (op over place : Int) : Prop := ((op = 3 ∨ op = 4) ∧ ((over = 2 ∨ over = 5) ∨ place = 1)) ∨ (op = 5 ∧ (over = 2 ∨ (over = 5 ∧ place = 1)))
instance (op over place : Int) : Decidable (heldB op over place) := by unfold heldB; infer_instance

theorem r08_held (t : TT) (over place : Int) (ht : Pure Tryd.prog 19 [.agg t.cells] (.str t.tx)) (hl : t.tx.length < 2 ^ 60) : Pure Tryd.prog 38 [.agg t.cells, .int .i64 over, .int .i64 place] (.str (if heldB t.op over place then [91] ++ t.tx ++ [93] else t.tx)) := by
  rw [TT.cells_eq] at *
  rcases t with ⟨op, num, name, k, args⟩
  generalize TT.tx ⟨op, num, name, k, args⟩ = x at *
  simp only [TT.op, TT.num, TT.name, TT.k, TT.args] at *
  refine Pure.of_sw 57 Tryd.func38 rfl Tryd.ntmps38 (by kernel_rfl) (Nat.le_of_ble_eq_true (by kernel_rfl)) (by simp only [closeds]; exact ⟨tC_closed op num name k args, trivial, trivial, trivial⟩) (by simp only [AV.closed]) ?_
  refine SW.of_vc ?_
  repeat first | refine opsStep ?_ | refine codeStep ?_ | refine drawStep ?_
  refine callP ht ?_
  repeat first | refine opsStep ?_ | refine codeStep ?_ | refine drawStep ?_
  repeat' first | refine opsStep ?_ | refine codeStep ?_ | refine decB_split (fun h => ?_) (fun h => ?_)
  all_goals simp only [decide_eq_true_eq, decide_eq_false_iff_not] at *
  all_goals first
    | (exfalso; omega)
    | (refine guardE_of (by show 1 + x.length ≤ 9223372036854775807; omega) ?_
       repeat first | refine opsStep ?_ | refine codeStep ?_ | refine drawStep ?_
       refine guardE_of (by show ([91] ++ x).length + 1 ≤ 9223372036854775807; simp only [List.length_append, List.length_singleton]; omega) ?_
       repeat first | refine opsStep ?_ | refine codeStep ?_ | refine drawStep ?_
       exact finV (v := .str (if heldB op over place then [91] ++ x ++ [93] else x)) (v' := .str (([91] ++ x) ++ [93])) (by kernel_rfl) (congrArg AV.str (if_pos (by unfold heldB; omega)).symm))
    | exact finV (v := .str (if heldB op over place then [91] ++ x ++ [93] else x)) (v' := .str x) (by kernel_rfl) (congrArg AV.str (if_neg (by unfold heldB; omega)).symm)

end Tab

/- The reference's texts of terms. -/
namespace Tab
open Go Go.Proofs
set_option maxRecDepth 10000
set_option linter.unusedVariables false
set_option linter.unusedSimpArgs false
set_option linter.unusedSectionVars false
set_option maxHeartbeats 1000000

theorem held_eq {op over place least : Int} (x : Str) (h : heldB op over place ↔ bindsV op < least) : (if heldB op over place then [91] ++ x ++ [93] else x) = partS (x, op) least := by
  rw [partS]
  by_cases h1 : heldB op over place
  · rw [if_pos h1, if_pos (h.1 h1)]
  · rw [if_neg h1, if_neg (fun h2 => h1 (h.2 h2))]
theorem held_neg (op : Int) : heldB op 2 0 ↔ bindsV op < 2 := by unfold heldB bindsV; split <;> (try split) <;> omega
theorem held_add0 (op : Int) : heldB op 3 0 ↔ bindsV op < 0 := by unfold heldB bindsV; split <;> (try split) <;> omega
theorem held_add1 (op : Int) : heldB op 3 1 ↔ bindsV op < 1 := by unfold heldB bindsV; split <;> (try split) <;> omega
theorem held_sub0 (op : Int) : heldB op 4 0 ↔ bindsV op < 0 := by unfold heldB bindsV; split <;> (try split) <;> omega
theorem held_sub1 (op : Int) : heldB op 4 1 ↔ bindsV op < 1 := by unfold heldB bindsV; split <;> (try split) <;> omega
theorem held_mul0 (op : Int) : heldB op 5 0 ↔ bindsV op < 1 := by unfold heldB bindsV; split <;> (try split) <;> omega
theorem held_mul1 (op : Int) : heldB op 5 1 ↔ bindsV op < 2 := by unfold heldB bindsV; split <;> (try split) <;> omega

theorem r08Term : ∀ (n : Nat) (t : TT), t.nodes ≤ n → n ≤ 500 → t.right → t.ok → Pure Tryd.prog 19 [.agg t.cells] (.str t.tx) := by
  intro n
  induction n with
  | zero => intro t h; have := tt_pos t; omega
  | succ n ih =>
    intro t hn h500 hr hok
    rw [TT.cells_eq]
    rcases t with ⟨op, num, name, k, args⟩
    rw [TT.right] at hr
    rw [TT.nodes] at hn
    rw [TT.ok] at hok
    have hnum := hok.2.1
    have hao := hok.2.2.2.2
    have har := hr.2
    simp only [TT.op, TT.num, TT.name, TT.k, TT.args]
    rcases goodT_cases hr.1 with ⟨rfl, h0, rfl⟩ | ⟨rfl, rfl⟩ | ⟨rfl, a, rfl⟩ | ⟨hop, a, b, rfl⟩
    · have htx : TT.tx ⟨0, num, name, k, []⟩ = dgL num.toNat := by rw [TT.tx, joinT, if_pos rfl]
      rw [htx]
      have hc := r08_Number num.toNat (by have := hnum.2; omega)
      rw [Int.toNat_of_nonneg h0] at hc
      refine Pure.of_sw 45 Tryd.func19 rfl Tryd.ntmps19 (by kernel_rfl) (Nat.le_of_ble_eq_true (by kernel_rfl)) (by simp only [closeds]; exact ⟨tC_closed 0 num name k [], trivial⟩) (by simp only [AV.closed]) ?_
      refine SW.of_vc ?_
      repeat first | refine opsStep ?_ | refine codeStep ?_ | refine drawStep ?_
      refine callP hc ?_
      repeat first | refine opsStep ?_ | refine codeStep ?_ | refine drawStep ?_
      exact finV (v' := .str (dgL num.toNat)) (by kernel_rfl) rfl
    · have htx : TT.tx ⟨1, num, name, k, []⟩ = name := by rw [TT.tx, joinT, if_neg (by decide), if_pos rfl]
      rw [htx]
      refine Pure.of_sw 45 Tryd.func19 rfl Tryd.ntmps19 (by kernel_rfl) (Nat.le_of_ble_eq_true (by kernel_rfl)) (by simp only [closeds]; exact ⟨tC_closed 1 num name k [], trivial⟩) (by simp only [AV.closed]) ?_
      refine SW.of_vc ?_
      repeat first | refine opsStep ?_ | refine codeStep ?_ | refine drawStep ?_
      exact finV (v' := .str name) (by kernel_rfl) rfl
    · rw [ttsNodes, ttsNodes] at hn
      rw [ttsOk] at hao
      rw [ttsRight] at har
      have ha := ih a (by omega) (by omega) har.1 hao.1
      have la := TT.tx_small hao.1 (by omega : a.nodes ≤ 500)
      have htx : TT.tx ⟨2, num, name, k, [a]⟩ = [45] ++ partS (a.tx, a.op) 2 := by
        rw [TT.tx, joinT, if_neg (by decide), if_neg (by decide), if_pos rfl]
        rfl
      rw [htx]
      have pa := r08_held a 2 0 ha la
      rw [held_eq a.tx (held_neg a.op)] at pa
      have sa := part_len (a.tx, a.op) 2
      simp only at sa
      rw [← cell_a a []] at pa
      have hf0 : 4 ≤ ((ttsC [a]).drop ((0 : Int).toNat * 4)).length := by rw [List.length_drop, ttsC_len]; simp
      refine Pure.of_sw 45 Tryd.func19 rfl Tryd.ntmps19 (by kernel_rfl) (Nat.le_of_ble_eq_true (by kernel_rfl)) (by simp only [closeds]; exact ⟨tC_closed 2 num name k [a], trivial⟩) (by simp only [AV.closed]) ?_
      refine SW.of_vc ?_
      repeat first | refine opsStep ?_ | refine codeStep ?_ | refine drawStep ?_
      refine guardE_of hf0 ?_
      repeat first | refine opsStep ?_ | refine codeStep ?_ | refine drawStep ?_
      refine callP pa ?_
      repeat first | refine opsStep ?_ | refine codeStep ?_ | refine drawStep ?_
      refine guardE_of (by show 1 + (partS (a.tx, a.op) 2).length ≤ 9223372036854775807; omega) ?_
      repeat first | refine opsStep ?_ | refine codeStep ?_ | refine drawStep ?_
      exact finV (v' := .str ([45] ++ partS (a.tx, a.op) 2)) (by kernel_rfl) rfl
    · rw [ttsNodes, ttsNodes, ttsNodes] at hn
      rw [ttsOk, ttsOk] at hao
      rw [ttsRight, ttsRight] at har
      have ha := ih a (by omega) (by omega) har.1 hao.1
      have hb := ih b (by omega) (by omega) har.2.1 hao.2.1
      have la := TT.tx_small hao.1 (by omega : a.nodes ≤ 500)
      have lb := TT.tx_small hao.2.1 (by omega : b.nodes ≤ 500)
      have hf0 : 4 ≤ ((ttsC [a, b]).drop ((0 : Int).toNat * 4)).length := by rw [List.length_drop, ttsC_len]; simp
      have hf1 : 4 ≤ ((ttsC [a, b]).drop ((1 : Int).toNat * 4)).length := by rw [List.length_drop, ttsC_len]; simp
      rcases hop with hop | hop | hop
      · subst hop
        have htx : TT.tx ⟨3, num, name, k, [a, b]⟩ = (partS (a.tx, a.op) 0 ++ [32, 43, 32]) ++ partS (b.tx, b.op) 1 := by
          rw [TT.tx, joinT]
          simp only [show ¬ ((3 : Int) = 0) by decide, show ¬ ((3 : Int) = 1) by decide, show ¬ ((3 : Int) = 2) by decide, if_false]
          rfl
        rw [htx]
        have pa := r08_held a 3 0 ha la
        have pb := r08_held b 3 1 hb lb
        rw [held_eq a.tx (held_add0 a.op)] at pa
        rw [held_eq b.tx (held_add1 b.op)] at pb
        have sa := part_len (a.tx, a.op) 0
        have sb := part_len (b.tx, b.op) 1
        simp only at sa sb
        rw [← cell_a a [b]] at pa
        rw [← cell_b a b []] at pb
        refine Pure.of_sw 45 Tryd.func19 rfl Tryd.ntmps19 (by kernel_rfl) (Nat.le_of_ble_eq_true (by kernel_rfl)) (by simp only [closeds]; exact ⟨tC_closed 3 num name k [a, b], trivial⟩) (by simp only [AV.closed]) ?_
        refine SW.of_vc ?_
        repeat first | refine opsStep ?_ | refine codeStep ?_ | refine drawStep ?_
        refine optX_of (c := [.str [], .str [], .str [], .str [32, 43, 32], .str [32, 45, 32], .str [32, 42, 32]]) (by kernel_rfl) ?_
        repeat first | refine opsStep ?_ | refine codeStep ?_ | refine drawStep ?_
        refine SW.drawn rfl (by kernel_rfl) ?_
        repeat first | refine opsStep ?_ | refine codeStep ?_ | refine drawStep ?_
        refine guardE_of hf0 ?_
        repeat first | refine opsStep ?_ | refine codeStep ?_ | refine drawStep ?_
        refine .inl ⟨_, _, [], pa, RdsN_refl _, .inr rfl, none_need, ?_⟩
        repeat first | refine opsStep ?_ | refine codeStep ?_ | refine drawStep ?_
        refine guardE_of (by show (partS (a.tx, a.op) 0).length + 3 ≤ 9223372036854775807; omega) ?_
        repeat first | refine opsStep ?_ | refine codeStep ?_ | refine drawStep ?_
        refine guardE_of hf1 ?_
        repeat first | refine opsStep ?_ | refine codeStep ?_ | refine drawStep ?_
        refine .inl ⟨_, _, [], pb, RdsN_refl _, .inr rfl, none_need, ?_⟩
        repeat first | refine opsStep ?_ | refine codeStep ?_ | refine drawStep ?_
        refine guardE_of (by show (partS (a.tx, a.op) 0 ++ [32, 43, 32]).length + (partS (b.tx, b.op) 1).length ≤ 9223372036854775807; simp only [List.length_append, List.length_cons, List.length_nil]; omega) ?_
        repeat first | refine opsStep ?_ | refine codeStep ?_ | refine drawStep ?_
        refine ⟨by kernel_rfl, ?_⟩
        repeat first | refine opsStep ?_ | refine codeStep ?_ | refine drawStep ?_
        exact finV (v' := .str ((partS (a.tx, a.op) 0 ++ [32, 43, 32]) ++ partS (b.tx, b.op) 1)) (by kernel_rfl) rfl
      · subst hop
        have htx : TT.tx ⟨4, num, name, k, [a, b]⟩ = (partS (a.tx, a.op) 0 ++ [32, 45, 32]) ++ partS (b.tx, b.op) 1 := by
          rw [TT.tx, joinT]
          simp only [show ¬ ((4 : Int) = 0) by decide, show ¬ ((4 : Int) = 1) by decide, show ¬ ((4 : Int) = 2) by decide, if_false]
          rfl
        rw [htx]
        have pa := r08_held a 4 0 ha la
        have pb := r08_held b 4 1 hb lb
        rw [held_eq a.tx (held_sub0 a.op)] at pa
        rw [held_eq b.tx (held_sub1 b.op)] at pb
        have sa := part_len (a.tx, a.op) 0
        have sb := part_len (b.tx, b.op) 1
        simp only at sa sb
        rw [← cell_a a [b]] at pa
        rw [← cell_b a b []] at pb
        refine Pure.of_sw 45 Tryd.func19 rfl Tryd.ntmps19 (by kernel_rfl) (Nat.le_of_ble_eq_true (by kernel_rfl)) (by simp only [closeds]; exact ⟨tC_closed 4 num name k [a, b], trivial⟩) (by simp only [AV.closed]) ?_
        refine SW.of_vc ?_
        repeat first | refine opsStep ?_ | refine codeStep ?_ | refine drawStep ?_
        refine optX_of (c := [.str [], .str [], .str [], .str [32, 43, 32], .str [32, 45, 32], .str [32, 42, 32]]) (by kernel_rfl) ?_
        repeat first | refine opsStep ?_ | refine codeStep ?_ | refine drawStep ?_
        refine SW.drawn rfl (by kernel_rfl) ?_
        repeat first | refine opsStep ?_ | refine codeStep ?_ | refine drawStep ?_
        refine guardE_of hf0 ?_
        repeat first | refine opsStep ?_ | refine codeStep ?_ | refine drawStep ?_
        refine .inl ⟨_, _, [], pa, RdsN_refl _, .inr rfl, none_need, ?_⟩
        repeat first | refine opsStep ?_ | refine codeStep ?_ | refine drawStep ?_
        refine guardE_of (by show (partS (a.tx, a.op) 0).length + 3 ≤ 9223372036854775807; omega) ?_
        repeat first | refine opsStep ?_ | refine codeStep ?_ | refine drawStep ?_
        refine guardE_of hf1 ?_
        repeat first | refine opsStep ?_ | refine codeStep ?_ | refine drawStep ?_
        refine .inl ⟨_, _, [], pb, RdsN_refl _, .inr rfl, none_need, ?_⟩
        repeat first | refine opsStep ?_ | refine codeStep ?_ | refine drawStep ?_
        refine guardE_of (by show (partS (a.tx, a.op) 0 ++ [32, 45, 32]).length + (partS (b.tx, b.op) 1).length ≤ 9223372036854775807; simp only [List.length_append, List.length_cons, List.length_nil]; omega) ?_
        repeat first | refine opsStep ?_ | refine codeStep ?_ | refine drawStep ?_
        refine ⟨by kernel_rfl, ?_⟩
        repeat first | refine opsStep ?_ | refine codeStep ?_ | refine drawStep ?_
        exact finV (v' := .str ((partS (a.tx, a.op) 0 ++ [32, 45, 32]) ++ partS (b.tx, b.op) 1)) (by kernel_rfl) rfl
      · subst hop
        have htx : TT.tx ⟨5, num, name, k, [a, b]⟩ = (partS (a.tx, a.op) 1 ++ [32, 42, 32]) ++ partS (b.tx, b.op) 2 := by
          rw [TT.tx, joinT]
          simp only [show ¬ ((5 : Int) = 0) by decide, show ¬ ((5 : Int) = 1) by decide, show ¬ ((5 : Int) = 2) by decide, if_false]
          rfl
        rw [htx]
        have pa := r08_held a 5 0 ha la
        have pb := r08_held b 5 1 hb lb
        rw [held_eq a.tx (held_mul0 a.op)] at pa
        rw [held_eq b.tx (held_mul1 b.op)] at pb
        have sa := part_len (a.tx, a.op) 1
        have sb := part_len (b.tx, b.op) 2
        simp only at sa sb
        rw [← cell_a a [b]] at pa
        rw [← cell_b a b []] at pb
        refine Pure.of_sw 45 Tryd.func19 rfl Tryd.ntmps19 (by kernel_rfl) (Nat.le_of_ble_eq_true (by kernel_rfl)) (by simp only [closeds]; exact ⟨tC_closed 5 num name k [a, b], trivial⟩) (by simp only [AV.closed]) ?_
        refine SW.of_vc ?_
        repeat first | refine opsStep ?_ | refine codeStep ?_ | refine drawStep ?_
        refine optX_of (c := [.str [], .str [], .str [], .str [32, 43, 32], .str [32, 45, 32], .str [32, 42, 32]]) (by kernel_rfl) ?_
        repeat first | refine opsStep ?_ | refine codeStep ?_ | refine drawStep ?_
        refine SW.drawn rfl (by kernel_rfl) ?_
        repeat first | refine opsStep ?_ | refine codeStep ?_ | refine drawStep ?_
        refine guardE_of hf0 ?_
        repeat first | refine opsStep ?_ | refine codeStep ?_ | refine drawStep ?_
        refine .inl ⟨_, _, [], pa, RdsN_refl _, .inr rfl, none_need, ?_⟩
        repeat first | refine opsStep ?_ | refine codeStep ?_ | refine drawStep ?_
        refine guardE_of (by show (partS (a.tx, a.op) 1).length + 3 ≤ 9223372036854775807; omega) ?_
        repeat first | refine opsStep ?_ | refine codeStep ?_ | refine drawStep ?_
        refine guardE_of hf1 ?_
        repeat first | refine opsStep ?_ | refine codeStep ?_ | refine drawStep ?_
        refine .inl ⟨_, _, [], pb, RdsN_refl _, .inr rfl, none_need, ?_⟩
        repeat first | refine opsStep ?_ | refine codeStep ?_ | refine drawStep ?_
        refine guardE_of (by show (partS (a.tx, a.op) 1 ++ [32, 42, 32]).length + (partS (b.tx, b.op) 2).length ≤ 9223372036854775807; simp only [List.length_append, List.length_cons, List.length_nil]; omega) ?_
        repeat first | refine opsStep ?_ | refine codeStep ?_ | refine drawStep ?_
        refine ⟨by kernel_rfl, ?_⟩
        repeat first | refine opsStep ?_ | refine codeStep ?_ | refine drawStep ?_
        exact finV (v' := .str ((partS (a.tx, a.op) 1 ++ [32, 42, 32]) ++ partS (b.tx, b.op) 2)) (by kernel_rfl) rfl

end Tab
