/- What the operations of the code ask of the tables of types and functions. -/
import Derived.Test.YtfaokbjpinlcaaaProg
import Derived.Test.YtfaokbjpinlcaaaGA2
import Derived.Test.YtfaokbjpinlcaaaGA4
section
/- What the operations of the code ask of the tables of types and functions. -/
namespace Go.Proofs.Ytfaokbjpinlcaaa
open Go.Sep
theorem ag_108 : ag Try.prog 108 = some (true, 3) := by kernel_rfl
theorem ag_131 : ag Try.prog 131 = some (false, 1) := by kernel_rfl
theorem ag_132 : ag Try.prog 132 = some (false, 1) := by kernel_rfl
theorem ag_158 : ag Try.prog 158 = some (true, 18) := by kernel_rfl
theorem ag_159 : ag Try.prog 159 = some (true, 20) := by kernel_rfl
theorem ag_22 : ag Try.prog 22 = some (false, 1) := by kernel_rfl
theorem ag_24 : ag Try.prog 24 = some (true, 2) := by kernel_rfl
theorem ag_29 : ag Try.prog 29 = some (false, 1) := by kernel_rfl
theorem ag_3 : ag Try.prog 3 = some (false, 1) := by kernel_rfl
theorem ag_30 : ag Try.prog 30 = some (false, 1) := by kernel_rfl
theorem ag_32 : ag Try.prog 32 = some (true, 3) := by kernel_rfl
theorem ag_38 : ag Try.prog 38 = some (false, 1) := by kernel_rfl
theorem ag_39 : ag Try.prog 39 = some (false, 1) := by kernel_rfl
theorem ag_4 : ag Try.prog 4 = some (false, 1) := by kernel_rfl
theorem ag_41 : ag Try.prog 41 = some (true, 5) := by kernel_rfl
theorem ag_42 : ag Try.prog 42 = some (false, 1) := by kernel_rfl
theorem ag_44 : ag Try.prog 44 = some (true, 2) := by kernel_rfl
theorem ag_45 : ag Try.prog 45 = some (false, 1) := by kernel_rfl
theorem ag_47 : ag Try.prog 47 = some (true, 4) := by kernel_rfl
theorem ag_49 : ag Try.prog 49 = some (true, 5) := by kernel_rfl
theorem ag_5 : ag Try.prog 5 = some (false, 1) := by kernel_rfl
theorem ag_51 : ag Try.prog 51 = some (true, 6) := by kernel_rfl
theorem ag_53 : ag Try.prog 53 = some (true, 5) := by kernel_rfl
theorem ag_56 : ag Try.prog 56 = some (true, 5) := by kernel_rfl
theorem ag_61 : ag Try.prog 61 = some (false, 1) := by kernel_rfl
theorem ag_71 : ag Try.prog 71 = some (false, 1) := by kernel_rfl
theorem ag_73 : ag Try.prog 73 = some (true, 4) := by kernel_rfl
theorem ag_80 : ag Try.prog 80 = some (false, 1) := by kernel_rfl
theorem ag_82 : ag Try.prog 82 = some (true, 4) := by kernel_rfl
theorem ag_9 : ag Try.prog 9 = some (false, 1) := by kernel_rfl
theorem ag_99 : ag Try.prog 99 = some (true, 2) := by kernel_rfl
theorem bd_134 : bdT Try.prog 134 = some ([.slice none 0 0, .slice none 0 0, .map none, .map none, .slice none 0 0, .slice none 0 0], [(0, 1), (1, 1), (2, 1), (3, 1), (4, 1), (5, 1)]) := by kernel_rfl
theorem bd_24 : bdT Try.prog 24 = some ([.slice none 0 0, .int .i64 0], [(0, 1), (1, 1)]) := by kernel_rfl
theorem bd_32 : bdT Try.prog 32 = some ([.slice none 0 0, .slice none 0 0, .int .i64 0], [(0, 1), (1, 1), (2, 1)]) := by kernel_rfl
theorem bd_41 : bdT Try.prog 41 = some ([.string ⟨#[]⟩, .slice none 0 0, .int .i64 0, .int .i64 0, .slice none 0 0], [(0, 1), (1, 1), (2, 1), (3, 1), (4, 1)]) := by kernel_rfl
theorem bd_44 : bdT Try.prog 44 = some ([.int .i64 0, .int .i64 0], [(0, 1), (1, 1)]) := by kernel_rfl
theorem bd_47 : bdT Try.prog 47 = some ([.int .i64 0, .int .i64 0, .int .i64 0, .slice none 0 0], [(0, 1), (1, 2), (3, 1)]) := by kernel_rfl
theorem bd_49 : bdT Try.prog 49 = some ([.slice none 0 0, .int .i64 0, .int .i64 0, .int .i64 0, .slice none 0 0], [(0, 1), (1, 4)]) := by kernel_rfl
theorem bd_51 : bdT Try.prog 51 = some ([.int .i64 0, .int .i64 0, .int .i64 0, .int .i64 0, .slice none 0 0, .slice none 0 0], [(0, 1), (1, 1), (2, 2), (4, 1), (5, 1)]) := by kernel_rfl
theorem bd_53 : bdT Try.prog 53 = some ([.string ⟨#[]⟩, .int .i64 0, .int .i64 0, .int .i64 0, .int .i64 0], [(0, 1), (1, 1), (2, 1), (3, 1), (4, 1)]) := by kernel_rfl
theorem bd_56 : bdT Try.prog 56 = some ([.int .i64 0, .int .i64 0, .int .i64 0, .int .i64 0, .int .i64 0], [(0, 1), (1, 1), (2, 1), (3, 1), (4, 1)]) := by kernel_rfl
theorem bd_63 : bdT Try.prog 63 = some ([.string ⟨#[]⟩, .slice none 0 0, .int .i64 0, .int .i64 0, .slice none 0 0, .int .i64 0, .slice none 0 0, .slice none 0 0, .map none, .slice none 0 0], [(0, 5), (5, 1), (6, 1), (7, 1), (8, 1), (9, 1)]) := by kernel_rfl
theorem bd_73 : bdT Try.prog 73 = some ([.int .i64 0, .int .i64 0, .int .i64 0, .string ⟨#[]⟩], [(0, 1), (1, 1), (2, 1), (3, 1)]) := by kernel_rfl
theorem bd_82 : bdT Try.prog 82 = some ([.int .i64 0, .int .i64 0, .int .i64 0, .int .i64 0], [(0, 2), (2, 2)]) := by kernel_rfl
theorem bd_91 : bdT Try.prog 91 = some ([.slice none 0 0, .int .i64 0], [(0, 1), (1, 1)]) := by kernel_rfl
theorem bd_99 : bdT Try.prog 99 = some ([.int .i64 0, .bool false], [(0, 1), (1, 1)]) := by kernel_rfl
theorem fo_134_0 : fldOff Try.prog 134 0 = some 0 := by kernel_rfl
theorem fo_134_1 : fldOff Try.prog 134 1 = some 1 := by kernel_rfl
theorem fo_134_2 : fldOff Try.prog 134 2 = some 2 := by kernel_rfl
theorem fo_134_3 : fldOff Try.prog 134 3 = some 3 := by kernel_rfl
theorem fo_134_4 : fldOff Try.prog 134 4 = some 4 := by kernel_rfl
theorem fo_134_5 : fldOff Try.prog 134 5 = some 5 := by kernel_rfl
theorem fo_24_0 : fldOff Try.prog 24 0 = some 0 := by kernel_rfl
theorem fo_24_1 : fldOff Try.prog 24 1 = some 1 := by kernel_rfl
theorem fo_32_0 : fldOff Try.prog 32 0 = some 0 := by kernel_rfl
theorem fo_32_1 : fldOff Try.prog 32 1 = some 1 := by kernel_rfl
theorem fo_32_2 : fldOff Try.prog 32 2 = some 2 := by kernel_rfl
theorem fo_41_0 : fldOff Try.prog 41 0 = some 0 := by kernel_rfl
theorem fo_41_1 : fldOff Try.prog 41 1 = some 1 := by kernel_rfl
theorem fo_41_2 : fldOff Try.prog 41 2 = some 2 := by kernel_rfl
theorem fo_41_3 : fldOff Try.prog 41 3 = some 3 := by kernel_rfl
theorem fo_41_4 : fldOff Try.prog 41 4 = some 4 := by kernel_rfl
theorem fo_44_0 : fldOff Try.prog 44 0 = some 0 := by kernel_rfl
theorem fo_44_1 : fldOff Try.prog 44 1 = some 1 := by kernel_rfl
theorem fo_47_0 : fldOff Try.prog 47 0 = some 0 := by kernel_rfl
theorem fo_47_1 : fldOff Try.prog 47 1 = some 1 := by kernel_rfl
theorem fo_47_2 : fldOff Try.prog 47 2 = some 3 := by kernel_rfl
theorem fo_49_0 : fldOff Try.prog 49 0 = some 0 := by kernel_rfl
theorem fo_49_1 : fldOff Try.prog 49 1 = some 1 := by kernel_rfl
theorem fo_51_0 : fldOff Try.prog 51 0 = some 0 := by kernel_rfl
theorem fo_51_1 : fldOff Try.prog 51 1 = some 1 := by kernel_rfl
theorem fo_51_2 : fldOff Try.prog 51 2 = some 2 := by kernel_rfl
theorem fo_51_3 : fldOff Try.prog 51 3 = some 4 := by kernel_rfl
theorem fo_51_4 : fldOff Try.prog 51 4 = some 5 := by kernel_rfl
theorem fo_53_0 : fldOff Try.prog 53 0 = some 0 := by kernel_rfl
theorem fo_53_1 : fldOff Try.prog 53 1 = some 1 := by kernel_rfl
theorem fo_53_2 : fldOff Try.prog 53 2 = some 2 := by kernel_rfl
theorem fo_53_3 : fldOff Try.prog 53 3 = some 3 := by kernel_rfl
theorem fo_53_4 : fldOff Try.prog 53 4 = some 4 := by kernel_rfl
theorem fo_56_0 : fldOff Try.prog 56 0 = some 0 := by kernel_rfl
theorem fo_56_1 : fldOff Try.prog 56 1 = some 1 := by kernel_rfl
theorem fo_56_2 : fldOff Try.prog 56 2 = some 2 := by kernel_rfl
theorem fo_56_3 : fldOff Try.prog 56 3 = some 3 := by kernel_rfl
theorem fo_56_4 : fldOff Try.prog 56 4 = some 4 := by kernel_rfl
theorem fo_63_0 : fldOff Try.prog 63 0 = some 0 := by kernel_rfl
theorem fo_63_1 : fldOff Try.prog 63 1 = some 5 := by kernel_rfl
theorem fo_63_2 : fldOff Try.prog 63 2 = some 6 := by kernel_rfl
theorem fo_63_3 : fldOff Try.prog 63 3 = some 7 := by kernel_rfl
theorem fo_63_4 : fldOff Try.prog 63 4 = some 8 := by kernel_rfl
theorem fo_63_5 : fldOff Try.prog 63 5 = some 9 := by kernel_rfl
theorem fo_73_0 : fldOff Try.prog 73 0 = some 0 := by kernel_rfl
theorem fo_73_3 : fldOff Try.prog 73 3 = some 3 := by kernel_rfl
theorem fo_82_0 : fldOff Try.prog 82 0 = some 0 := by kernel_rfl
theorem fo_82_1 : fldOff Try.prog 82 1 = some 2 := by kernel_rfl
theorem fo_91_0 : fldOff Try.prog 91 0 = some 0 := by kernel_rfl
theorem fo_91_1 : fldOff Try.prog 91 1 = some 1 := by kernel_rfl
theorem fo_99_0 : fldOff Try.prog 99 0 = some 0 := by kernel_rfl
theorem fo_99_1 : fldOff Try.prog 99 1 = some 1 := by kernel_rfl
theorem is_44 : intS Try.prog 44 = true := by kernel_rfl
theorem nf_44 : nfields Try.prog 44 = 2 := by kernel_rfl
theorem mt_131 : Try.prog.underlying 131 = some (.map 44 3) := by kernel_rfl
theorem mt_57 : Try.prog.underlying 57 = some (.map 9 3) := by kernel_rfl
theorem ui_3 : Try.prog.underlying 3 = some (.int .i64) := by kernel_rfl
theorem mt_61 : Try.prog.underlying 61 = some (.map 3 3) := by kernel_rfl
theorem ok_11 : calleeOk Try.prog 11 = true := by kernel_rfl
theorem ok_12 : calleeOk Try.prog 12 = true := by kernel_rfl
theorem ok_13 : calleeOk Try.prog 13 = true := by kernel_rfl
theorem ok_14 : calleeOk Try.prog 14 = true := by kernel_rfl
theorem ok_15 : calleeOk Try.prog 15 = true := by kernel_rfl
theorem ok_17 : calleeOk Try.prog 17 = true := by kernel_rfl
theorem ok_18 : calleeOk Try.prog 18 = true := by kernel_rfl
theorem ok_19 : calleeOk Try.prog 19 = true := by kernel_rfl
theorem ok_20 : calleeOk Try.prog 20 = true := by kernel_rfl
theorem ok_21 : calleeOk Try.prog 21 = true := by kernel_rfl
theorem ok_22 : calleeOk Try.prog 22 = true := by kernel_rfl
theorem ok_23 : calleeOk Try.prog 23 = true := by kernel_rfl
theorem ok_24 : calleeOk Try.prog 24 = true := by kernel_rfl
theorem ok_25 : calleeOk Try.prog 25 = true := by kernel_rfl
theorem ok_26 : calleeOk Try.prog 26 = true := by kernel_rfl
theorem ok_27 : calleeOk Try.prog 27 = true := by kernel_rfl
theorem ok_28 : calleeOk Try.prog 28 = true := by kernel_rfl
theorem ok_29 : calleeOk Try.prog 29 = true := by kernel_rfl
theorem ok_30 : calleeOk Try.prog 30 = true := by kernel_rfl
theorem ok_31 : calleeOk Try.prog 31 = true := by kernel_rfl
theorem ok_32 : calleeOk Try.prog 32 = true := by kernel_rfl
theorem ok_33 : calleeOk Try.prog 33 = true := by kernel_rfl
theorem ok_34 : calleeOk Try.prog 34 = true := by kernel_rfl
theorem ok_36 : calleeOk Try.prog 36 = true := by kernel_rfl
theorem ok_37 : calleeOk Try.prog 37 = true := by kernel_rfl
theorem ok_4 : calleeOk Try.prog 4 = true := by kernel_rfl
theorem ok_40 : calleeOk Try.prog 40 = true := by kernel_rfl
theorem ok_41 : calleeOk Try.prog 41 = true := by kernel_rfl
theorem ok_42 : calleeOk Try.prog 42 = true := by kernel_rfl
theorem ok_43 : calleeOk Try.prog 43 = true := by kernel_rfl
theorem ok_44 : calleeOk Try.prog 44 = true := by kernel_rfl
theorem ok_45 : calleeOk Try.prog 45 = true := by kernel_rfl
theorem ok_46 : calleeOk Try.prog 46 = true := by kernel_rfl
theorem ok_47 : calleeOk Try.prog 47 = true := by kernel_rfl
theorem ok_48 : calleeOk Try.prog 48 = true := by kernel_rfl
theorem ok_49 : calleeOk Try.prog 49 = true := by kernel_rfl
theorem ok_5 : calleeOk Try.prog 5 = true := by kernel_rfl
theorem ok_50 : calleeOk Try.prog 50 = true := by kernel_rfl
theorem ok_51 : calleeOk Try.prog 51 = true := by kernel_rfl
theorem ok_52 : calleeOk Try.prog 52 = true := by kernel_rfl
theorem ok_53 : calleeOk Try.prog 53 = true := by kernel_rfl
theorem ok_54 : calleeOk Try.prog 54 = true := by kernel_rfl
theorem ok_6 : calleeOk Try.prog 6 = true := by kernel_rfl
theorem ok_66 : calleeOk Try.prog 66 = true := by kernel_rfl
theorem ok_67 : calleeOk Try.prog 67 = true := by kernel_rfl
theorem ok_68 : calleeOk Try.prog 68 = true := by kernel_rfl
theorem ok_69 : calleeOk Try.prog 69 = true := by kernel_rfl
theorem ok_7 : calleeOk Try.prog 7 = true := by kernel_rfl
theorem ok_70 : calleeOk Try.prog 70 = true := by kernel_rfl
theorem ok_71 : calleeOk Try.prog 71 = true := by kernel_rfl
theorem ok_72 : calleeOk Try.prog 72 = true := by kernel_rfl
theorem ok_73 : calleeOk Try.prog 73 = true := by kernel_rfl
theorem ok_74 : calleeOk Try.prog 74 = true := by kernel_rfl
theorem ok_75 : calleeOk Try.prog 75 = true := by kernel_rfl
theorem ok_8 : calleeOk Try.prog 8 = true := by kernel_rfl
theorem ok_82 : calleeOk Try.prog 82 = true := by kernel_rfl
theorem ok_83 : calleeOk Try.prog 83 = true := by kernel_rfl
theorem ok_84 : calleeOk Try.prog 84 = true := by kernel_rfl
theorem ok_85 : calleeOk Try.prog 85 = true := by kernel_rfl
theorem ok_9 : calleeOk Try.prog 9 = true := by kernel_rfl
theorem ar_108 : arT Try.prog 108 = some (3, 1) := by kernel_rfl
theorem sl_132 : slT Try.prog 132 = some (3, 1, 8) := by kernel_rfl
theorem sl_22 : slT Try.prog 22 = some (41, 5, 80) := by kernel_rfl
theorem sl_29 : slT Try.prog 29 = some (56, 5, 40) := by kernel_rfl
theorem sl_30 : slT Try.prog 30 = some (53, 5, 48) := by kernel_rfl
theorem ar_37 : arT Try.prog 37 = some (8, 1) := by kernel_rfl
theorem sl_38 : slT Try.prog 38 = some (44, 2, 16) := by kernel_rfl
theorem sl_39 : slT Try.prog 39 = some (49, 5, 72) := by kernel_rfl
theorem sl_42 : slT Try.prog 42 = some (51, 6, 80) := by kernel_rfl
theorem sl_45 : slT Try.prog 45 = some (3, 1, 8) := by kernel_rfl
theorem sl_68 : slT Try.prog 68 = some (73, 4, 40) := by kernel_rfl
theorem sl_71 : slT Try.prog 71 = some (5, 1, 1) := by kernel_rfl
theorem sl_80 : slT Try.prog 80 = some (82, 4, 32) := by kernel_rfl
theorem zr_108 : zr Try.prog 108 = some (.agg #[.int .i64 0, .int .i64 0, .int .i64 0]) := by kernel_rfl
theorem zr_158 : zr Try.prog 158 = some (.agg #[.string ⟨#[]⟩, .string ⟨#[]⟩, .string ⟨#[]⟩, .string ⟨#[]⟩, .string ⟨#[]⟩, .string ⟨#[]⟩, .string ⟨#[]⟩, .string ⟨#[]⟩, .string ⟨#[]⟩, .string ⟨#[]⟩, .string ⟨#[]⟩, .string ⟨#[]⟩, .string ⟨#[]⟩, .string ⟨#[]⟩, .string ⟨#[]⟩, .string ⟨#[]⟩, .string ⟨#[]⟩, .string ⟨#[]⟩]) := by kernel_rfl
theorem zr_159 : zr Try.prog 159 = some (.agg #[.int .i64 0, .int .i64 0, .int .i64 0, .int .i64 0, .int .i64 0, .int .i64 0, .int .i64 0, .int .i64 0, .int .i64 0, .int .i64 0, .int .i64 0, .int .i64 0, .int .i64 0, .int .i64 0, .int .i64 0, .int .i64 0, .int .i64 0, .int .i64 0, .int .i64 0, .int .i64 0]) := by kernel_rfl
theorem zr_24 : zr Try.prog 24 = some (.agg #[.slice none 0 0, .int .i64 0]) := by kernel_rfl
theorem zr_3 : zr Try.prog 3 = some (.int .i64 0) := by kernel_rfl
theorem zr_32 : zr Try.prog 32 = some (.agg #[.slice none 0 0, .slice none 0 0, .int .i64 0]) := by kernel_rfl
theorem zr_37 : zr Try.prog 37 = some (.agg #[.bool false, .bool false, .bool false, .bool false, .bool false, .bool false, .bool false, .bool false]) := by kernel_rfl
theorem zr_41 : zr Try.prog 41 = some (.agg #[.string ⟨#[]⟩, .slice none 0 0, .int .i64 0, .int .i64 0, .slice none 0 0]) := by kernel_rfl
theorem zr_44 : zr Try.prog 44 = some (.agg #[.int .i64 0, .int .i64 0]) := by kernel_rfl
theorem zr_49 : zr Try.prog 49 = some (.agg #[.slice none 0 0, .int .i64 0, .int .i64 0, .int .i64 0, .slice none 0 0]) := by kernel_rfl
theorem zr_51 : zr Try.prog 51 = some (.agg #[.int .i64 0, .int .i64 0, .int .i64 0, .int .i64 0, .slice none 0 0, .slice none 0 0]) := by kernel_rfl
theorem zr_53 : zr Try.prog 53 = some (.agg #[.string ⟨#[]⟩, .int .i64 0, .int .i64 0, .int .i64 0, .int .i64 0]) := by kernel_rfl
theorem zr_56 : zr Try.prog 56 = some (.agg #[.int .i64 0, .int .i64 0, .int .i64 0, .int .i64 0, .int .i64 0]) := by kernel_rfl
theorem zr_73 : zr Try.prog 73 = some (.agg #[.int .i64 0, .int .i64 0, .int .i64 0, .string ⟨#[]⟩]) := by kernel_rfl
theorem zr_82 : zr Try.prog 82 = some (.agg #[.int .i64 0, .int .i64 0, .int .i64 0, .int .i64 0]) := by kernel_rfl
theorem zr_99 : zr Try.prog 99 = some (.agg #[.int .i64 0, .bool false]) := by kernel_rfl
theorem mixed : Try.prog.follows .mixedOrders = true := by kernel_rfl
end Go.Proofs.Ytfaokbjpinlcaaa
end
section
/- Moves at once, in sequence: what both sides' Order tells, as a relation that has one answer; plain. -/
namespace Go.Proofs.Ytfaokbjpinlcaaa
set_option linter.unusedVariables false
structure Lc where
  kind : Int
  n : Int
deriving DecidableEq
structure Mv where
  to : Lc
  from_ : Lc
deriving DecidableEq
def readsOf (l : List Mv) (p : Lc) : Nat := l.countP fun m => decide (m.from_ = p)
/-- what is told of what is left -/
inductive Ord (temp : Lc) : List Mv → List Mv → Prop
  | nil : Ord temp [] []
  | put {a b o : List Mv} {m : Mv} (h1 : ∀ x ∈ a, 0 < readsOf (a ++ m :: b) x.to) (h2 : readsOf (a ++ m :: b) m.to = 0) (h : Ord temp (a ++ b) o) : Ord temp (a ++ m :: b) (m :: o)
  | brk {b o : List Mv} {m : Mv} (h1 : ∀ x ∈ m :: b, 0 < readsOf (m :: b) x.to) (h : Ord temp (⟨m.to, temp⟩ :: b) o) : Ord temp (m :: b) (⟨temp, m.from_⟩ :: o)
theorem split_uniq {p : Mv → Bool} : ∀ {a b a' b' : List Mv} {m m' : Mv}, a ++ m :: b = a' ++ m' :: b' → (∀ x ∈ a, p x = false) → (∀ x ∈ a', p x = false) → p m = true → p m' = true → a = a' ∧ m = m' ∧ b = b'
  | [], b, [], b', m, m', e, _, _, _, _ => by simpa using e
  | [], b, x :: a', b', m, m', e, _, h2, h3, _ => by
    simp at e
    have := h2 x (List.mem_cons_self ..)
    rw [← e.1, h3] at this; cases this
  | x :: a, b, [], b', m, m', e, h1, _, _, h4 => by
    simp at e
    have := h1 x (List.mem_cons_self ..)
    rw [e.1, h4] at this; cases this
  | x :: a, b, y :: a', b', m, m', e, h1, h2, h3, h4 => by
    simp at e
    obtain ⟨r1, r2, r3⟩ := split_uniq e.2 (fun z hz => h1 z (List.mem_cons_of_mem _ hz)) (fun z hz => h2 z (List.mem_cons_of_mem _ hz)) h3 h4
    exact ⟨by rw [e.1, r1], r2, r3⟩
theorem Ord.uniq {temp : Lc} {l o : List Mv} (h : Ord temp l o) : ∀ {o' : List Mv}, Ord temp l o' → o = o' := by
  induction h with
  | nil => intro o' h'; generalize hl : ([] : List Mv) = l at h'; cases h' with
    | nil => rfl
    | put => simp at hl
    | brk => cases hl
  | @put a b o m h1 h2 h ih =>
    intro o' h'
    generalize hl : a ++ m :: b = l at h'
    cases h' with
    | nil => simp at hl
    | @put a' b' o' m' h1' h2' h' =>
      have := split_uniq (p := fun x => decide (readsOf (a ++ m :: b) x.to = 0)) hl (fun x hx => by have := h1 x hx; simp; omega) (fun x hx => by have := h1' x hx; rw [hl]; simp; omega) (by simp [h2]) (by rw [hl]; simp [h2'])
      obtain ⟨rfl, rfl, rfl⟩ := this
      rw [ih h']
    | @brk b' o' m' h1' h' =>
      exfalso
      have := h1' m (by rw [← hl]; simp)
      rw [← hl] at this; omega
  | @brk b o m h1 h ih =>
    intro o' h'
    generalize hl : m :: b = l at h'
    cases h' with
    | nil => cases hl
    | @put a' b' o' m' h1' h2' h' =>
      exfalso
      have := h1 m' (by rw [hl]; simp)
      rw [hl] at this; omega
    | @brk b' o' m' h1' h' =>
      obtain ⟨rfl, rfl⟩ := List.cons.inj hl
      rw [ih h']
/-! ### When all are read, nobody reads the place apart -/
theorem all_in {A : Type} [DecidableEq A] : ∀ {xs ys : List A}, xs.Nodup → (∀ x ∈ xs, x ∈ ys) → ys.length ≤ xs.length → ∀ y ∈ ys, y ∈ xs
  | [], ys, _, _, hl, y, hy => by
    have : ys = [] := List.length_eq_zero_iff.1 (by simpa using hl)
    subst this; cases hy
  | x :: xs, ys, hn, hs, hl, y, hy => by
    have hx := hs x (List.mem_cons_self ..)
    rw [List.nodup_cons] at hn
    by_cases e : y = x
    · subst e; exact List.mem_cons_self ..
    · refine List.mem_cons_of_mem _ (all_in (ys := ys.erase x) hn.2 (fun z hz => ?_) ?_ y ?_)
      · exact (List.mem_erase_of_ne (fun e : z = x => hn.1 (by rw [← e]; exact hz))).2 (hs z (List.mem_cons_of_mem _ hz))
      · rw [List.length_erase_of_mem hx]; simp at hl; omega
      · exact (List.mem_erase_of_ne e).2 hy
theorem stuck_from {temp : Lc} {l : List Mv} (hn : (l.map Mv.to).Nodup) (ht : ∀ m ∈ l, m.to ≠ temp) (h : ∀ x ∈ l, 0 < readsOf l x.to) : ∀ m ∈ l, m.from_ ≠ temp := by
  intro m hm e
  have : m.from_ ∈ l.map Mv.to := all_in (xs := l.map Mv.to) (ys := l.map Mv.from_) hn (fun x hx => by
    obtain ⟨y, hy, rfl⟩ := List.mem_map.1 hx
    have := h y hy
    unfold readsOf at this
    obtain ⟨z, hz, e⟩ := List.countP_pos_iff.1 this
    exact List.mem_map.2 ⟨z, hz, by simpa using e⟩) (by simp) m.from_ (List.mem_map.2 ⟨m, hm, rfl⟩)
  obtain ⟨y, hy, e2⟩ := List.mem_map.1 this
  exact ht y hy (e2.trans e)
/-! ### The invariant of both loops -/
def OrdInv (temp : Lc) (l0 out cur : List Mv) : Prop := ∀ o, Ord temp cur o → Ord temp l0 (out ++ o)
theorem OrdInv.start {temp : Lc} {l0 : List Mv} : OrdInv temp l0 [] l0 := fun o h => h
theorem OrdInv.put {temp : Lc} {l0 out a b : List Mv} {m : Mv} (h : OrdInv temp l0 out (a ++ m :: b)) (h1 : ∀ x ∈ a, 0 < readsOf (a ++ m :: b) x.to) (h2 : readsOf (a ++ m :: b) m.to = 0) : OrdInv temp l0 (out ++ [m]) (a ++ b) := fun o ho => by
  have := h _ (Ord.put h1 h2 ho)
  simpa using this
theorem OrdInv.brk {temp : Lc} {l0 out b : List Mv} {m : Mv} (h : OrdInv temp l0 out (m :: b)) (h1 : ∀ x ∈ m :: b, 0 < readsOf (m :: b) x.to) : OrdInv temp l0 (out ++ [⟨temp, m.from_⟩]) (⟨m.to, temp⟩ :: b) := fun o ho => by
  have := h _ (Ord.brk h1 ho)
  simpa using this
theorem OrdInv.done {temp : Lc} {l0 out : List Mv} (h : OrdInv temp l0 out []) : Ord temp l0 out := by
  have := h [] Ord.nil
  simpa using this
end Go.Proofs.Ytfaokbjpinlcaaa
end
section
/- ALIR, the check of it, and the code that is made of it; plain. (Cells, by api.go: AIns op imm dst.kind dst.n args saves; ABlock body kind value.kind value.n to; AFunc name params result slots blocks.) -/
namespace Go.Proofs.Ytfaokbjpinlcaaa
set_option linter.unusedVariables false
structure AI where
  op : Int
  imm : Int
  dst : Lc
  args : List Lc
  saves : List Int
structure AT where
  kind : Int
  value : Lc
  to : List Int
structure AB where
  body : List AI
  term : AT
structure AF where
  name : ByteArray
  params : List Lc
  result : Int
  slots : Int
  blocks : List AB
structure AL where
  funcs : List AF
  main : Int
structure RI where
  op : Int
  a : Int
  b : Int
  c : Int
  n : Int
deriving DecidableEq
/-! ### The check -/
def argsN (op : Int) : Int :=
  if op = 1 ∨ op = 24 then 0
  else if (2 ≤ op ∧ op ≤ 16) ∨ op = 21 ∨ op = 30 then 2
  else if (17 ≤ op ∧ op ≤ 20) ∨ op = 23 ∨ op = 31 ∨ (26 ≤ op ∧ op ≤ 29) then 1
  else if op = 22 then 3 else -1
def setsB (op : Int) : Bool := decide ((1 ≤ op ∧ op ≤ 21) ∨ op = 23 ∨ op = 24 ∨ op = 31)
def placeB (F : AF) (l : Lc) : Bool := decide ((l.kind = 1 ∧ 0 ≤ l.n ∧ l.n < 8) ∨ (l.kind = 2 ∧ 0 ≤ l.n ∧ l.n < F.slots))
def noneB (l : Lc) : Bool := decide (l.kind = 0 ∧ l.n = 0)
def risingB : List Int → Bool
  | x :: y :: l => decide (x < y) && risingB (y :: l)
  | _ => true
def callB (A : AL) (x : AI) : Bool := decide (0 ≤ x.imm ∧ x.imm < A.funcs.length) &&
  match A.funcs[x.imm.toNat]? with
  | some G => decide (x.args.length = G.params.length) && (decide (G.result ≠ 0) || noneB x.dst) && x.saves.all (fun r => decide (0 ≤ r ∧ r < 8)) && risingB x.saves
  | none => false
def insB (A : AL) (F : AF) (x : AI) : Bool := (noneB x.dst || placeB F x.dst) && x.args.all (placeB F) &&
  if x.op = 25 then callB A x
  else decide ((x.args.length : Int) = argsN x.op) && (setsB x.op != noneB x.dst) && x.saves.isEmpty &&
    if 28 ≤ x.op ∧ x.op ≤ 30 then decide (1 ≤ x.imm ∧ x.imm ≤ 5) else decide (x.op = 1 ∨ x.imm = 0)
def termB (F : AF) (t : AT) : Bool := (noneB t.value || placeB F t.value) && t.to.all (fun b => decide (0 ≤ b ∧ b < F.blocks.length)) &&
  if t.kind = 1 then noneB t.value && decide (t.to.length = 1)
  else if t.kind = 2 then !noneB t.value && decide (t.to.length = 2)
  else if t.kind = 3 then (noneB t.value == decide (F.result = 0)) && t.to.isEmpty
  else if t.kind = 4 then !noneB t.value && t.to.isEmpty else false
def funB (A : AL) (F : AF) : Bool := decide (0 ≤ F.slots ∧ F.slots ≤ 262144 ∧ F.params.length ≤ 8 ∧ 0 ≤ F.result ∧ F.result ≤ 3 ∧ F.blocks ≠ []) &&
  F.params.all (placeB F) && decide F.params.Nodup && F.blocks.all fun b => b.body.all (insB A F) && termB F b.term
/-- ALIR, if `nm` tells which bytes may be a function's name -/
def okA (nm : ByteArray → Bool) (A : AL) : Bool := A.funcs.all (fun F => nm F.name && funB A F) && decide (A.funcs.map AF.name).Nodup &&
  decide (0 ≤ A.main ∧ A.main < A.funcs.length) && match A.funcs[A.main.toNat]? with
  | some F => F.params.isEmpty && decide (F.result = 0)
  | none => false
/-! ### The code -/
def regL (n : Int) : Lc := ⟨1, n⟩
noncomputable def ordF (temp : Lc) (l : List Mv) : List Mv := by
  classical exact if h : ∃ o, Ord temp l o then h.choose else []
theorem ordF_eq {temp : Lc} {l o : List Mv} (h : Ord temp l o) : ordF temp l = o := by
  have h' : ∃ o, Ord temp l o := ⟨o, h⟩
  unfold ordF
  rw [dif_pos h']
  exact (h'.choose_spec).uniq h
def slotW (S : List Int) (s : Int) : Int := 2 + S.length + s
def homeW (S : List Int) (r : Int) : Int := 2 + S.idxOf r
def loadC (S : List Int) (r : Int) (l : Lc) : List RI := if l.kind = 2 then [⟨24, r, 0, 0, slotW S l.n⟩] else if l.n = r then [] else [⟨2, r, l.n, 0, 0⟩]
def storeC (S : List Int) (l : Lc) (r : Int) : List RI := if l.kind = 2 then [⟨25, r, 0, 0, slotW S l.n⟩] else if l.n = r then [] else [⟨2, l.n, r, 0, 0⟩]
def moveC (S : List Int) (to fr : Lc) : List RI := if to = fr then [] else if to.kind = 1 then loadC S to.n fr else if fr.kind = 1 then storeC S to fr.n else loadC S 8 fr ++ storeC S to 8
noncomputable def movesC (S : List Int) (l : List Mv) : List RI := (ordF (regL 11) (l.filter fun m => decide (m.from_ ≠ m.to))).flatMap fun m => moveC S m.to m.from_
/-- reads: what is loaded, and the registers in which the operands stand -/
def readsC (S : List Int) (i : Nat) : List Lc → List RI
  | [] => []
  | l :: ls => (if l.kind = 2 then loadC S (8 + i) l else []) ++ readsC S (i + 1) ls
def regOf (i : Nat) (l : Lc) : Int := if l.kind = 2 then 8 + i else l.n
def argR (x : AI) (i : Nat) : Int := match x.args[i]? with
  | some l => regOf i l
  | none => 0
def numbered (l : List Lc) (f : Nat → Lc → Mv) : List Mv := l.mapIdx f
noncomputable def callC (S : List Int) (x : AI) : List RI :=
  x.saves.map (fun r => ⟨25, r, 0, 0, homeW S r⟩) ++ movesC S (numbered x.args fun k l => ⟨regL k, l⟩) ++ [⟨26, 0, 0, 0, x.imm⟩] ++ (if noneB x.dst then [] else [⟨2, 8, 0, 0, 0⟩]) ++
  x.saves.map (fun r => ⟨24, r, 0, 0, homeW S r⟩) ++ (if noneB x.dst then [] else storeC S x.dst 8)
def dstR (x : AI) : Int := if x.dst.kind = 2 then 8 else x.dst.n
def opC (x : AI) : RI :=
  if x.op = 1 then ⟨1, dstR x, 0, 0, x.imm⟩
  else if x.op ≤ 16 then ⟨x.op + 1, dstR x, argR x 0, argR x 1, 0⟩
  else if x.op ≤ 19 then ⟨x.op + 1, dstR x, argR x 0, 0, 0⟩
  else if x.op = 20 then ⟨29, dstR x, argR x 0, 0, 0⟩
  else if x.op = 21 then ⟨30, dstR x, argR x 0, argR x 1, 0⟩
  else if x.op = 22 then ⟨31, argR x 2, argR x 0, argR x 1, 0⟩
  else if x.op = 23 then ⟨28, dstR x, argR x 0, 0, 0⟩
  else if x.op = 24 then ⟨36, dstR x, 0, 0, 0⟩
  else if x.op = 26 then ⟨37, argR x 0, 0, 0, 0⟩
  else if x.op = 27 then ⟨38, argR x 0, 0, 0, 0⟩
  else if x.op = 28 then ⟨32, argR x 0, 0, 0, x.imm⟩
  else if x.op = 29 then ⟨33, argR x 0, 0, 0, x.imm⟩
  else ⟨34, argR x 0, argR x 1, 0, x.imm⟩
noncomputable def insC (S : List Int) (x : AI) : List RI :=
  if x.op = 25 then callC S x
  else if x.op = 31 then (match x.args with
    | l :: _ => moveC S x.dst l
    | [] => [])
  else readsC S 0 x.args ++ [opC x] ++ (if x.dst.kind = 2 then storeC S x.dst 8 else [])
/-- the end of block k: each instruction, and whether its N is a block's number still -/
def termC (S : List Int) (k : Int) (t : AT) : List (RI × Bool) :=
  if t.kind = 1 then (match t.to with
    | [b] => if b = k + 1 then [] else [(⟨21, 0, 0, 0, b⟩, true)]
    | _ => [])
  else if t.kind = 2 then (match t.to with
    | [b, c] => (readsC S 0 [t.value]).map (·, false) ++ (if b = k + 1 then [(⟨22, regOf 0 t.value, 0, 0, c⟩, true)] else (⟨23, regOf 0 t.value, 0, 0, b⟩, true) :: if c = k + 1 then [] else [(⟨21, 0, 0, 0, c⟩, true)])
    | _ => [])
  else if t.kind = 3 then ((if noneB t.value then [] else loadC S 0 t.value) ++ [(⟨27, 0, 0, 0, 0⟩ : RI)]).map (·, false)
  else (readsC S 0 [t.value] ++ [(⟨35, regOf 0 t.value, 0, 0, 6⟩ : RI)]).map (·, false)
noncomputable def blkC (S : List Int) (k : Nat) (b : AB) : List (RI × Bool) := (b.body.flatMap (insC S)).map (·, false) ++ termC S k b.term
noncomputable def preC (S : List Int) (F : AF) : List (RI × Bool) := (movesC S (numbered F.params fun k l => ⟨l, regL k⟩)).map (·, false)
noncomputable def rawC (S : List Int) (F : AF) (k : Nat) : List (RI × Bool) := preC S F ++ ((F.blocks.take k).mapIdx (blkC S)).flatten
noncomputable def placeC (S : List Int) (F : AF) (first : Int) (k : Int) : Int := first + (rawC S F k.toNat).length
noncomputable def codeC (S : List Int) (F : AF) (first : Int) : List RI := (rawC S F F.blocks.length).map fun q => if q.2 then { q.1 with n := placeC S F first q.1.n } else q.1
end Go.Proofs.Ytfaokbjpinlcaaa
end
section
/- ALIR, moves and code as they lie in memory. -/
namespace Go.Sep
theorem SlR.sv {A : Type} {F : Rd A} {h : Heap} {v : Value} {xs : List A} (H : SlR F h v xs) : ∃ sv : SV, v = sv.val ∧ sv.n = xs.length ∧ xs.length ≤ sv.c := by
  obtain ⟨a, c, rfl, hc, _⟩ := H
  exact ⟨⟨a, xs.length, c⟩, rfl, rfl, hc⟩
end Go.Sep
namespace Go.Proofs.Ytfaokbjpinlcaaa
open Go.Sep
set_option linter.unusedSimpArgs false
set_option linter.unusedVariables false
attribute [local irreducible] blk slA mp mpF rows rowsBut many
abbrev rdI : Rd Int := (Enc.int .i64).rd
abbrev lcv (l : Lc) : List Value := [.int .i64 l.kind, .int .i64 l.n]
def encLc : Enc Lc := ⟨2, lcv, fun _ => rfl, fun _ => rfl⟩
def encMv : Enc Mv := ⟨4, fun m => [.int .i64 m.to.kind, .int .i64 m.to.n, .int .i64 m.from_.kind, .int .i64 m.from_.n], fun _ => rfl, fun _ => rfl⟩
abbrev riv (x : RI) : List Value := [.int .i64 x.op, .int .i64 x.a, .int .i64 x.b, .int .i64 x.c, .int .i64 x.n]
def encRI : Enc RI := ⟨5, riv, fun _ => rfl, fun _ => rfl⟩
structure RF where
  name : ByteArray
  frame : Int
  first : Int
  count : Int
  params : Int
abbrev rfv (x : RF) : List Value := [.string x.name, .int .i64 x.frame, .int .i64 x.first, .int .i64 x.count, .int .i64 x.params]
def encRF : Enc RF := ⟨5, rfv, fun _ => rfl, fun _ => rfl⟩
abbrev rdLc : Rd Lc := encLc.rd
abbrev nilS : SV := ⟨none, 0, 0⟩
abbrev aiv (x : AI) (u v : Value) : List Value := [.int .i64 x.op, .int .i64 x.imm, .int .i64 x.dst.kind, .int .i64 x.dst.n, u, v]
def rdAI : Rd AI where
  sz := 6
  rel h x cs := ∃ u v, cs = aiv x u v ∧ SlR rdLc h u x.args ∧ SlR rdI h v x.saves
  len := by rintro h x cs ⟨u, v, rfl, _⟩; rfl
  mono := by rintro h g x cs hs ⟨u, v, rfl, hu, hv⟩; exact ⟨u, v, rfl, hu.mono hs, hv.mono hs⟩
abbrev atv (t : AT) (v : Value) : List Value := [.int .i64 t.kind, .int .i64 t.value.kind, .int .i64 t.value.n, v]
abbrev abv (x : AB) (u v : Value) : List Value := u :: atv x.term v
def rdAB : Rd AB where
  sz := 5
  rel h x cs := ∃ u v, cs = abv x u v ∧ SlR rdAI h u x.body ∧ SlR rdI h v x.term.to
  len := by rintro h x cs ⟨u, v, rfl, _⟩; rfl
  mono := by rintro h g x cs hs ⟨u, v, rfl, hu, hv⟩; exact ⟨u, v, rfl, hu.mono hs, hv.mono hs⟩
abbrev afv (x : AF) (u v : Value) : List Value := [.string x.name, u, .int .i64 x.result, .int .i64 x.slots, v]
def rdAF : Rd AF where
  sz := 5
  rel h x cs := ∃ u v, cs = afv x u v ∧ SlR rdLc h u x.params ∧ SlR rdAB h v x.blocks
  len := by rintro h x cs ⟨u, v, rfl, _⟩; rfl
  mono := by rintro h g x cs hs ⟨u, v, rfl, hu, hv⟩; exact ⟨u, v, rfl, hu.mono hs, hv.mono hs⟩
/-- an instruction at hand -/
structure AIv (h : Heap) (x : AI) (u v : Value) : Prop where
  hu : SlR rdLc h u x.args
  hv : SlR rdI h v x.saves
/-- a function at hand -/
structure AFv (h : Heap) (F : AF) (u v : Value) : Prop where
  hu : SlR rdLc h u F.params
  hv : SlR rdAB h v F.blocks
/-- what is played is small -/
structure SmallF (F : AF) : Prop where
  sp : F.params.length ≤ 20000
  sb : F.blocks.length ≤ 20000
  si : ∀ b ∈ F.blocks, b.body.length ≤ 20000 ∧ b.term.to.length ≤ 20000 ∧ ∀ x ∈ b.body, x.args.length ≤ 200000 ∧ x.saves.length ≤ 200000
  st : (F.blocks.map fun b => b.body.length).sum ≤ 20000
  sn : F.name.size ≤ 2000000
structure SmallA (A : AL) : Prop where
  sf : A.funcs.length ≤ 500
  sa : ∀ F ∈ A.funcs, SmallF F
theorem all_of {A : Type} {xs : List A} {p : A → Bool} (h : ∀ k y, k < xs.length → xs[k]? = some y → p y = true) : xs.all p = true :=
  List.all_eq_true.2 fun y hy => by obtain ⟨k, hk⟩ := List.getElem?_of_mem hy; exact h k y (List.getElem?_eq_some_iff.1 hk).1 hk
theorem all_not {A : Type} {xs : List A} {p : A → Bool} {k : Nat} {y : A} (h : xs[k]? = some y) (hp : p y = false) : xs.all p = false := by
  cases hx : xs.all p with
  | false => rfl
  | true => have := List.all_eq_true.1 hx y (List.mem_of_getElem? h); rw [hp] at this; cases this
end Go.Proofs.Ytfaokbjpinlcaaa
end
section
/- The keys of maps: places, names. -/
namespace Go.Proofs.Ytfaokbjpinlcaaa
open Go.Sep
set_option linter.unusedSimpArgs false
set_option linter.unusedVariables false
theorem u_44 : Try.prog.underlying 44 = some (.struct #[⟨"Kind", 3, 0, false, "", "", 0⟩, ⟨"N", 3, 1, false, "", "", 8⟩]) := by kernel_rfl
theorem u_9 : Try.prog.underlying 9 = some .string := by kernel_rfl
theorem u_3 : Try.prog.underlying 3 = some (.int .i64) := by kernel_rfl
def encL (l : Lc) : Value := .agg ⟨lcv l⟩
theorem encL_inj (a b : Lc) (h : encL a = encL b) : a = b := by
  obtain ⟨k, n⟩ := a; obtain ⟨k', n'⟩ := b
  simp only [encL, lcv, Value.agg.injEq, Array.mk.injEq, List.cons.injEq, Value.int.injEq, true_and, and_true] at h
  simp [h.1, h.2]
theorem part_3 (cs : List Value) (i : Nat) (v : Value) (w : World) (h : cs[i]? = some v) : (part 3 ⟨cs⟩ i).run Try.prog w = .ok v w := by
  simp [part, isAgg, underlying, u_3, h]
theorem chk_44 (e : Bool) (k : Lc) (w : World) (m : Nat) : (Instr.checkKey e (m + 2) 44 (encL k)).run Try.prog w = .ok () w := by
  have h0 := part_3 (lcv k) 0 (.int .i64 k.kind) w rfl
  have h1 := part_3 (lcv k) 1 (.int .i64 k.n) w rfl
  simp [Instr.checkKey, underlying, u_44, encL, h0, h1, u_3]
theorem bits_44 (k : Lc) (m : Nat) : Instr.sameBits (m + 1) (encL k) (encL k) = true := by
  simp [Instr.sameBits, encL, lcv]
theorem kok_44 : KeyOk Try.prog 44 encL where
  inj := encL_inj
  chk e k w := chk_44 e k w 9998
  eq k k' w := by
    have := (run_eqS (P := Try.prog) (T := 44) is_44 (xs := lcv k) (ys := lcv k') (b := decide (k = k')) (by rw [nf_44]; rfl) (by
      obtain ⟨a, b⟩ := k; obtain ⟨c, d⟩ := k'
      simp [eqInts, lcv, Lc.mk.injEq]) (.const .nilIface) (.const .nilIface) .eql w).2
    exact this
  und := ⟨_, u_44, fun k k' => .inl rfl⟩
  bits k := bits_44 k 9999
theorem chk_9 (e : Bool) (k : ByteArray) (w : World) (m : Nat) : (Instr.checkKey e (m + 1) 9 (.string k)).run Try.prog w = .ok () w := by
  simp [Instr.checkKey, underlying, u_9]
theorem kok_9 : KeyOk Try.prog 9 (fun s : ByteArray => Value.string s) where
  inj a b h := by simpa using h
  chk e k w := chk_9 e k w 9999
  eq k k' w := by
    have h := run_equalIn_string (P := Try.prog) w 9999 9 k k' u_9
    have e : (k.toList == k'.toList) = decide (k = k') := by
      by_cases e : k = k'
      · subst e; simp
      · have h : k.toList ≠ k'.toList := fun h => e (by rw [ByteArray.toList_eq, ByteArray.toList_eq] at h; exact ByteArray.ext (Array.toList_inj.1 h))
        simp [e, h]
    rw [e] at h
    exact h
  und := ⟨_, u_9, fun k k' => .inr (by
    show some (k == k') = _
    rw [beq_toListBytes]
    by_cases e : k = k'
    · subst e; simp
    · have h : k.toList ≠ k'.toList := fun h => e (by rw [ByteArray.toList_eq, ByteArray.toList_eq] at h; exact ByteArray.ext (Array.toList_inj.1 h))
      simp [e, h])⟩
  bits k := by
    show (k == k) = true
    rw [beq_toListBytes]; simp
theorem if_3 : ifc Try.prog 3 = some false := by kernel_rfl
theorem if_136 : ifc Try.prog 136 = some false := by kernel_rfl
theorem mr_len : mrow Try.prog 136 "Len" = some (104, false, 132) := by kernel_rfl
theorem mr_less : mrow Try.prog 136 "Less" = some (105, false, 132) := by kernel_rfl
theorem mr_swap : mrow Try.prog 136 "Swap" = some (106, false, 132) := by kernel_rfl
theorem mr_pop : mrow Try.prog 136 "Pop" = some (107, true, 132) := by kernel_rfl
theorem mr_push : mrow Try.prog 136 "Push" = some (108, true, 132) := by kernel_rfl
theorem ok_104 : calleeOk Try.prog 104 = true := by kernel_rfl
theorem ok_105 : calleeOk Try.prog 105 = true := by kernel_rfl
theorem ok_106 : calleeOk Try.prog 106 = true := by kernel_rfl
theorem ok_107 : calleeOk Try.prog 107 = true := by kernel_rfl
theorem ok_108 : calleeOk Try.prog 108 = true := by kernel_rfl
end Go.Proofs.Ytfaokbjpinlcaaa
end
section
/- A heap of numbers, the least one first: what moving one up or down keeps; plain. -/
namespace Go.Proofs.Ytfaokbjpinlcaaa
set_option linter.unusedVariables false
def sw (f : Nat → Int) (i j : Nat) : Nat → Int := fun k => if k = i then f j else if k = j then f i else f k
def Hp (f : Nat → Int) (n : Nat) : Prop := ∀ c, 0 < c → c < n → f ((c - 1) / 2) ≤ f c
def UpI (f : Nat → Int) (n j : Nat) : Prop := (∀ c, 0 < c → c < n → c ≠ j → f ((c - 1) / 2) ≤ f c) ∧ ∀ c, 0 < c → c < n → 0 < j → (c - 1) / 2 = j → f ((j - 1) / 2) ≤ f c
def DnI (f : Nat → Int) (n i : Nat) : Prop := (∀ c, 0 < c → c < n → (c - 1) / 2 ≠ i → f ((c - 1) / 2) ≤ f c) ∧ ∀ c, 0 < c → c < n → 0 < i → (c - 1) / 2 = i → f ((i - 1) / 2) ≤ f c
theorem UpI.step {f : Nat → Int} {n i j : Nat} (h : UpI f n j) (hj : 0 < j) (hn : j < n) (hi : (j - 1) / 2 = i) (hlt : f j < f i) : UpI (sw f i j) n i := by
  obtain ⟨h1, h2⟩ := h
  have hij : i < j := by omega
  constructor
  · intro c c0 cn ci
    simp only [sw, if_neg ci]
    by_cases cj : c = j
    · subst cj; rw [if_pos rfl, if_pos hi]; omega
    · rw [if_neg cj]
      have a1 := h1 c c0 cn cj
      by_cases e1 : (c - 1) / 2 = i
      · rw [if_pos e1]; rw [e1] at a1; omega
      · rw [if_neg e1]
        by_cases e2 : (c - 1) / 2 = j
        · rw [if_pos e2]
          have := h2 c c0 cn hj e2
          rw [hi] at this; exact this
        · rw [if_neg e2]; exact a1
  · intro c c0 cn i0 e
    have ne1 : (i - 1) / 2 ≠ i := by omega
    have ne2 : (i - 1) / 2 ≠ j := by omega
    have ne3 : c ≠ i := by omega
    simp only [sw, if_neg ne1, if_neg ne2, if_neg ne3]
    have a1 := h1 i i0 (by omega) (by omega)
    by_cases cj : c = j
    · rw [if_pos cj]; exact a1
    · rw [if_neg cj]
      have a2 := h1 c c0 cn cj
      rw [e] at a2; omega
theorem UpI.done {f : Nat → Int} {n j : Nat} (h : UpI f n j) (hd : j = 0 ∨ f ((j - 1) / 2) ≤ f j) : Hp f n := by
  intro c c0 cn
  by_cases e : c = j
  · subst e; rcases hd with e | e
    · omega
    · exact e
  · exact h.1 c c0 cn e
theorem UpI.start {f : Nat → Int} {n : Nat} (h : Hp f n) : UpI f (n + 1) n := ⟨fun c c0 cn cj => h c c0 (by omega), fun c c0 cn hj e => by omega⟩
theorem DnI.step {f : Nat → Int} {n i j : Nat} (h : DnI f n i) (hj : 0 < j) (hn : j < n) (hi : (j - 1) / 2 = i) (hlt : f j < f i) (hm : ∀ c, 0 < c → c < n → (c - 1) / 2 = i → f j ≤ f c) : DnI (sw f i j) n j := by
  obtain ⟨h1, h2⟩ := h
  have hij : i < j := by omega
  constructor
  · intro c c0 cn cj
    by_cases e1 : (c - 1) / 2 = i
    · have ne : c ≠ i := by omega
      simp only [sw, if_pos e1, if_neg ne]
      split
      · omega
      · exact hm c c0 cn e1
    · simp only [sw, if_neg e1, if_neg cj]
      by_cases ci : c = i
      · rw [if_pos ci]
        subst ci
        have := h2 j hj hn c0 hi
        exact this
      · rw [if_neg ci]
        have cj' : c ≠ j := fun e => e1 (e ▸ hi)
        rw [if_neg cj']
        exact h1 c c0 cn e1
  · intro c c0 cn j0 e
    have ne1 : (j - 1) / 2 = i := hi
    have ne2 : c ≠ i := by omega
    have ne3 : c ≠ j := by omega
    simp only [sw, if_pos ne1, if_neg ne2, if_neg ne3]
    have := h1 c c0 cn (by omega)
    rw [e] at this; exact this
theorem DnI.done {f : Nat → Int} {n i : Nat} (h : DnI f n i) (hd : ∀ c, 0 < c → c < n → (c - 1) / 2 = i → f i ≤ f c) : Hp f n := by
  intro c c0 cn
  by_cases e : (c - 1) / 2 = i
  · have := hd c c0 cn e; rw [e]; exact this
  · exact h.1 c c0 cn e
theorem Hp.least {f : Nat → Int} {n : Nat} (h : Hp f n) : ∀ c, c < n → f 0 ≤ f c := by
  intro c
  induction c using Nat.strongRecOn with
  | _ c ih =>
    intro hc
    by_cases e : c = 0
    · subst e; omega
    · have := ih ((c - 1) / 2) (by omega) (by omega)
      have := h c (by omega) hc
      omega
/-- the last one to the front -/
theorem DnI.start {f : Nat → Int} {n : Nat} (h : Hp f (n + 1)) : DnI (sw f 0 n) n 0 := by
  constructor
  · intro c c0 cn e
    have n1 : c ≠ 0 := by omega
    have n2 : c ≠ n := by omega
    have n3 : (c - 1) / 2 ≠ n := by omega
    simp only [sw, if_neg n1, if_neg n2, if_neg e, if_neg n3]
    exact h c c0 (by omega)
  · intro c _ _ h0; omega
/-! ### Over lists -/
def gd (xs : List Int) (k : Nat) : Int := xs.getD k 0
def swl (xs : List Int) (i j : Nat) : List Int := (xs.set i (gd xs j)).set j (gd xs i)
theorem gd_at {xs : List Int} {k : Nat} {x : Int} (h : xs[k]? = some x) : gd xs k = x := by simp [gd, h]
theorem at_gd {xs : List Int} {k : Nat} (h : k < xs.length) : xs[k]? = some (gd xs k) := by simp [gd, h]
theorem gd_swl {xs : List Int} {i j : Nat} (hi : i < xs.length) (hj : j < xs.length) : gd (swl xs i j) = sw (gd xs) i j := by
  funext k
  simp only [gd, swl, sw, List.getD_eq_getElem?_getD, List.getElem?_set, List.length_set]
  by_cases e1 : j = k
  · subst e1
    by_cases e2 : j = i
    · subst e2; simp [hi]
    · simp [e2, hj]
  · by_cases e2 : i = k
    · subst e2; simp [e1, hi]
    · simp [e1, e2, Ne.symm e1, Ne.symm e2]
theorem swl_len (xs : List Int) (i j : Nat) : (swl xs i j).length = xs.length := by simp [swl]
theorem swl_perm {xs : List Int} {i j : Nat} (hi : i < xs.length) (hj : j < xs.length) : (swl xs i j).Perm xs := by
  rw [List.perm_iff_count]
  intro a
  simp only [swl]
  rw [List.count_set (by simpa using hj), List.count_set hi, List.getElem_set]
  have e1 : gd xs i = xs[i] := by simp [gd, hi]
  have e2 : gd xs j = xs[j] := by simp [gd, hj]
  rw [e1, e2]
  have p1 : xs[i] = a → 0 < xs.count a := fun e => List.count_pos_iff.2 (e ▸ List.getElem_mem hi)
  have p2 : xs[j] = a → 0 < xs.count a := fun e => List.count_pos_iff.2 (e ▸ List.getElem_mem hj)
  by_cases e : i = j
  · subst e; simp; by_cases c : xs[i] = a <;> simp [c] <;> have := p1 c <;> omega
  · simp only [if_neg e, beq_iff_eq]
    by_cases c1 : xs[i] = a <;> by_cases c2 : xs[j] = a <;> simp [c1, c2] <;> first | omega | (have := p1 c1; omega) | (have := p2 c2; omega)
end Go.Proofs.Ytfaokbjpinlcaaa
end
section
/- The heap of ready moves: container/heap over the methods of its list; walked. -/
namespace Go.Proofs.Ytfaokbjpinlcaaa
open Go.Sep
set_option linter.unusedSimpArgs false
set_option linter.unusedVariables false
attribute [local irreducible] blk slA mp mpF rows rowsBut many mpK mpE
abbrev encI : Enc Int := Enc.int .i64
/-- the block of the work -/
abbrev wkB (b : Nat) (lv dv rm sm rv ov : Value) : HProp := blk b [lv, dv, rm, sm, rv, ov] 134
abbrev rdyV (b : Nat) : Value := .pointer (some ⟨b, 4, none⟩)
abbrev ifcV (b : Nat) : Value := .iface 136 (rdyV b)
theorem hLen_ok (hR : Heap) (rv : SV) (xs : List Int) : Tri Try.prog hR 104 #[rv.val] [slA 3 encI rv.val xs] fun v Γ' => v = .int .i64 (xs.length : Int) ∧ Γ' = [slA 3 encI rv.val xs] := by
  refine Tri.ent (Tri.of (args := [rv.val]) Try.func104 rfl Try.ntmps104 (by simp) ?_)
  refine Zp ?_
  refine Zm ?_
  refine Ze ?_
  refine Zp ?_
  refine Zm ?_
  refine Run.lenO 0 rfl rfl sl_132 rfl rfl rfl ?_
  refine Zm ?_
  refine Ze ?_
  refine WP.ret ?_
  exact retT [2] _ rfl rfl ⟨_, ent.go, rfl, rfl⟩
theorem hLess_ok (hR : Heap) (rv : SV) (xs : List Int) (i j : Nat) (hi : i < xs.length) (hj : j < xs.length) :
    Tri Try.prog hR 105 #[rv.val, .int .i64 (i : Int), .int .i64 (j : Int)] [slA 3 encI rv.val xs] fun v Γ' => v = .bool (decide (gd xs i < gd xs j)) ∧ Γ' = [slA 3 encI rv.val xs] := by
  have gi := at_gd hi
  have gj := at_gd hj
  refine Tri.ent (Tri.of (args := [rv.val, .int .i64 (i : Int), .int .i64 (j : Int)]) Try.func105 rfl Try.ntmps105 (by simp) ?_)
  refine Zp ?_
  refine Zm ?_
  refine Ze ?_
  refine WP.seq ?_
  refine WP.drawn0 cf0 mixed rfl (by kernel_rfl) ?_
  refine Zm ?_
  refine Zm ?_
  refine Run.idxO 0 rfl rfl rfl sl_132 rfl rfl rfl rfl (by first | omega | (simp <;> omega)) (by first | omega | (simp <;> omega)) ?_
  refine Run.loadO 0 i 0 rfl rfl ag_3 rfl rfl rfl rfl gi rfl ?_
  refine Zm ?_
  refine Zm ?_
  refine Run.idxO 0 rfl rfl rfl sl_132 rfl rfl rfl rfl (by first | omega | (simp <;> omega)) (by first | omega | (simp <;> omega)) ?_
  refine Run.loadO 0 j 0 rfl rfl ag_3 rfl rfl rfl rfl gj rfl ?_
  refine Zi ?_
  refine Zm ?_
  refine Ze ?_
  refine WP.ret ?_
  exact retT [6] _ rfl rfl ⟨_, ent.go, rfl, rfl⟩
theorem hSwap_ok (hR : Heap) (rv : SV) (xs : List Int) (i j : Nat) (hi : i < xs.length) (hj : j < xs.length) :
    Tri Try.prog hR 106 #[rv.val, .int .i64 (i : Int), .int .i64 (j : Int)] [slA 3 encI rv.val xs] fun _ Γ' => Γ' = [slA 3 encI rv.val (swl xs i j)] := by
  have gi := at_gd hi
  have gj := at_gd hj
  have gj' : ∃ z, (xs.set i (gd xs j))[j]? = some z := ⟨_, List.getElem?_eq_getElem (by simpa using hj)⟩
  obtain ⟨z, gz⟩ := gj'
  refine Tri.ent (Tri.of (args := [rv.val, .int .i64 (i : Int), .int .i64 (j : Int)]) Try.func106 rfl Try.ntmps106 (by simp) ?_)
  refine WP.drawn0 cf0 mixed rfl (by kernel_rfl) ?_
  iterate 6 refine Zm ?_
  refine Run.idxO 0 rfl rfl rfl sl_132 rfl rfl rfl rfl (by first | omega | (simp <;> omega)) (by first | omega | (simp <;> omega)) ?_
  refine Run.loadO 0 j 0 rfl rfl ag_3 rfl rfl rfl rfl gj rfl ?_
  refine Zm ?_
  refine Zm ?_
  refine Run.idxO 0 rfl rfl rfl sl_132 rfl rfl rfl rfl (by first | omega | (simp <;> omega)) (by first | omega | (simp <;> omega)) ?_
  refine Run.loadO 0 i 0 rfl rfl ag_3 rfl rfl rfl rfl gi rfl ?_
  refine Run.idxO 0 rfl rfl rfl sl_132 rfl rfl rfl rfl (by first | omega | (simp <;> omega)) (by first | omega | (simp <;> omega)) ?_
  refine Run.storeO 0 i 0 rfl rfl rfl rfl ag_3 rfl rfl rfl rfl gi rfl rfl ?_
  refine Run.idxO 0 rfl rfl rfl sl_132 rfl rfl rfl rfl (by omega) (by simp; omega) ?_
  refine Run.storeO 0 j 0 rfl rfl rfl rfl ag_3 rfl rfl rfl rfl gz rfl rfl ?_
  refine Run.nil ?_
  exact retN [] [] rfl rfl ⟨_, ent.go, rfl⟩
theorem hPop_ok (hR : Heap) (b : Nat) (lv dv rm sm ov : Value) (rv : SV) (xs : List Int) (x : Int) (hl : xs.length ≤ 1000000) :
    Tri Try.prog hR 107 #[rdyV b] [wkB b lv dv rm sm rv.val ov, slA 3 encI rv.val (xs ++ [x])] fun v Γ' => ∃ sv : SV, v = .iface 3 (.int .i64 x) ∧ Γ' = [wkB b lv dv rm sm sv.val ov, slA 3 encI sv.val xs] := by
  have gx : (xs ++ [x])[xs.length]? = some x := by simp
  refine Tri.ent (Tri.of (args := [rdyV b]) Try.func107 rfl Try.ntmps107 (by simp) ?_)
  refine Zp ?_
  refine Zm ?_
  refine Ze ?_
  refine WP.seq ?_
  refine WP.drawn0 cf0 mixed rfl (by kernel_rfl) ?_
  refine Zm ?_
  refine Zn ?_
  refine Zl 0 ag_132 ?_
  refine Zm ?_
  refine Zn ?_
  refine Zl 0 ag_132 ?_
  refine Run.lenO 1 rfl rfl sl_132 rfl rfl rfl ?_
  refine Zs ?_
  refine Run.idxO 1 rfl rfl rfl sl_132 rfl rfl rfl rfl (by simp) (by simp; omega) ?_
  refine Run.loadO 1 xs.length 0 rfl rfl ag_3 rfl rfl rfl (by simp; rfl) gx rfl ?_
  refine Zm ?_
  refine Ze ?_
  refine WP.seq ?_
  refine WP.drawn0 cf0 mixed rfl (by kernel_rfl) ?_
  refine Zm ?_
  refine Zm ?_
  refine Zn ?_
  refine Zl 0 ag_132 ?_
  refine Zm ?_
  refine Zn ?_
  refine Zl 0 ag_132 ?_
  refine Run.lenO 1 rfl rfl sl_132 rfl rfl rfl ?_
  refine Zs ?_
  refine Run.sliceO 1 rfl rfl rfl sl_132 rfl rfl rfl rfl (by first | omega | (simp <;> omega)) (by first | omega | (simp <;> omega)) (by first | omega | (simp <;> omega)) ?_
  refine Zn ?_
  refine Run.storeB 0 rfl rfl rfl rfl ag_132 rfl rfl rfl rfl rfl ?_
  refine Ze ?_
  refine Zp ?_
  refine Zm ?_
  refine Run.mkIface rfl rfl if_3 rfl rfl ?_
  refine Zm ?_
  refine Ze ?_
  refine WP.ret ?_
  refine retT [2] _ rfl rfl ⟨[wkB b lv dv rm sm (rv.cut 1 0 xs.length).val ov, slA 3 encI (rv.cut 1 0 xs.length).val xs], ?_, _, rfl, rfl⟩
  have e0 : (((xs ++ [x]).length : Int) - 1).toNat = xs.length := by simp
  rw [e0]
  have e1 : (((xs ++ [x]).take xs.length).drop ((0 : Nat) : Int).toNat) = xs := by simp
  rw [e1]
  have e2 : cutV rv.val encI.sz ((0 : Nat) : Int).toNat xs.length = (rv.cut 1 0 xs.length).val := cutV_val _ _ _ _
  rw [e2]
  exact ent.go
set_option maxRecDepth 100000 in
theorem hPush_ok (hR : Heap) (b : Nat) (lv dv rm sm ov : Value) (rv : SV) (xs : List Int) (x : Int) (hl : xs.length ≤ 1000000) :
    Tri Try.prog hR 108 #[rdyV b, .iface 3 (.int .i64 x)] [wkB b lv dv rm sm rv.val ov, slA 3 encI rv.val xs] fun _ Γ' => ∃ sv : SV, Γ' = [wkB b lv dv rm sm sv.val ov, slA 3 encI sv.val (xs ++ [x])] := by
  refine Tri.ent (Tri.of (args := [rdyV b, .iface 3 (.int .i64 x)]) Try.func108 rfl Try.ntmps108 (by simp) ?_)
  refine WP.drawn0 cf0 mixed rfl (by kernel_rfl) ?_
  refine Zm ?_
  refine Zm ?_
  refine Zn ?_
  refine Zl 0 ag_132 ?_
  refine Zm ?_
  refine Run.typeAssert rfl rfl if_3 rfl rfl ?_
  refine Run.buildSlice (E := encI) rfl sl_132 zr_3 ([x]) rfl rfl rfl (by decide) rfl rfl ?_
  intro b10
  refine Run.append 1 rfl rfl rfl rfl rfl rfl sl_132 zr_3 rfl (src_own 2 rfl) (by first | omega | (simp <;> omega)) (by first | omega | (simp <;> omega)) ?_
  intro sv11 hv11
  refine Zn ?_
  refine Run.storeB 0 rfl rfl rfl rfl ag_132 rfl rfl rfl rfl rfl ?_
  refine Run.nil ?_
  exact retN [] [] rfl rfl ⟨_, ent.go, _, rfl⟩
end Go.Proofs.Ytfaokbjpinlcaaa
end
section
/- container/heap's up, down, Push and Pop at the ready moves; walked. -/
namespace Go.Proofs.Ytfaokbjpinlcaaa
open Go.Sep
set_option linter.unusedSimpArgs false
set_option linter.unusedVariables false
attribute [local irreducible] blk slA mp mpF rows rowsBut many mpK mpE
theorem par_eq (j : Nat) (h : j ≤ 1000000) : IntKind.i64.wrap (((j : Int) - 1).tdiv 2) = (((j - 1) / 2 : Nat) : Int) := by
  rcases Nat.eq_zero_or_pos j with e | e
  · subst e; decide
  · have e2 : (j : Int) - 1 = ((j - 1 : Nat) : Int) := by omega
    rw [e2, Int.tdiv_eq_ediv_of_nonneg (by omega), wrapI (by omega) (by omega)]
    omega
set_option maxRecDepth 100000 in
theorem hUp_ok (hR : Heap) (b : Nat) (lv dv rm sm ov : Value) (rv : SV) (xs : List Int) (j0 : Nat) (hl : xs.length ≤ 1000000) (hj0 : j0 < xs.length) (hU : UpI (gd xs) xs.length j0) :
    Tri Try.prog hR 83 #[ifcV b, .int .i64 (j0 : Int)] [wkB b lv dv rm sm rv.val ov, slA 3 encI rv.val xs] fun _ Γ' => ∃ ys : List Int, ys.Perm xs ∧ Hp (gd ys) ys.length ∧ Γ' = [wkB b lv dv rm sm rv.val ov, slA 3 encI rv.val ys] := by
  refine Tri.ent (Tri.of (args := [ifcV b, .int .i64 (j0 : Int)]) Try.func83 rfl Try.ntmps83 (by simp) ?_)
  refine WP.block ?_
  refine WP.trim [0, 1] [0, 1] ?_
  refine WP.loopC (α := Nat × List Int) (fun z => z.1 < z.2.length ∧ z.2.Perm xs ∧ UpI (gd z.2) z.2.length z.1) (fun z => [(1, .int .i64 (z.1 : Int))]) (fun z => [(1, slA 3 encI rv.val z.2)]) (fun z => z.1) (j0, xs) ⟨hj0, .refl _, hU⟩ ?_
  rintro ⟨j, ys⟩ ⟨hj, hp, hu⟩
  simp only at hj hp hu ⊢
  have hyl := hp.length_eq
  refine WP.trim [0, 1] [0, 1] ?_
  refine WP.block ?_
  refine Zp ?_
  refine Zm ?_
  refine Zs ?_
  refine Zi ?_
  refine Run.eqv (v' := .int .i64 (((j - 1) / 2 : Nat) : Int)) (by rw [par_eq j (by omega)]) ?_
  refine Zm ?_
  refine Ze ?_
  have hi : (j - 1) / 2 < ys.length := by omega
  refine WP.seq ?_
  refine WP.seqCut [(0, ifcV b), (1, .int .i64 (j : Int)), (4, .int .i64 (((j - 1) / 2 : Nat) : Int)), (17, .bool (decide (j = 0 ∨ gd ys ((j - 1) / 2) ≤ gd ys j)))] [wkB b lv dv rm sm rv.val ov, slA 3 encI rv.val ys] ?_ ?_
  · refine Zc ?_
    all_goals (first | refine Zm ?_)
    all_goals (first | refine Zm ?_)
    all_goals (first | refine Zi ?_)
    all_goals (first | refine Run.tt (by first | assumption | omega) ?_ | refine Run.ff (by first | assumption | omega) ?_ | refine Run.split (fun hc10 => ?_) (fun hc10 => ?_) | refine Run.splitB (fun hc10 => ?_) (fun hc10 => ?_) | skip)
    all_goals (first | refine Zm ?_)
    all_goals (first | refine Zv ?_ | refine Zm ?_)
    all_goals (first | refine Zv ?_ | refine Zm ?_)
    all_goals (first | refine Zv ?_ | refine Zm ?_)
    all_goals (first | refine Zv ?_ | refine Run.callMv 0 [1] ok_105 mr_less ag_132 (hLess_ok hR rv ys j ((j - 1) / 2) hj hi) ?_; rintro _ _ ⟨rfl, rfl⟩)
    all_goals (first | refine Zv ?_ | refine Run.bnot rfl rfl rfl rfl ?_)
    all_goals (first | refine Zq ?_)
    all_goals (refine Run.nil ?_)
    all_goals refine thn_next ⟨⟨rfl, rfl, rfl, ?_, trivial⟩, ent.go⟩
    all_goals simp [Env.get]
    all_goals omega
  refine WP.ite rfl (fun hend => ?_) (fun hend => ?_)
  · refine WP.exit ?_; refine thn_exit ?_; refine blk_miss rfl ?_; refine thn_exit ?_; refine blk_hit ?_
    exact retN [] [] rfl rfl ⟨_, ent.go, ys, hp, hu.done hend, rfl⟩
  · refine Zb ?_
    refine Zp ?_
    iterate 3 refine Zm ?_
    refine Run.callMv 0 [1] ok_106 mr_swap ag_132 (hSwap_ok hR rv ys ((j - 1) / 2) j hi hj) ?_; rintro _ _ rfl
    refine Ze ?_
    refine Zc ?_
    refine Zm ?_
    refine Zm ?_
    refine Run.nil ?_
    refine blk_norm ?_
    have h1 : ¬ j = 0 := fun e => hend (.inl e)
    have h2 : gd ys j < gd ys ((j - 1) / 2) := by
      have := fun e => hend (.inr e); omega
    refine thn_next ⟨((j - 1) / 2, swl ys ((j - 1) / 2) j), ⟨?_, (swl_perm hi hj).trans hp, ?_⟩, ?_, Ko.go, ent.gc⟩
    · simp only [swl_len]; exact hi
    · simp only [swl_len, gd_swl hi hj]; exact hu.step (by omega) hj rfl h2
    · simp only; omega
theorem swl_far {xs : List Int} {i j k : Nat} (hi : i < xs.length) (hj : j < xs.length) (h1 : k ≠ i) (h2 : k ≠ j) : gd (swl xs i j) k = gd xs k := by
  rw [gd_swl hi hj]; simp [sw, h1, h2]
set_option maxHeartbeats 1000000 in
set_option maxRecDepth 100000 in
theorem hDown_ok (hR : Heap) (b : Nat) (lv dv rm sm ov : Value) (rv : SV) (xs : List Int) (n : Nat) (hl : xs.length ≤ 1000000) (hn : n + 1 = xs.length) (hU : DnI (gd xs) n 0) :
    Tri Try.prog hR 84 #[ifcV b, .int .i64 0, .int .i64 (n : Int)] [wkB b lv dv rm sm rv.val ov, slA 3 encI rv.val xs] fun _ Γ' => ∃ ys : List Int, ys.Perm xs ∧ Hp (gd ys) n ∧ gd ys n = gd xs n ∧ Γ' = [wkB b lv dv rm sm rv.val ov, slA 3 encI rv.val ys] := by
  refine Tri.ent (Tri.of (args := [ifcV b, .int .i64 0, .int .i64 (n : Int)]) Try.func84 rfl Try.ntmps84 (by simp) ?_)
  refine Zp ?_
  refine Zm ?_
  refine Ze ?_
  refine Zp ?_
  refine Zm ?_
  refine Zm ?_
  refine Ze ?_
  refine WP.trim [0, 1, 2, 7] [0, 1] ?_
  refine WP.meetC (α := Nat × List Int) (fun z => z.1 ≤ 1000000 ∧ z.2.Perm xs ∧ Hp (gd z.2) n ∧ gd z.2 n = gd xs n) (fun z => [(7, .int .i64 (z.1 : Int))]) (fun z => [(1, slA 3 encI rv.val z.2)]) ?_ ?_
  · refine WP.block ?_
    refine WP.loopC (α := Nat × List Int) (fun z => z.1 ≤ n ∧ z.2.Perm xs ∧ DnI (gd z.2) n z.1 ∧ gd z.2 n = gd xs n) (fun z => [(7, .int .i64 (z.1 : Int))]) (fun z => [(1, slA 3 encI rv.val z.2)]) (fun z => n - z.1) (0, xs) ⟨Nat.zero_le _, .refl _, hU, rfl⟩ ?_
    rintro ⟨i, ys⟩ ⟨hi, hp, hu, hlast⟩
    simp only at hi hp hu hlast ⊢
    have hyl := hp.length_eq
    refine WP.trim [0, 1, 2, 7] [0, 1] ?_
    refine WP.block ?_
    refine Zp ?_
    refine Zm ?_
    refine Zu ?_
    refine Za ?_
    refine Zm ?_
    refine Ze ?_
    refine WP.seq ?_
    refine WP.seqCut [(0, ifcV b), (1, .int .i64 0), (2, .int .i64 (n : Int)), (7, .int .i64 (i : Int)), (8, .int .i64 (2 * (i : Int) + 1)), (21, .bool (decide (n ≤ 2 * i + 1)))] [wkB b lv dv rm sm rv.val ov, slA 3 encI rv.val ys] ?_ ?_
    · refine Zc ?_
      all_goals (first | refine Zm ?_)
      all_goals (first | refine Zm ?_)
      all_goals (first | refine Zi ?_)
      all_goals (first | refine Run.tt (by first | assumption | omega) ?_ | refine Run.ff (by first | assumption | omega) ?_ | refine Run.split (fun hc17 => ?_) (fun hc17 => ?_) | refine Run.splitB (fun hc17 => ?_) (fun hc17 => ?_) | skip)
      all_goals (first | refine Zm ?_)
      all_goals (first | refine Zv ?_ | refine Zm ?_)
      all_goals (first | refine Zv ?_ | refine Zi ?_)
      all_goals (first | refine Zq ?_)
      all_goals (refine Run.nil ?_)
      all_goals refine thn_next ⟨⟨rfl, rfl, rfl, rfl, rfl, ?_, trivial⟩, ent.go⟩
      all_goals simp [Env.get]
      all_goals omega
    refine WP.ite rfl (fun hend => ?_) (fun hend => ?_)
    · refine WP.exit ?_; refine thn_exit ?_; refine blk_miss rfl ?_; refine thn_exit ?_; refine blk_hit ?_
      refine thn_next ⟨(i, ys), ⟨by simp only; omega, hp, hu.done (fun c c0 cn e => by omega), hlast⟩, Ko.go, ent.gc⟩
    refine Zb ?_
    have h1 : 2 * i + 1 < n := by omega
    refine Zp ?_
    refine Zm ?_
    refine Zm ?_
    refine Ze ?_
    refine WP.trim [0, 1, 2, 7, 8, 9] [0, 1] ?_
    refine WP.meetC (α := Nat) (fun j => 0 < j ∧ j < n ∧ (j - 1) / 2 = i ∧ ∀ c, 0 < c → c < n → (c - 1) / 2 = i → gd ys j ≤ gd ys c) (fun j => [(9, .int .i64 (j : Int))]) (fun _ => []) ?_ ?_
    · refine Zp ?_
      refine Zm ?_
      refine Za ?_
      refine Zm ?_
      refine Ze ?_
      have hj1 : 2 * i + 1 < ys.length := by omega
      refine WP.seqCut [(0, ifcV b), (1, .int .i64 0), (2, .int .i64 (n : Int)), (7, .int .i64 (i : Int)), (8, .int .i64 (2 * (i : Int) + 1)), (9, .int .i64 (2 * (i : Int) + 1)), (10, .int .i64 (2 * (i : Int) + 1 + 1)), (33, .bool (decide (2 * i + 2 < n ∧ gd ys (2 * i + 2) < gd ys (2 * i + 1))))] [wkB b lv dv rm sm rv.val ov, slA 3 encI rv.val ys] ?_ ?_
      · refine Zc ?_
        all_goals (first | refine Zm ?_)
        all_goals (first | refine Zm ?_)
        all_goals (first | refine Zi ?_)
        all_goals (first | refine Run.tt (by first | assumption | omega) ?_ | refine Run.ff (by first | assumption | omega) ?_ | refine Run.split (fun hc27 => ?_) (fun hc27 => ?_) | refine Run.splitB (fun hc27 => ?_) (fun hc27 => ?_) | skip)
        all_goals (first | refine Zm ?_)
        all_goals (first | refine Zv ?_ | refine Zm ?_)
        all_goals (first | refine Zv ?_ | refine Zm ?_)
        all_goals (first | refine Zv ?_ | refine Zm ?_)
        all_goals (first | refine Zv ?_ | refine Run.callMv 0 [1] ok_105 mr_less ag_132 (hLess_ok hR rv ys (2 * i + 2) (2 * i + 1) (by omega) hj1) ?_; rintro _ _ ⟨rfl, rfl⟩)
        all_goals (first | refine Zq ?_)
        all_goals (refine Run.nil ?_)
        all_goals refine thn_next ⟨⟨rfl, rfl, rfl, rfl, rfl, rfl, rfl, ?_, trivial⟩, ent.go⟩
        all_goals simp [Env.get]
        all_goals omega
      refine WP.ite rfl (fun hlt => ?_) (fun hge => ?_)
      · refine Zc ?_
        refine Zm ?_
        refine Zm ?_
        refine Run.nil ?_
        refine thn_next ⟨2 * i + 2, ⟨by omega, hlt.1, by omega, fun c c0 cn e => ?_⟩, Ko.go, ent.gc⟩
        have : c = 2 * i + 1 ∨ c = 2 * i + 2 := by omega
        rcases this with rfl | rfl
        · omega
        · exact Int.le_refl _
      · refine WP.skip ?_
        refine thn_next ⟨2 * i + 1, ⟨by omega, h1, by omega, fun c c0 cn e => ?_⟩, Ko.go, ent.gc⟩
        have : c = 2 * i + 1 ∨ c = 2 * i + 2 := by omega
        rcases this with rfl | rfl
        · exact Int.le_refl _
        · rcases Decidable.not_and_iff_or_not.1 hge with h | h <;> omega
    rintro j ⟨hj0, hjn, hji, hmin⟩
    have hjl : j < ys.length := by omega
    have hil : i < ys.length := by omega
    refine WP.trim [0, 1, 2, 7, 9] [0, 1] ?_
    refine WP.seq ?_
    refine Zp ?_
    iterate 3 refine Zm ?_
    refine Run.callMv 0 [1] ok_105 mr_less ag_132 (hLess_ok hR rv ys j i hjl hil) ?_; rintro _ _ ⟨rfl, rfl⟩
    refine Run.bnot rfl rfl rfl rfl ?_
    refine Ze ?_
    refine WP.ite rfl (fun hstop => ?_) (fun hgo => ?_)
    · refine WP.exit ?_; refine thn_exit ?_; refine blk_miss rfl ?_; refine thn_exit ?_; refine blk_hit ?_
      refine thn_next ⟨(i, ys), ⟨by simp only; omega, hp, hu.done (fun c c0 cn e => ?_), hlast⟩, Ko.go, ent.gc⟩
      have := hmin c c0 cn e
      omega
    refine Zb ?_
    refine Zp ?_
    iterate 3 refine Zm ?_
    refine Run.callMv 1 [0] ok_106 mr_swap ag_132 (hSwap_ok hR rv ys i j hil hjl) ?_; rintro _ _ rfl
    refine Ze ?_
    refine Zc ?_
    refine Zm ?_
    refine Zm ?_
    refine Run.nil ?_
    refine blk_norm ?_
    refine thn_next ⟨(j, swl ys i j), ⟨by simp only; omega, (swl_perm hil hjl).trans hp, ?_, ?_⟩, ?_, Ko.go, ent.gc⟩
    · simp only [gd_swl hil hjl]; exact hu.step hj0 hjn hji (Decidable.not_not.1 hgo) hmin
    · simp only; rw [swl_far hil hjl (by omega) (by omega)]; exact hlast
    · simp only; omega
  rintro ⟨i, ys⟩ ⟨hi, hp, hh, hlast⟩
  simp only at hi hp hh hlast ⊢
  refine Zp ?_
  refine Zm ?_
  refine Zm ?_
  refine Zi ?_
  refine Zm ?_
  refine Ze ?_
  refine WP.ret ?_
  exact retT [6] _ rfl rfl ⟨_, ent.go, ys, hp, hh, hlast, rfl⟩
/-- the heap of the ready moves, in the block of the work -/
def hpP (b : Nat) (lv dv rm sm ov : Value) (S : List Int) : HProp := exP (fun z : SV × List Int => z.2.Perm S ∧ Hp (gd z.2) z.2.length) fun z => [wkB b lv dv rm sm z.1.val ov, slA 3 encI z.1.val z.2]
theorem hpP_shut {b : Nat} {lv dv rm sm ov : Value} {S : List Int} (rv : SV) (xs : List Int) (h1 : xs.Perm S) (h2 : Hp (gd xs) xs.length) (Γ : List HProp) : ent (wkB b lv dv rm sm rv.val ov :: slA 3 encI rv.val xs :: Γ) (hpP b lv dv rm sm ov S :: Γ) :=
  exP_shut (g := fun z : SV × List Int => z.2.Perm S ∧ Hp (gd z.2) z.2.length) (Θ := fun z => [wkB b lv dv rm sm z.1.val ov, slA 3 encI z.1.val z.2]) (rv, xs) ⟨h1, h2⟩ Γ
theorem gd_snoc {xs : List Int} {x : Int} {k : Nat} (h : k < xs.length) : gd (xs ++ [x]) k = gd xs k := by
  simp [gd, List.getElem?_append_left h]
set_option maxRecDepth 100000 in
theorem hPushH_ok (hR : Heap) (b : Nat) (lv dv rm sm ov : Value) (S : List Int) (x : Int) (hl : S.length < 1000000) :
    Tri Try.prog hR 67 #[ifcV b, .iface 3 (.int .i64 x)] [hpP b lv dv rm sm ov S] fun _ Γ' => Γ' = [hpP b lv dv rm sm ov (x :: S)] := by
  refine Tri.openX 0 ?_
  rintro ⟨rv, xs⟩ ⟨hp, hh⟩
  simp only at hp hh
  have hxl := hp.length_eq
  refine Tri.ent (Tri.of (args := [ifcV b, .iface 3 (.int .i64 x)]) Try.func67 rfl Try.ntmps67 (by simp) ?_)
  refine Zp ?_
  refine Zm ?_
  refine Zm ?_
  refine Run.callMp [0, 1] ok_108 mr_push (hPush_ok hR b lv dv rm sm ov rv xs x (by omega)) ?_; rintro _ _ ⟨sv, rfl⟩
  refine Ze ?_
  have hU : UpI (gd (xs ++ [x])) (xs ++ [x]).length xs.length := by
    rw [List.length_append]
    refine UpI.start fun c c0 cn => ?_
    rw [gd_snoc cn, gd_snoc (by omega)]; exact hh c c0 cn
  refine Zc ?_
  refine Zm ?_
  refine Zm ?_
  refine Run.callMv 0 [1] ok_104 mr_len ag_132 (hLen_ok hR sv (xs ++ [x])) ?_; rintro _ _ ⟨rfl, rfl⟩
  refine Zs ?_
  refine Run.eqv (v' := .int .i64 (xs.length : Int)) (by simp) ?_; refine Run.callP [1, 0] ok_83 (hUp_ok hR b lv dv rm sm ov sv (xs ++ [x]) xs.length (by simp; omega) (by simp) hU) ?_; rintro _ _ ⟨ys, hy, hh2, rfl⟩
  refine Run.nil ?_
  refine retN [] [] rfl rfl ⟨[hpP b lv dv rm sm ov (x :: S)], ent.trans (Δ := [wkB b lv dv rm sm sv.val ov, slA 3 encI sv.val ys]) ent.go (hpP_shut sv ys (hy.trans ((List.perm_append_singleton x xs).trans (hp.cons x))) hh2 []), rfl⟩
set_option maxRecDepth 100000 in
theorem hPopH_ok (hR : Heap) (b : Nat) (lv dv rm sm ov : Value) (S : List Int) (hl : S.length ≤ 1000000) (hne : 0 < S.length) :
    Tri Try.prog hR 69 #[ifcV b] [hpP b lv dv rm sm ov S] fun v Γ' => ∃ m : Int, v = .iface 3 (.int .i64 m) ∧ m ∈ S ∧ (∀ y ∈ S, m ≤ y) ∧ Γ' = [hpP b lv dv rm sm ov (S.erase m)] := by
  refine Tri.openX 0 ?_
  rintro ⟨rv, xs⟩ ⟨hp, hh⟩
  simp only at hp hh
  have hxl := hp.length_eq
  obtain ⟨n, hn⟩ : ∃ n, n + 1 = xs.length := ⟨xs.length - 1, by omega⟩
  have h0 : 0 < xs.length := by omega
  have hnl : n < xs.length := by omega
  refine Tri.ent (Tri.of (args := [ifcV b]) Try.func69 rfl Try.ntmps69 (by simp) ?_)
  refine Zp ?_
  refine Zm ?_
  refine Ze ?_
  refine Zp ?_
  refine Zm ?_
  refine Run.callMv 0 [1] ok_104 mr_len ag_132 (hLen_ok hR rv xs) ?_; rintro _ _ ⟨rfl, rfl⟩
  refine Zs ?_
  refine Run.eqv (v' := .int .i64 (n : Int)) (by congr 1; omega) ?_
  refine Zm ?_
  refine Ze ?_
  refine WP.trim [0, 3] [1, 0] ?_
  refine Zp ?_
  refine Zm ?_
  refine Zm ?_
  refine Run.callMv 0 [1] ok_106 mr_swap ag_132 (hSwap_ok hR rv xs 0 n h0 hnl) ?_; rintro _ _ rfl
  refine Ze ?_
  refine WP.trim [0, 3] [1, 0] ?_
  have hU : DnI (gd (swl xs 0 n)) n 0 := by rw [gd_swl h0 hnl]; exact DnI.start (hn ▸ hh)
  have hlast : gd (swl xs 0 n) n = gd xs 0 := by
    rw [gd_swl h0 hnl]; unfold sw
    by_cases e : n = 0
    · simp [e]
    · simp [e]
  refine Zp ?_
  refine Zm ?_
  refine Zm ?_
  refine Run.callP [0, 1] ok_84 (hDown_ok hR b lv dv rm sm ov rv (swl xs 0 n) n (by rw [swl_len]; omega) (by rw [swl_len]; omega) hU) ?_; rintro _ _ ⟨ys, hy, hh2, hl2, rfl⟩
  refine Ze ?_
  have hyl : ys.length = n + 1 := by rw [hy.length_eq, swl_len]; omega
  have hys : ys = ys.take n ++ [gd xs 0] := by
    have e1 : ys[n]? = some (gd xs 0) := by rw [at_gd (by omega), hl2, hlast]
    have e2 : ys[n] = gd xs 0 := by rw [List.getElem?_eq_getElem (by omega)] at e1; simpa using e1
    have e3 : ys.drop n = [gd xs 0] := by rw [List.drop_eq_getElem_cons (by omega), e2, List.drop_eq_nil_of_le (by omega)]
    rw [← e3, List.take_append_drop]
  have hyp : (ys.take n ++ [gd xs 0]).Perm xs := hys ▸ (hy.trans (swl_perm h0 hnl))
  have hh3 : Hp (gd (ys.take n)) n := fun c c0 cn => by
    have e : ∀ k, k < n → gd (ys.take n) k = gd ys k := fun k hk => by simp [gd, List.getElem?_take, hk]
    rw [e c cn, e _ (by omega)]; exact hh2 c c0 cn
  have hmem : gd xs 0 ∈ S := hp.subset (List.mem_of_getElem? (at_gd h0))
  have hmin : ∀ y ∈ S, gd xs 0 ≤ y := fun y hy => by
    obtain ⟨k, hk⟩ := List.getElem?_of_mem (hp.symm.subset hy)
    have hkl := (List.getElem?_eq_some_iff.1 hk).1
    have := hh.least k hkl
    rwa [gd_at hk] at this
  generalize ys.take n = zs at hys hyp hh3
  subst hys
  have hzl : zs.length = n := by simp at hyl; exact hyl
  refine Zp ?_
  refine Zm ?_
  refine Run.callMp [0, 1] ok_107 mr_pop (hPop_ok hR b lv dv rm sm ov rv zs (gd xs 0) (by omega)) ?_; rintro _ _ ⟨sv, rfl, rfl⟩
  refine Zm ?_
  refine Ze ?_
  refine WP.ret ?_
  refine retT [2] _ rfl rfl ⟨[hpP b lv dv rm sm ov (S.erase (gd xs 0))], ent.trans (Δ := [wkB b lv dv rm sm sv.val ov, slA 3 encI sv.val zs]) ent.go (hpP_shut sv zs ?_ (by rw [hzl]; exact hh3) []), _, rfl, hmem, hmin, rfl⟩
  have h1 : (gd xs 0 :: zs).Perm S := ((List.perm_append_singleton _ zs).symm.trans hyp).trans hp
  exact (List.cons_perm_iff_perm_erase.1 h1).2
end Go.Proofs.Ytfaokbjpinlcaaa
end
section
/- What is left of moves that are marked when they are put; plain. -/
namespace Go.Proofs.Ytfaokbjpinlcaaa
set_option linter.unusedVariables false
/-- the moves that are not put -/
def curM (L : List (Mv × Bool)) : List Mv := (L.filter fun p => !p.2).map Prod.fst
theorem curM_append (A B : List (Mv × Bool)) : curM (A ++ B) = curM A ++ curM B := by simp [curM]
theorem at_split {A : Type} {L : List A} {i : Nat} {x : A} (h : L[i]? = some x) : L = L.take i ++ x :: L.drop (i + 1) := by
  obtain ⟨hlt, rfl⟩ := List.getElem?_eq_some_iff.1 h
  rw [← List.drop_eq_getElem_cons hlt, List.take_append_drop]
theorem set_split {A : Type} {L : List A} {i : Nat} {x y : A} (h : L[i]? = some x) : L.set i y = L.take i ++ y :: L.drop (i + 1) := by
  have hlt := (List.getElem?_eq_some_iff.1 h).1
  rw [List.set_eq_take_append_cons_drop, if_pos hlt]
theorem curM_split {L : List (Mv × Bool)} {i : Nat} {m : Mv} (h : L[i]? = some (m, false)) : curM L = curM (L.take i) ++ m :: curM (L.drop (i + 1)) := by
  conv => lhs; rw [at_split h]
  rw [curM_append]; simp [curM]
theorem curM_put {L : List (Mv × Bool)} {i : Nat} {m : Mv} (h : L[i]? = some (m, false)) : curM (L.set i (m, true)) = curM (L.take i) ++ curM (L.drop (i + 1)) := by
  rw [set_split h, curM_append]; simp [curM]
theorem curM_turn {L : List (Mv × Bool)} {i : Nat} {m m' : Mv} (h : L[i]? = some (m, false)) : curM (L.set i (m', false)) = curM (L.take i) ++ m' :: curM (L.drop (i + 1)) := by
  rw [set_split h, curM_append]; simp [curM]
theorem mem_curM {L : List (Mv × Bool)} {x : Mv} : x ∈ curM L ↔ ∃ i : Nat, L[i]? = some (x, false) := by
  simp only [curM, List.mem_map, List.mem_filter, Prod.exists, exists_and_right, exists_eq_right]
  constructor
  · rintro ⟨b, h1, h2⟩
    cases b with
    | false => exact List.getElem?_of_mem h1
    | true => cases h2
  · rintro ⟨i, hi⟩
    exact ⟨false, List.mem_of_getElem? hi, rfl⟩
theorem readsOf_split (a b : List Mv) (m : Mv) (p : Lc) : readsOf (a ++ m :: b) p = readsOf (a ++ b) p + (if m.from_ = p then 1 else 0) := by
  simp only [readsOf, List.countP_append, List.countP_cons, decide_eq_true_eq]
  split <;> omega
/-- what the maker of an order holds: ready: just those that are not put and whose target nobody of those reads -/
structure MvSt (temp : Lc) (l0 out : List Mv) (L : List (Mv × Bool)) (reads : Lc → Int) (ready : Nat → Prop) : Prop where
  inv : OrdInv temp l0 out (curM L)
  rd : ∀ p, p ≠ temp → reads p = readsOf (curM L) p
  rdy : ∀ i, ready i ↔ ∃ m : Mv, L[i]? = some (m, false) ∧ readsOf (curM L) m.to = 0
  tos : ∀ (i : Nat) (m : Mv) (b : Bool), L[i]? = some (m, b) → m.to ≠ temp
  one : ∀ (i j : Nat) (m m' : Mv) (b b' : Bool), L[i]? = some (m, b) → L[j]? = some (m', b') → m.to = m'.to → i = j
/-- one that is ready is put: the least one; who is ready then -/
theorem MvSt.put {temp : Lc} {l0 out : List Mv} {L : List (Mv × Bool)} {reads : Lc → Int} {ready : Nat → Prop} (h : MvSt temp l0 out L reads ready) {i : Nat} (hi : ready i) (hmin : ∀ j, ready j → i ≤ j) :
    ∃ m : Mv, L[i]? = some (m, false) ∧ MvSt temp l0 (out ++ [m]) (L.set i (m, true)) (fun p => if p = m.from_ then reads p - 1 else reads p)
      (fun j => (ready j ∧ j ≠ i) ∨ (∃ x : Mv, L[j]? = some (x, false) ∧ j ≠ i ∧ x.to = m.from_ ∧ reads m.from_ = 1)) := by
  obtain ⟨m, gm, hm⟩ := (h.rdy i).1 hi
  have hlt := (List.getElem?_eq_some_iff.1 gm).1
  refine ⟨m, gm, ?_⟩
  have hs := curM_split gm
  have hp := curM_put gm
  have hread : ∀ p, readsOf (curM L) p = readsOf (curM (L.set i (m, true))) p + (if m.from_ = p then 1 else 0) := fun p => by rw [hs, hp, readsOf_split]
  constructor
  · rw [hp]
    refine OrdInv.put (hs ▸ h.inv) (fun x hx => ?_) (hs ▸ hm)
    obtain ⟨j, hj⟩ := mem_curM.1 hx
    rw [List.getElem?_take] at hj
    split at hj
    · next hji =>
      rw [← hs]
      refine Nat.pos_of_ne_zero fun e => ?_
      have := hmin j ((h.rdy j).2 ⟨x, hj, e⟩)
      omega
    · cases hj
  · intro p hp'
    have := h.rd p hp'
    have := hread p
    by_cases e : p = m.from_
    · subst e; simp only [if_true]; simp only [if_true] at this; omega
    · rw [if_neg e]; rw [if_neg (Ne.symm e)] at this; omega
  · intro j
    constructor
    · rintro (⟨hj, hne⟩ | ⟨x, gx, hne, hx, h1⟩)
      · obtain ⟨x, gx, hx⟩ := (h.rdy j).1 hj
        refine ⟨x, by rw [List.getElem?_set_ne (Ne.symm hne)]; exact gx, ?_⟩
        have := hread x.to
        omega
      · refine ⟨x, by rw [List.getElem?_set_ne (Ne.symm hne)]; exact gx, ?_⟩
        have h2 := hread x.to
        have h3 := h.rd x.to (h.tos j x false gx)
        rw [hx, h1] at h3
        rw [hx] at h2 ⊢
        simp only [if_true] at h2
        omega
    · rintro ⟨x, gx, hx⟩
      have hne : j ≠ i := fun e => by
        subst e
        rw [List.getElem?_set_self hlt] at gx
        simp at gx
      rw [List.getElem?_set_ne (Ne.symm hne)] at gx
      have h2 := hread x.to
      by_cases e : m.from_ = x.to
      · rw [if_pos e] at h2
        have h3 := h.rd x.to (h.tos j x false gx)
        exact .inr ⟨x, gx, hne, e.symm, by rw [e]; omega⟩
      · rw [if_neg e] at h2
        exact .inl ⟨(h.rdy j).2 ⟨x, gx, by omega⟩, hne⟩
  · intro j x b hx
    by_cases e : j = i
    · subst e; rw [List.getElem?_set_self hlt] at hx
      simp at hx; rw [← hx.1]; exact h.tos j m false gm
    · rw [List.getElem?_set_ne (Ne.symm e)] at hx; exact h.tos j x b hx
  · have back : ∀ (j : Nat) (x : Mv) (b : Bool), (L.set i (m, true))[j]? = some (x, b) → ∃ b', L[j]? = some (x, b') := fun j x b hx => by
      by_cases e : j = i
      · subst e; rw [List.getElem?_set_self hlt] at hx
        simp at hx; rw [← hx.1]; exact ⟨_, gm⟩
      · rw [List.getElem?_set_ne (Ne.symm e)] at hx; exact ⟨_, hx⟩
    intro j k x y b b' hx hy he
    obtain ⟨_, hx'⟩ := back j x b hx
    obtain ⟨_, hy'⟩ := back k y b' hy
    exact h.one j k x y _ _ hx' hy' he
theorem curM_nodup {L : List (Mv × Bool)} (h : ∀ (i j : Nat) (m m' : Mv) (b b' : Bool), L[i]? = some (m, b) → L[j]? = some (m', b') → m.to = m'.to → i = j) : ((curM L).map Mv.to).Nodup := by
  induction L with
  | nil => simp [curM]
  | cons x L ih =>
    obtain ⟨m, b⟩ := x
    have ih := ih fun i j m m' b b' hi hj e => by
      have := h (i + 1) (j + 1) m m' b b' hi hj e
      omega
    cases b with
    | true => exact ih
    | false =>
      show ((m :: curM L).map Mv.to).Nodup
      rw [List.map_cons, List.nodup_cons]
      refine ⟨fun hm => ?_, ih⟩
      obtain ⟨y, hy, e⟩ := List.mem_map.1 hm
      obtain ⟨j, hj⟩ := mem_curM.1 hy
      have := h 0 (j + 1) m y false false rfl hj e.symm
      omega
/-- none is ready: the first one that is not put is read through the place apart -/
theorem MvSt.brk {temp : Lc} {l0 out : List Mv} {L : List (Mv × Bool)} {reads : Lc → Int} {ready : Nat → Prop} (h : MvSt temp l0 out L reads ready) (hno : ∀ j, ¬ ready j) {i : Nat} {m : Mv} (gm : L[i]? = some (m, false)) (hfst : ∀ (j : Nat) (x : Mv) (b : Bool), j < i → L[j]? = some (x, b) → b = true) :
    m.from_ ≠ temp ∧ MvSt temp l0 (out ++ [⟨temp, m.from_⟩]) (L.set i (⟨m.to, temp⟩, false)) (fun p => if p = m.from_ then reads p - 1 else reads p)
      (fun j => ∃ x : Mv, (L.set i (⟨m.to, temp⟩, false))[j]? = some (x, false) ∧ x.to = m.from_ ∧ reads m.from_ = 1) := by
  have hlt := (List.getElem?_eq_some_iff.1 gm).1
  have hs := curM_split gm
  have hp := curM_turn (m' := ⟨m.to, temp⟩) gm
  have hnil : curM (L.take i) = [] := by
    refine List.eq_nil_iff_forall_not_mem.2 fun x hx => ?_
    obtain ⟨j, hj⟩ := mem_curM.1 hx
    rw [List.getElem?_take] at hj
    split at hj
    · next hji => have := hfst j x false hji hj; cases this
    · cases hj
  rw [hnil, List.nil_append] at hs hp
  have hall : ∀ x ∈ curM L, 0 < readsOf (curM L) x.to := fun x hx => by
    obtain ⟨j, hj⟩ := mem_curM.1 hx
    exact Nat.pos_of_ne_zero fun e => hno j ((h.rdy j).2 ⟨x, hj, e⟩)
  have hft := stuck_from (temp := temp) (curM_nodup h.one) (fun x hx => by obtain ⟨j, hj⟩ := mem_curM.1 hx; exact h.tos j x false hj) hall
  have hne : m.from_ ≠ temp := hft m (by rw [hs]; exact List.mem_cons_self ..)
  have hread : ∀ p, p ≠ temp → readsOf (curM L) p = readsOf (curM (L.set i (⟨m.to, temp⟩, false))) p + (if m.from_ = p then 1 else 0) := fun p hpt => by
    have e1 := readsOf_split [] (curM (L.drop (i + 1))) m p
    have e2 := readsOf_split [] (curM (L.drop (i + 1))) ⟨m.to, temp⟩ p
    simp only [List.nil_append] at e1 e2
    rw [if_neg (Ne.symm hpt)] at e2
    rw [hs, hp]; omega
  have back : ∀ (j : Nat) (x : Mv) (b : Bool), (L.set i (⟨m.to, temp⟩, false))[j]? = some (x, b) → ∃ y : Mv, L[j]? = some (y, b) ∧ y.to = x.to := fun j x b hx => by
    by_cases e : j = i
    · subst e; rw [List.getElem?_set_self hlt] at hx
      simp at hx; obtain ⟨rfl, rfl⟩ := hx; exact ⟨m, gm, rfl⟩
    · rw [List.getElem?_set_ne (Ne.symm e)] at hx; exact ⟨x, hx, rfl⟩
  refine ⟨hne, ?_, fun p hpt => ?_, fun j => ⟨?_, ?_⟩, fun j x b hx => ?_, fun j k x y b b' hx hy he => ?_⟩
  · rw [hp]
    exact OrdInv.brk (hs ▸ h.inv) (hs ▸ hall)
  · have h1 := h.rd p hpt
    have h2 := hread p hpt
    by_cases e : p = m.from_
    · subst e; simp only [if_true] at h2 ⊢; omega
    · rw [if_neg e]; rw [if_neg (Ne.symm e)] at h2; omega
  · rintro ⟨x, gx, hx, h1⟩
    refine ⟨x, gx, ?_⟩
    have h2 := hread m.from_ hne
    have h3 := h.rd m.from_ hne
    simp only [if_true] at h2
    rw [hx]; omega
  · rintro ⟨x, gx, hx⟩
    obtain ⟨y, gy, hy⟩ := back j x false gx
    have hxt : x.to ≠ temp := hy ▸ h.tos j y false gy
    have h2 := hread x.to hxt
    have h3 := hall y (mem_curM.2 ⟨j, gy⟩)
    rw [hy] at h3
    by_cases e : m.from_ = x.to
    · rw [if_pos e] at h2
      have h4 := h.rd x.to hxt
      exact ⟨x, gx, e.symm, by rw [e]; omega⟩
    · rw [if_neg e] at h2; omega
  · obtain ⟨y, gy, hy⟩ := back j x b hx
    rw [← hy]; exact h.tos j y b gy
  · obtain ⟨x', gx, hx'⟩ := back j x b hx
    obtain ⟨y', gy, hy'⟩ := back k y b' hy
    exact h.one j k x' y' _ _ gx gy (by rw [hx', hy', he])
/-- at the end -/
theorem MvSt.done {temp : Lc} {l0 out : List Mv} {L : List (Mv × Bool)} {reads : Lc → Int} {ready : Nat → Prop} (h : MvSt temp l0 out L reads ready) (hall : ∀ (j : Nat) (x : Mv) (b : Bool), L[j]? = some (x, b) → b = true) : Ord temp l0 out := by
  have : curM L = [] := by
    refine List.eq_nil_iff_forall_not_mem.2 fun x hx => ?_
    obtain ⟨j, hj⟩ := mem_curM.1 hx
    have := hall j x false hj
    cases this
  exact OrdInv.done (this ▸ h.inv)
end Go.Proofs.Ytfaokbjpinlcaaa
end
