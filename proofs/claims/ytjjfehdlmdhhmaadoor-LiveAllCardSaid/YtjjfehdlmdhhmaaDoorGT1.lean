/- What the operations of the code ask of the tables of types and functions. -/
import Derived.Test.YtjjfehdlmdhhmaaDoorProg
import Derived.Test.YtjjfehdlmdhhmaaDoorGL5
import Derived.Test.YtjjfehdlmdhhmaaDoorGL7
section
/- What the operations of the code ask of the tables of types and functions. -/
namespace Go.Proofs.YtjjfehdlmdhhmaaDoor
open Go.Sep
theorem ag_130 : ag Tryd.prog 130 = some (false, 1) := by kernel_rfl
theorem ag_134 : ag Tryd.prog 134 = some (false, 1) := by kernel_rfl
theorem ag_22 : ag Tryd.prog 22 = some (false, 1) := by kernel_rfl
theorem ag_23 : ag Tryd.prog 23 = some (false, 1) := by kernel_rfl
theorem ag_25 : ag Tryd.prog 25 = some (true, 5) := by kernel_rfl
theorem ag_3 : ag Tryd.prog 3 = some (false, 1) := by kernel_rfl
theorem ag_30 : ag Tryd.prog 30 = some (false, 1) := by kernel_rfl
theorem ag_34 : ag Tryd.prog 34 = some (false, 1) := by kernel_rfl
theorem ag_4 : ag Tryd.prog 4 = some (false, 1) := by kernel_rfl
theorem ag_44 : ag Tryd.prog 44 = some (false, 1) := by kernel_rfl
theorem ag_5 : ag Tryd.prog 5 = some (false, 1) := by kernel_rfl
theorem ag_52 : ag Tryd.prog 52 = some (false, 1) := by kernel_rfl
theorem ag_54 : ag Tryd.prog 54 = some (true, 3) := by kernel_rfl
theorem ag_56 : ag Tryd.prog 56 = some (true, 4) := by kernel_rfl
theorem ag_62 : ag Tryd.prog 62 = some (true, 3) := by kernel_rfl
theorem ag_67 : ag Tryd.prog 67 = some (true, 4) := by kernel_rfl
theorem ag_70 : ag Tryd.prog 70 = some (false, 1) := by kernel_rfl
theorem ag_71 : ag Tryd.prog 71 = some (false, 1) := by kernel_rfl
theorem ag_79 : ag Tryd.prog 79 = some (false, 1) := by kernel_rfl
theorem ag_80 : ag Tryd.prog 80 = some (false, 1) := by kernel_rfl
theorem ag_84 : ag Tryd.prog 84 = some (false, 1) := by kernel_rfl
theorem ag_85 : ag Tryd.prog 85 = some (false, 1) := by kernel_rfl
theorem ag_9 : ag Tryd.prog 9 = some (false, 1) := by kernel_rfl
theorem ag_92 : ag Tryd.prog 92 = some (false, 1) := by kernel_rfl
theorem bd_25 : bdT Tryd.prog 25 = some ([.string ⟨#[]⟩, .slice none 0 0, .int .i64 0, .int .i64 0, .slice none 0 0], [(0, 1), (1, 1), (2, 1), (3, 1), (4, 1)]) := by kernel_rfl
theorem bd_36 : bdT Tryd.prog 36 = some ([.slice none 0 0, .int .i64 0], [(0, 1), (1, 1)]) := by kernel_rfl
theorem bd_38 : bdT Tryd.prog 38 = some ([.slice none 0 0, .int .i64 0], [(0, 2)]) := by kernel_rfl
theorem bd_54 : bdT Tryd.prog 54 = some ([.int .i64 0, .int .i64 0, .slice none 0 0], [(0, 1), (1, 1), (2, 1)]) := by kernel_rfl
theorem bd_56 : bdT Tryd.prog 56 = some ([.slice none 0 0, .int .i64 0, .int .i64 0, .slice none 0 0], [(0, 1), (1, 3)]) := by kernel_rfl
theorem bd_62 : bdT Tryd.prog 62 = some ([.int .i64 0, .int .i64 0, .int .i64 0], [(0, 1), (1, 1), (2, 1)]) := by kernel_rfl
theorem bd_67 : bdT Tryd.prog 67 = some ([.int .i64 0, .int .i64 0, .int .i64 0, .slice none 0 0], [(0, 1), (1, 1), (2, 1), (3, 1)]) := by kernel_rfl
theorem bd_73 : bdT Tryd.prog 73 = some ([.bool false, .slice none 0 0, .slice none 0 0, .slice none 0 0, .slice none 0 0, .slice none 0 0, .slice none 0 0, .slice none 0 0, .slice none 0 0, .slice none 0 0], [(0, 1), (1, 1), (2, 1), (3, 1), (4, 1), (5, 1), (6, 1), (7, 1), (8, 1), (9, 1)]) := by kernel_rfl
theorem bd_87 : bdT Tryd.prog 87 = some ([.pointer none, .slice none 0 0, .slice none 0 0, .slice none 0 0, .slice none 0 0], [(0, 1), (1, 1), (2, 1), (3, 1), (4, 1)]) := by kernel_rfl
theorem fo_25_0 : fldOff Tryd.prog 25 0 = some 0 := by kernel_rfl
theorem fo_25_1 : fldOff Tryd.prog 25 1 = some 1 := by kernel_rfl
theorem fo_25_2 : fldOff Tryd.prog 25 2 = some 2 := by kernel_rfl
theorem fo_25_3 : fldOff Tryd.prog 25 3 = some 3 := by kernel_rfl
theorem fo_25_4 : fldOff Tryd.prog 25 4 = some 4 := by kernel_rfl
theorem fo_36_0 : fldOff Tryd.prog 36 0 = some 0 := by kernel_rfl
theorem fo_36_1 : fldOff Tryd.prog 36 1 = some 1 := by kernel_rfl
theorem fo_38_0 : fldOff Tryd.prog 38 0 = some 0 := by kernel_rfl
theorem fo_54_0 : fldOff Tryd.prog 54 0 = some 0 := by kernel_rfl
theorem fo_54_1 : fldOff Tryd.prog 54 1 = some 1 := by kernel_rfl
theorem fo_54_2 : fldOff Tryd.prog 54 2 = some 2 := by kernel_rfl
theorem fo_56_0 : fldOff Tryd.prog 56 0 = some 0 := by kernel_rfl
theorem fo_56_1 : fldOff Tryd.prog 56 1 = some 1 := by kernel_rfl
theorem fo_62_0 : fldOff Tryd.prog 62 0 = some 0 := by kernel_rfl
theorem fo_62_1 : fldOff Tryd.prog 62 1 = some 1 := by kernel_rfl
theorem fo_62_2 : fldOff Tryd.prog 62 2 = some 2 := by kernel_rfl
theorem fo_67_0 : fldOff Tryd.prog 67 0 = some 0 := by kernel_rfl
theorem fo_67_1 : fldOff Tryd.prog 67 1 = some 1 := by kernel_rfl
theorem fo_67_2 : fldOff Tryd.prog 67 2 = some 2 := by kernel_rfl
theorem fo_67_3 : fldOff Tryd.prog 67 3 = some 3 := by kernel_rfl
theorem fo_73_0 : fldOff Tryd.prog 73 0 = some 0 := by kernel_rfl
theorem fo_73_1 : fldOff Tryd.prog 73 1 = some 1 := by kernel_rfl
theorem fo_73_2 : fldOff Tryd.prog 73 2 = some 2 := by kernel_rfl
theorem fo_73_3 : fldOff Tryd.prog 73 3 = some 3 := by kernel_rfl
theorem fo_73_4 : fldOff Tryd.prog 73 4 = some 4 := by kernel_rfl
theorem fo_73_5 : fldOff Tryd.prog 73 5 = some 5 := by kernel_rfl
theorem fo_73_6 : fldOff Tryd.prog 73 6 = some 6 := by kernel_rfl
theorem fo_73_7 : fldOff Tryd.prog 73 7 = some 7 := by kernel_rfl
theorem fo_73_8 : fldOff Tryd.prog 73 8 = some 8 := by kernel_rfl
theorem fo_73_9 : fldOff Tryd.prog 73 9 = some 9 := by kernel_rfl
theorem fo_87_0 : fldOff Tryd.prog 87 0 = some 0 := by kernel_rfl
theorem fo_87_1 : fldOff Tryd.prog 87 1 = some 1 := by kernel_rfl
theorem fo_87_2 : fldOff Tryd.prog 87 2 = some 2 := by kernel_rfl
theorem fo_87_3 : fldOff Tryd.prog 87 3 = some 3 := by kernel_rfl
theorem fo_87_4 : fldOff Tryd.prog 87 4 = some 4 := by kernel_rfl
theorem is_62 : intS Tryd.prog 62 = true := by kernel_rfl
theorem nf_62 : nfields Tryd.prog 62 = 3 := by kernel_rfl
theorem ok_10 : calleeOk Tryd.prog 10 = true := by kernel_rfl
theorem ok_103 : calleeOk Tryd.prog 103 = true := by kernel_rfl
theorem ok_11 : calleeOk Tryd.prog 11 = true := by kernel_rfl
theorem ok_110 : calleeOk Tryd.prog 110 = true := by kernel_rfl
theorem ok_12 : calleeOk Tryd.prog 12 = true := by kernel_rfl
theorem ok_13 : calleeOk Tryd.prog 13 = true := by kernel_rfl
theorem ok_14 : calleeOk Tryd.prog 14 = true := by kernel_rfl
theorem ok_16 : calleeOk Tryd.prog 16 = true := by kernel_rfl
theorem ok_17 : calleeOk Tryd.prog 17 = true := by kernel_rfl
theorem ok_18 : calleeOk Tryd.prog 18 = true := by kernel_rfl
theorem ok_19 : calleeOk Tryd.prog 19 = true := by kernel_rfl
theorem ok_21 : calleeOk Tryd.prog 21 = true := by kernel_rfl
theorem ok_26 : calleeOk Tryd.prog 26 = true := by kernel_rfl
theorem ok_27 : calleeOk Tryd.prog 27 = true := by kernel_rfl
theorem ok_28 : calleeOk Tryd.prog 28 = true := by kernel_rfl
theorem ok_29 : calleeOk Tryd.prog 29 = true := by kernel_rfl
theorem ok_30 : calleeOk Tryd.prog 30 = true := by kernel_rfl
theorem ok_31 : calleeOk Tryd.prog 31 = true := by kernel_rfl
theorem ok_32 : calleeOk Tryd.prog 32 = true := by kernel_rfl
theorem ok_33 : calleeOk Tryd.prog 33 = true := by kernel_rfl
theorem ok_34 : calleeOk Tryd.prog 34 = true := by kernel_rfl
theorem ok_35 : calleeOk Tryd.prog 35 = true := by kernel_rfl
theorem ok_36 : calleeOk Tryd.prog 36 = true := by kernel_rfl
theorem ok_37 : calleeOk Tryd.prog 37 = true := by kernel_rfl
theorem ok_38 : calleeOk Tryd.prog 38 = true := by kernel_rfl
theorem ok_39 : calleeOk Tryd.prog 39 = true := by kernel_rfl
theorem ok_40 : calleeOk Tryd.prog 40 = true := by kernel_rfl
theorem ok_41 : calleeOk Tryd.prog 41 = true := by kernel_rfl
theorem ok_42 : calleeOk Tryd.prog 42 = true := by kernel_rfl
theorem ok_44 : calleeOk Tryd.prog 44 = true := by kernel_rfl
theorem ok_46 : calleeOk Tryd.prog 46 = true := by kernel_rfl
theorem ok_47 : calleeOk Tryd.prog 47 = true := by kernel_rfl
theorem ok_48 : calleeOk Tryd.prog 48 = true := by kernel_rfl
theorem ok_49 : calleeOk Tryd.prog 49 = true := by kernel_rfl
theorem ok_50 : calleeOk Tryd.prog 50 = true := by kernel_rfl
theorem ok_51 : calleeOk Tryd.prog 51 = true := by kernel_rfl
theorem ok_52 : calleeOk Tryd.prog 52 = true := by kernel_rfl
theorem ok_53 : calleeOk Tryd.prog 53 = true := by kernel_rfl
theorem ok_54 : calleeOk Tryd.prog 54 = true := by kernel_rfl
theorem ok_55 : calleeOk Tryd.prog 55 = true := by kernel_rfl
theorem ok_56 : calleeOk Tryd.prog 56 = true := by kernel_rfl
theorem ok_57 : calleeOk Tryd.prog 57 = true := by kernel_rfl
theorem ok_58 : calleeOk Tryd.prog 58 = true := by kernel_rfl
theorem ok_59 : calleeOk Tryd.prog 59 = true := by kernel_rfl
theorem ok_60 : calleeOk Tryd.prog 60 = true := by kernel_rfl
theorem ok_61 : calleeOk Tryd.prog 61 = true := by kernel_rfl
theorem ok_62 : calleeOk Tryd.prog 62 = true := by kernel_rfl
theorem ok_63 : calleeOk Tryd.prog 63 = true := by kernel_rfl
theorem ok_64 : calleeOk Tryd.prog 64 = true := by kernel_rfl
theorem ok_65 : calleeOk Tryd.prog 65 = true := by kernel_rfl
theorem ok_66 : calleeOk Tryd.prog 66 = true := by kernel_rfl
theorem ok_67 : calleeOk Tryd.prog 67 = true := by kernel_rfl
theorem ok_68 : calleeOk Tryd.prog 68 = true := by kernel_rfl
theorem ok_70 : calleeOk Tryd.prog 70 = true := by kernel_rfl
theorem ok_71 : calleeOk Tryd.prog 71 = true := by kernel_rfl
theorem ok_72 : calleeOk Tryd.prog 72 = true := by kernel_rfl
theorem ok_73 : calleeOk Tryd.prog 73 = true := by kernel_rfl
theorem ok_74 : calleeOk Tryd.prog 74 = true := by kernel_rfl
theorem ok_75 : calleeOk Tryd.prog 75 = true := by kernel_rfl
theorem ok_76 : calleeOk Tryd.prog 76 = true := by kernel_rfl
theorem ok_77 : calleeOk Tryd.prog 77 = true := by kernel_rfl
theorem ok_78 : calleeOk Tryd.prog 78 = true := by kernel_rfl
theorem ok_81 : calleeOk Tryd.prog 81 = true := by kernel_rfl
theorem ok_82 : calleeOk Tryd.prog 82 = true := by kernel_rfl
theorem ok_83 : calleeOk Tryd.prog 83 = true := by kernel_rfl
theorem ok_84 : calleeOk Tryd.prog 84 = true := by kernel_rfl
theorem ok_85 : calleeOk Tryd.prog 85 = true := by kernel_rfl
theorem ok_86 : calleeOk Tryd.prog 86 = true := by kernel_rfl
theorem ok_89 : calleeOk Tryd.prog 89 = true := by kernel_rfl
theorem ok_9 : calleeOk Tryd.prog 9 = true := by kernel_rfl
theorem ok_90 : calleeOk Tryd.prog 90 = true := by kernel_rfl
theorem ar_144 : arT Tryd.prog 144 = some (64, 1) := by kernel_rfl
theorem sl_22 : slT Tryd.prog 22 = some (3, 1, 8) := by kernel_rfl
theorem sl_23 : slT Tryd.prog 23 = some (56, 4, 64) := by kernel_rfl
theorem sl_30 : slT Tryd.prog 30 = some (22, 1, 24) := by kernel_rfl
theorem sl_34 : slT Tryd.prog 34 = some (25, 5, 80) := by kernel_rfl
theorem sl_44 : slT Tryd.prog 44 = some (62, 3, 24) := by kernel_rfl
theorem sl_52 : slT Tryd.prog 52 = some (67, 4, 48) := by kernel_rfl
theorem sl_70 : slT Tryd.prog 70 = some (44, 1, 24) := by kernel_rfl
theorem sl_71 : slT Tryd.prog 71 = some (30, 1, 24) := by kernel_rfl
theorem sl_84 : slT Tryd.prog 84 = some (134, 1, 8) := by kernel_rfl
theorem sl_85 : slT Tryd.prog 85 = some (84, 1, 24) := by kernel_rfl
theorem sl_88 : slT Tryd.prog 88 = some (92, 1, 24) := by kernel_rfl
theorem sl_92 : slT Tryd.prog 92 = some (4, 1, 1) := by kernel_rfl
theorem sl_97 : slT Tryd.prog 97 = some (62, 3, 24) := by kernel_rfl
theorem zr_130 : zr Tryd.prog 130 = some (.nilFunc) := by kernel_rfl
theorem zr_134 : zr Tryd.prog 134 = some (.int .u64 0) := by kernel_rfl
theorem zr_22 : zr Tryd.prog 22 = some (.slice none 0 0) := by kernel_rfl
theorem zr_25 : zr Tryd.prog 25 = some (.agg #[.string ⟨#[]⟩, .slice none 0 0, .int .i64 0, .int .i64 0, .slice none 0 0]) := by kernel_rfl
theorem zr_3 : zr Tryd.prog 3 = some (.int .i64 0) := by kernel_rfl
theorem zr_30 : zr Tryd.prog 30 = some (.slice none 0 0) := by kernel_rfl
theorem zr_4 : zr Tryd.prog 4 = some (.bool false) := by kernel_rfl
theorem zr_44 : zr Tryd.prog 44 = some (.slice none 0 0) := by kernel_rfl
theorem zr_56 : zr Tryd.prog 56 = some (.agg #[.slice none 0 0, .int .i64 0, .int .i64 0, .slice none 0 0]) := by kernel_rfl
theorem zr_62 : zr Tryd.prog 62 = some (.agg #[.int .i64 0, .int .i64 0, .int .i64 0]) := by kernel_rfl
theorem zr_67 : zr Tryd.prog 67 = some (.agg #[.int .i64 0, .int .i64 0, .int .i64 0, .slice none 0 0]) := by kernel_rfl
theorem zr_84 : zr Tryd.prog 84 = some (.slice none 0 0) := by kernel_rfl
theorem zr_92 : zr Tryd.prog 92 = some (.slice none 0 0) := by kernel_rfl
theorem mixed : Tryd.prog.follows .mixedOrders = true := by kernel_rfl
end Go.Proofs.YtjjfehdlmdhhmaaDoor
end
section
/- Functions of LIR as they are read; what operations there are; registers. -/
namespace Go.Proofs.YtjjfehdlmdhhmaaDoor
open Go.Sep
set_option linter.unusedSimpArgs false
set_option linter.unusedVariables false
attribute [local irreducible] blk slA mp mpF rows rowsBut many
structure LIns where
  op : Int
  dst : Int
  imm : Int
  args : List Int
structure LBlk where
  body : List LIns
  kind : Int
  value : Int
  to : List Int
structure LFun where
  name : ByteArray
  params : List Int
  regs : Int
  res : Int
  blocks : List LBlk
abbrev rdI : Rd Int := (Enc.int .i64).rd
def rdIns : Rd LIns where
  sz := 4
  rel h x cs := ∃ u, cs = [.int .i64 x.op, .int .i64 x.dst, .int .i64 x.imm, u] ∧ SlR rdI h u x.args
  len := by rintro h x cs ⟨u, rfl, _⟩; rfl
  mono := by rintro h g x cs hs ⟨u, rfl, hu⟩; exact ⟨u, rfl, hu.mono hs⟩
def rdBlk : Rd LBlk where
  sz := 4
  rel h x cs := ∃ u v, cs = [u, .int .i64 x.kind, .int .i64 x.value, v] ∧ SlR rdIns h u x.body ∧ SlR rdI h v x.to
  len := by rintro h x cs ⟨u, v, rfl, _⟩; rfl
  mono := by rintro h g x cs hs ⟨u, v, rfl, hu, hv⟩; exact ⟨u, v, rfl, hu.mono hs, hv.mono hs⟩
def rdFun : Rd LFun where
  sz := 5
  rel h x cs := ∃ u v, cs = [.string x.name, u, .int .i64 x.regs, .int .i64 x.res, v] ∧ SlR rdI h u x.params ∧ SlR rdBlk h v x.blocks
  len := by rintro h x cs ⟨u, v, rfl, _⟩; rfl
  mono := by rintro h g x cs hs ⟨u, v, rfl, hu, hv⟩; exact ⟨u, v, rfl, hu.mono hs, hv.mono hs⟩
/-- a function of LIR at an address -/
structure FunAt (h : Heap) (p : Addr) (F : LFun) (u v : Value) : Prop where
  c0 : cellH h (p.add 0) (.string F.name)
  c1 : cellH h (p.add 1) u
  c2 : cellH h (p.add 2) (.int .i64 F.regs)
  c3 : cellH h (p.add 3) (.int .i64 F.res)
  c4 : cellH h (p.add 4) v
  hu : SlR rdI h u F.params
  hv : SlR rdBlk h v F.blocks
  sp : F.params.length ≤ 1000000
  sb : F.blocks.length ≤ 1000000
def regB (F : LFun) (r : Int) : Bool := decide (0 ≤ r ∧ r < F.regs)
theorem register_ok (hR : Heap) (p : Addr) (F : LFun) (u v : Value) (r : Int) (hF : FunAt hR p F u v) :
    Tri Tryd.prog hR 59 #[.pointer (some p), .int .i64 r] [] fun x Γ' => x = .bool (regB F r) ∧ Γ' = [] := by
  refine Tri.of (args := [.pointer (some p), .int .i64 r]) Tryd.func59 rfl Tryd.ntmps59 (by simp) ?_
  have c2 := hF.c2
  refine Zp ?_
  refine Zm ?_
  refine Ze ?_
  refine WP.seqCut [(4, .bool (regB F r))] [] ?_ ?_
  · refine Zc ?_
    all_goals (first | refine Zm ?_)
    all_goals (first | refine Zi ?_)
    all_goals (first | refine Run.tt (by first | assumption | omega) ?_ | refine Run.ff (by first | assumption | omega) ?_ | refine Run.split (fun hc6 => ?_) (fun hc6 => ?_) | refine Run.splitB (fun hc6 => ?_) (fun hc6 => ?_) | skip)
    all_goals (first | refine Zm ?_)
    all_goals (first | refine Zv ?_ | refine Zm ?_)
    all_goals (first | refine Zv ?_ | refine Zm ?_)
    all_goals (first | refine Zv ?_ | refine Zn ?_)
    all_goals (first | refine Zv ?_ | refine Zf fo_25_2 ?_)
    all_goals (first | refine Zv ?_ | refine Run.loadR rfl rfl ag_3 rfl rfl (by first | assumption | exact SlR.cell0 (by assumption) (by assumption) rfl | exact SlR.cell (by assumption) (by assumption) rfl) ?_)
    all_goals (first | refine Zv ?_ | refine Zi ?_)
    all_goals (first | refine Zq ?_)
    all_goals (first | refine Zm ?_)
    all_goals (refine Run.nil ?_)
    all_goals refine thn_next ⟨⟨?_, trivial⟩, ent.refl _⟩
    all_goals simp [Env.get, regB, *]
  refine WP.ret ?_
  exact retT [4] _ rfl rfl ⟨rfl, rfl⟩
/-- how many operands, and is a register set? (-1: no operation) -/
def opsL (x : Int) : Int × Bool :=
  if x = 24 then (0, true)
  else if x = 17 ∨ x = 18 ∨ x = 19 ∨ x = 20 ∨ x = 23 ∨ x = 31 then (1, true)
  else if x = 26 ∨ x = 27 ∨ x = 28 ∨ x = 29 then (1, false)
  else if x = 30 then (2, false)
  else if x = 21 then (2, true)
  else if x = 22 then (3, false)
  else if 2 ≤ x ∧ x ≤ 16 then (2, true)
  else (-1, false)
set_option maxRecDepth 100000 in
theorem operands_ok (hR : Heap) (x : Int) : Tri Tryd.prog hR 78 #[.int .i64 x] [] fun u Γ' => u = .tuple #[.int .i64 (opsL x).1, .bool (opsL x).2] ∧ Γ' = [] := by
  refine Tri.of (args := [.int .i64 x]) Tryd.func78 rfl Tryd.ntmps78 (by simp) ?_
  refine Zp ?_
  refine Zm ?_
  refine Zm ?_
  refine Ze ?_
  refine WP.seqMeet (α := Unit) (fun _ => x ≠ 24 ∧ ¬ (x = 17 ∨ x = 18 ∨ x = 19 ∨ x = 20 ∨ x = 23 ∨ x = 31) ∧ ¬ (x = 26 ∨ x = 27 ∨ x = 28 ∨ x = 29) ∧ x ≠ 30 ∧ x ≠ 21 ∧ x ≠ 22) (fun _ => [(0, .int .i64 x)]) (fun _ => []) ?_ ?_
  · refine Zp ?_
    refine Zm ?_
    refine Ze ?_
    refine WP.block ?_
    refine Zp ?_
    refine Zi ?_
    refine Zm ?_
    refine Ze ?_
    refine WP.ite rfl (fun h24 => ?_) (fun h24 => ?_)
    · refine Zp ?_
      refine Zm ?_
      refine Zm ?_
      refine Ze ?_
      refine WP.ret ?_; refine blk_ret ?_; refine thn_ret ?_
      exact retT [2, 3] _ rfl rfl ⟨by simp [opsL, tupV, *], rfl⟩
    refine WP.seqCut [(0, .int .i64 x), (4, .int .i64 x), (7, .bool (decide (x = 17 ∨ x = 18 ∨ x = 19 ∨ x = 20 ∨ x = 23 ∨ x = 31)))] [] ?_ ?_
    · refine Zp ?_
      refine Zi ?_
      refine Zm ?_
      refine Ze ?_
      refine WP.ite rfl (fun h17 => ?_) (fun h17 => ?_)
      · refine WP.skip ?_
        refine thn_next ⟨⟨rfl, rfl, ?_, trivial⟩, ent.refl _⟩
        simp [Env.get, *]
      · skip
        refine Zp ?_
        refine Zi ?_
        refine Zm ?_
        refine Ze ?_
        refine WP.ite rfl (fun h18 => ?_) (fun h18 => ?_)
        · refine WP.skip ?_
          refine thn_next ⟨⟨rfl, rfl, ?_, trivial⟩, ent.refl _⟩
          simp [Env.get, *]
        · skip
          refine Zp ?_
          refine Zi ?_
          refine Zm ?_
          refine Ze ?_
          refine WP.ite rfl (fun h19 => ?_) (fun h19 => ?_)
          · refine WP.skip ?_
            refine thn_next ⟨⟨rfl, rfl, ?_, trivial⟩, ent.refl _⟩
            simp [Env.get, *]
          · skip
            refine Zp ?_
            refine Zi ?_
            refine Zm ?_
            refine Ze ?_
            refine WP.ite rfl (fun h20 => ?_) (fun h20 => ?_)
            · refine WP.skip ?_
              refine thn_next ⟨⟨rfl, rfl, ?_, trivial⟩, ent.refl _⟩
              simp [Env.get, *]
            · skip
              refine Zp ?_
              refine Zi ?_
              refine Zm ?_
              refine Ze ?_
              refine WP.ite rfl (fun h23 => ?_) (fun h23 => ?_)
              · refine WP.skip ?_
                refine thn_next ⟨⟨rfl, rfl, ?_, trivial⟩, ent.refl _⟩
                simp [Env.get, *]
              · skip
                refine Zc ?_
                refine Zi ?_
                refine Zm ?_
                refine Run.nil ?_
                refine thn_next ⟨⟨rfl, rfl, ?_, trivial⟩, ent.refl _⟩
                simp [Env.get, *]
    refine WP.ite rfl (fun hA => ?_) (fun hA => ?_)
    · refine Zp ?_
      refine Zm ?_
      refine Zm ?_
      refine Ze ?_
      refine WP.ret ?_; refine blk_ret ?_; refine thn_ret ?_
      exact retT [2, 3] _ rfl rfl ⟨by simp [opsL, tupV, *], rfl⟩
    refine WP.seqCut [(0, .int .i64 x), (4, .int .i64 x), (14, .bool (decide (x = 26 ∨ x = 27 ∨ x = 28 ∨ x = 29)))] [] ?_ ?_
    · refine Zp ?_
      refine Zi ?_
      refine Zm ?_
      refine Ze ?_
      refine WP.ite rfl (fun h26 => ?_) (fun h26 => ?_)
      · refine WP.skip ?_
        refine thn_next ⟨⟨rfl, rfl, ?_, trivial⟩, ent.refl _⟩
        simp [Env.get, *]
      · skip
        refine Zp ?_
        refine Zi ?_
        refine Zm ?_
        refine Ze ?_
        refine WP.ite rfl (fun h27 => ?_) (fun h27 => ?_)
        · refine WP.skip ?_
          refine thn_next ⟨⟨rfl, rfl, ?_, trivial⟩, ent.refl _⟩
          simp [Env.get, *]
        · skip
          refine Zp ?_
          refine Zi ?_
          refine Zm ?_
          refine Ze ?_
          refine WP.ite rfl (fun h28 => ?_) (fun h28 => ?_)
          · refine WP.skip ?_
            refine thn_next ⟨⟨rfl, rfl, ?_, trivial⟩, ent.refl _⟩
            simp [Env.get, *]
          · skip
            refine Zc ?_
            refine Zi ?_
            refine Zm ?_
            refine Run.nil ?_
            refine thn_next ⟨⟨rfl, rfl, ?_, trivial⟩, ent.refl _⟩
            simp [Env.get, *]
    refine WP.ite rfl (fun hB => ?_) (fun hB => ?_)
    · refine Zp ?_
      refine Zm ?_
      refine Zm ?_
      refine Ze ?_
      refine WP.ret ?_; refine blk_ret ?_; refine thn_ret ?_
      exact retT [2, 3] _ rfl rfl ⟨by simp [opsL, tupV, *], rfl⟩
    refine Zp ?_
    refine Zi ?_
    refine Zm ?_
    refine Ze ?_
    refine WP.ite rfl (fun h30 => ?_) (fun h30 => ?_)
    · refine Zp ?_
      refine Zm ?_
      refine Zm ?_
      refine Ze ?_
      refine WP.ret ?_; refine blk_ret ?_; refine thn_ret ?_
      exact retT [2, 3] _ rfl rfl ⟨by simp [opsL, tupV, *], rfl⟩
    refine Zp ?_
    refine Zi ?_
    refine Zm ?_
    refine Ze ?_
    refine WP.ite rfl (fun h21 => ?_) (fun h21 => ?_)
    · refine Zp ?_
      refine Zm ?_
      refine Zm ?_
      refine Ze ?_
      refine WP.ret ?_; refine blk_ret ?_; refine thn_ret ?_
      exact retT [2, 3] _ rfl rfl ⟨by simp [opsL, tupV, *], rfl⟩
    refine Zp ?_
    refine Zi ?_
    refine Zm ?_
    refine Ze ?_
    refine WP.ite rfl (fun h22 => ?_) (fun h22 => ?_)
    · refine Zp ?_
      refine Zm ?_
      refine Zm ?_
      refine Ze ?_
      refine WP.ret ?_; refine blk_ret ?_; refine thn_ret ?_
      exact retT [2, 3] _ rfl rfl ⟨by simp [opsL, tupV, *], rfl⟩
    refine WP.skip ?_; refine blk_norm ?_
    exact thn_next ⟨(), ⟨h24, hA, hB, h30, h21, h22⟩, ⟨rfl, trivial⟩, ent.refl _⟩
  rintro _ ⟨h24, hA, hB, h30, h21, h22⟩
  refine WP.seq ?_
  refine WP.seqCut [(0, .int .i64 x), (30, .bool (decide (2 ≤ x ∧ x ≤ 16)))] [] ?_ ?_
  · refine Zc ?_
    all_goals (first | refine Zm ?_)
    all_goals (first | refine Zi ?_)
    all_goals (first | refine Run.tt (by first | assumption | omega) ?_ | refine Run.ff (by first | assumption | omega) ?_ | refine Run.split (fun hc26 => ?_) (fun hc26 => ?_) | refine Run.splitB (fun hc26 => ?_) (fun hc26 => ?_) | skip)
    all_goals (first | refine Zm ?_)
    all_goals (first | refine Zv ?_ | refine Zm ?_)
    all_goals (first | refine Zv ?_ | refine Zi ?_)
    all_goals (first | refine Zq ?_)
    all_goals (refine Run.nil ?_)
    all_goals refine thn_next ⟨⟨rfl, ?_, trivial⟩, ent.refl _⟩
    all_goals simp [Env.get, *]
  refine WP.ite rfl (fun hC => ?_) (fun hC => ?_)
  · refine Zp ?_
    refine Zm ?_
    refine Zm ?_
    refine Ze ?_
    refine WP.ret ?_; refine thn_ret ?_
    exact retT [2, 3] _ rfl rfl ⟨by simp [opsL, tupV, *], rfl⟩
  refine Zb ?_
  refine Zp ?_
  refine Zm ?_
  refine Zm ?_
  refine Ze ?_
  refine WP.ret ?_
  exact retT [2, 3] _ rfl rfl ⟨by simp [opsL, tupV, *], rfl⟩
end Go.Proofs.YtjjfehdlmdhhmaaDoor
end
section
/- Is an instruction formed? Walked. -/
namespace Go.Proofs.YtjjfehdlmdhhmaaDoor
open Go.Sep
set_option linter.unusedSimpArgs false
set_option linter.unusedVariables false
attribute [local irreducible] blk slA mp mpF rows rowsBut many
theorem all_of {A : Type} {xs : List A} {p : A → Bool} (h : ∀ k y, k < xs.length → xs[k]? = some y → p y = true) : xs.all p = true :=
  List.all_eq_true.2 fun y hy => by obtain ⟨k, hk⟩ := List.getElem?_of_mem hy; exact h k y (List.getElem?_eq_some_iff.1 hk).1 hk
theorem all_not {A : Type} {xs : List A} {p : A → Bool} {k : Nat} {y : A} (h : xs[k]? = some y) (hp : p y = false) : xs.all p = false := by
  cases hx : xs.all p with
  | false => rfl
  | true => have := List.all_eq_true.1 hx y (List.mem_of_getElem? h); rw [hp] at this; cases this
/-- all but the registers of the operands -/
def insR (F : LFun) (x : LIns) : Bool :=
  if x.op = 1 then decide (x.args.length = 0) && regB F x.dst
  else if x.op = 25 then decide (0 ≤ x.imm ∧ x.args.length ≤ 8) && (decide (x.dst = -1) || regB F x.dst)
  else if x.op = 28 ∨ x.op = 29 ∨ x.op = 30 then decide ((x.args.length : Int) = (opsL x.op).1 ∧ x.dst = -1 ∧ 1 ≤ x.imm ∧ x.imm ≤ 5)
  else if (opsL x.op).1 < 0 ∨ (x.args.length : Int) ≠ (opsL x.op).1 ∨ x.imm ≠ 0 then false
  else if (opsL x.op).2 = true then regB F x.dst else decide (x.dst = -1)
def insB (F : LFun) (x : LIns) : Bool := x.args.all (regB F) && insR F x
set_option maxRecDepth 100000 in
theorem formedIns_ok (hR : Heap) (p : Addr) (F : LFun) (u v : Value) (x : LIns) (a : Value) (hF : FunAt hR p F u v) (ha : SlR rdI hR a x.args) (hl : x.args.length ≤ 1000000) :
    Tri Tryd.prog hR 60 #[.pointer (some p), .agg ⟨[.int .i64 x.op, .int .i64 x.dst, .int .i64 x.imm, a]⟩] [] fun r Γ' => r = .bool (insB F x) ∧ Γ' = [] := by
  refine Tri.of (args := [.pointer (some p), .agg ⟨[.int .i64 x.op, .int .i64 x.dst, .int .i64 x.imm, a]⟩]) Tryd.func60 rfl Tryd.ntmps60 (by simp) ?_
  refine Zp ?_
  refine Run.box rfl rfl rfl rfl rfl ?_
  intro b3
  refine Zm ?_
  refine Ze ?_
  refine WP.via (Γ' := [blk b3 [.int .i64 x.op, .int .i64 x.dst, .int .i64 x.imm, a] 67]) (ent.refl _) ?_
  refine WP.seqMeet (α := Unit) (fun _ => x.args.all (regB F) = true) (fun _ => [(0, .pointer (some p)), (3, .pointer (some ⟨b3, 0, none⟩))]) (fun _ => [blk b3 [.int .i64 x.op, .int .i64 x.dst, .int .i64 x.imm, a] 67]) ?_ ?_
  · refine Zp ?_
    refine Zf fo_67_3 ?_
    refine Zl 0 ag_22 ?_
    refine Run.lenR rfl rfl sl_22 rfl rfl (by assumption) ?_
    refine Zm ?_
    refine Ze ?_
    refine WP.block ?_
    refine WP.loop (α := Nat) (fun i => i ≤ x.args.length ∧ ∀ k y, k < i → x.args[k]? = some y → regB F y = true) (fun i => [(0, .pointer (some p)), (3, .pointer (some ⟨b3, 0, none⟩)), (10, a), (11, .int .i64 (x.args.length : Int)), (12, .int .i64 (i : Int))])
      (fun _ => [blk b3 [.int .i64 x.op, .int .i64 x.dst, .int .i64 x.imm, a] 67]) (fun i => x.args.length - i) 0 ⟨Nat.zero_le _, fun k y h => by omega⟩ ⟨rfl, rfl, rfl, rfl, rfl, trivial⟩ (ent.refl _) ?_
    rintro i ⟨hi, hk⟩
    refine Zp ?_
    refine Zi ?_
    refine Ze ?_
    refine WP.seq ?_
    refine WP.ite rfl (fun hlt => ?_) (fun hge => ?_)
    · refine Zb ?_
      obtain ⟨y, gy⟩ : ∃ y, x.args[(i : Int).toNat]? = some y := ⟨_, List.getElem?_eq_getElem (by omega)⟩
      have gy' : x.args[i]? = some y := gy
      refine WP.seq ?_
      refine WP.block ?_
      refine Zp ?_
      refine Zx sl_22 ha ?_
      refine Zr ag_3 (SlR.cell0 ha gy rfl) ?_
      refine Zm ?_
      refine Ze ?_
      refine Zp ?_
      refine Zm ?_
      refine Zm ?_
      refine Run.call (Δ := []) (Θ := [blk b3 [.int .i64 x.op, .int .i64 x.dst, .int .i64 x.imm, a] 67]) rfl rfl rfl rfl ok_59 rfl rfl (ent.refl _) (register_ok hR p F u v y hF) ?_; rintro _ _ ⟨rfl, rfl⟩
      refine Run.bnot rfl rfl rfl rfl ?_
      refine Ze ?_
      refine WP.ite rfl (fun hy => ?_) (fun hy => ?_)
      · refine Zp ?_
        refine Zm ?_
        refine Ze ?_
        refine WP.via (Γ' := []) (pick_only [] _) ?_
        refine WP.ret ?_; refine blk_ret ?_; refine thn_ret ?_; refine thn_ret ?_; refine blk_ret ?_; refine thn_ret ?_
        exact retT [4] _ rfl rfl ⟨by unfold insB; rw [all_not gy' (decide_eq_false hy)]; rfl, rfl⟩
      · refine WP.skip ?_; refine blk_norm ?_; refine thn_next ?_
        refine Zc ?_
        refine Za ?_
        refine Zm ?_
        refine Run.nil ?_
        refine thn_next ⟨i + 1, ⟨by omega, fun k z h1 h2 => ?_⟩, by omega, ⟨rfl, rfl, rfl, rfl, rfl, trivial⟩, ent.refl _⟩
        by_cases e : k = i
        · subst e; rw [gy'] at h2; cases h2; exact decide_eq_true (Decidable.not_not.1 hy)
        · exact hk k z (by omega) h2
    · refine Zj ?_
      refine thn_next ⟨(), all_of fun k y h1 h2 => hk k y (by omega) h2, ⟨rfl, rfl, trivial⟩, ent.refl _⟩
  rintro _ hall
  refine Zp ?_
  refine Zf fo_67_0 ?_
  refine Zl 0 ag_3 ?_
  refine Run.call (Δ := []) (Θ := [blk b3 [.int .i64 x.op, .int .i64 x.dst, .int .i64 x.imm, a] 67]) rfl rfl rfl rfl ok_78 rfl rfl (ent.refl _) (operands_ok hR x.op) ?_; rintro _ _ ⟨rfl, rfl⟩
  refine Zm ?_
  refine Run.extract rfl rfl rfl rfl rfl ?_
  refine Run.extract rfl rfl rfl rfl rfl ?_
  refine Zm ?_
  refine Zm ?_
  refine Ze ?_
  have eR : insB F x = insR F x := by unfold insB; rw [hall]; rfl
  have hal : (x.args.length : Int) ≤ 1000000 := by omega
  refine WP.seqMeet (α := Unit) (fun _ => x.op ≠ 1 ∧ x.op ≠ 25 ∧ ¬ (x.op = 28 ∨ x.op = 29 ∨ x.op = 30)) (fun _ => [(0, .pointer (some p)), (3, .pointer (some ⟨b3, 0, none⟩)), (7, .int .i64 (opsL x.op).1), (8, .bool (opsL x.op).2)]) (fun _ => [blk b3 [.int .i64 x.op, .int .i64 x.dst, .int .i64 x.imm, a] 67]) ?_ ?_
  · refine Zp ?_
    refine Zf fo_67_0 ?_
    refine Zl 0 ag_3 ?_
    refine Ze ?_
    refine WP.block ?_
    refine Zp ?_
    refine Zi ?_
    refine Zm ?_
    refine Ze ?_
    refine WP.ite rfl (fun h1 => ?_) (fun h1 => ?_)
    · refine WP.seqCut [(4, .bool (insB F x))] [] ?_ ?_
      · refine Zc ?_
        all_goals (first | refine Zf fo_67_3 ?_)
        all_goals (first | refine Zl 0 ag_22 ?_)
        all_goals (first | refine Run.lenR rfl rfl sl_22 rfl rfl (by assumption) ?_)
        all_goals (first | refine Zi ?_)
        all_goals (first | refine Run.tt (by first | assumption | omega) ?_ | refine Run.ff (by first | assumption | omega) ?_ | refine Run.split (fun hc34 => ?_) (fun hc34 => ?_) | refine Run.splitB (fun hc34 => ?_) (fun hc34 => ?_) | skip)
        all_goals (first | refine Zm ?_)
        all_goals (first | refine Zv ?_ | refine Zm ?_)
        all_goals (first | refine Zv ?_ | refine Zf fo_67_1 ?_)
        all_goals (first | refine Zv ?_ | refine Zl 0 ag_3 ?_)
        all_goals (first | refine Zv ?_ | refine Run.call (Δ := []) (Θ := [blk b3 [.int .i64 x.op, .int .i64 x.dst, .int .i64 x.imm, a] 67]) rfl rfl rfl rfl ok_59 rfl rfl (ent.refl _) (register_ok hR p F u v x.dst hF) ?_; rintro _ _ ⟨rfl, rfl⟩)
        all_goals (first | refine Zq ?_)
        all_goals (first | refine Zm ?_)
        all_goals (refine Run.nil ?_)
        all_goals refine thn_next ⟨⟨?_, trivial⟩, pick_only [] _⟩
        all_goals simp [Env.get, eR, insR, *]
        · exact fun _ => List.length_eq_zero_iff.1 (by omega)
        · exact fun e => absurd (by simp [e]) hc34
      refine WP.ret ?_; refine blk_ret ?_; refine thn_ret ?_
      exact retT [4] _ rfl rfl ⟨rfl, rfl⟩
    refine Zp ?_
    refine Zi ?_
    refine Zm ?_
    refine Ze ?_
    refine WP.ite rfl (fun h25 => ?_) (fun h25 => ?_)
    · refine WP.seqCut [(4, .bool (insB F x))] [] ?_ ?_
      · refine Zc ?_
        all_goals (first | refine Zf fo_67_2 ?_)
        all_goals (first | refine Zl 0 ag_3 ?_)
        all_goals (first | refine Zi ?_)
        all_goals (first | refine Run.tt (by first | assumption | omega) ?_ | refine Run.ff (by first | assumption | omega) ?_ | refine Run.split (fun hc45 => ?_) (fun hc45 => ?_) | refine Run.splitB (fun hc45 => ?_) (fun hc45 => ?_) | skip)
        all_goals (first | refine Zm ?_)
        all_goals (first | refine Zv ?_ | refine Zf fo_67_3 ?_)
        all_goals (first | refine Zv ?_ | refine Zl 0 ag_22 ?_)
        all_goals (first | refine Zv ?_ | refine Run.lenR rfl rfl sl_22 rfl rfl (by assumption) ?_)
        all_goals (first | refine Zv ?_ | refine Zi ?_)
        all_goals (first | refine Run.tt (by first | assumption | omega) ?_ | refine Run.ff (by first | assumption | omega) ?_ | refine Run.split (fun hc50 => ?_) (fun hc50 => ?_) | refine Run.splitB (fun hc50 => ?_) (fun hc50 => ?_) | skip)
        all_goals (first | refine Zq ?_)
        all_goals (first | refine Zm ?_)
        all_goals (first | refine Zv ?_ | refine Zf fo_67_1 ?_)
        all_goals (first | refine Zv ?_ | refine Zl 0 ag_3 ?_)
        all_goals (first | refine Zv ?_ | refine Zi ?_)
        all_goals (first | refine Run.tt (by first | assumption | omega) ?_ | refine Run.ff (by first | assumption | omega) ?_ | refine Run.split (fun hc55 => ?_) (fun hc55 => ?_) | refine Run.splitB (fun hc55 => ?_) (fun hc55 => ?_) | skip)
        all_goals (first | refine Zv ?_ | refine Zm ?_)
        all_goals (first | refine Zv ?_ | refine Zm ?_)
        all_goals (first | refine Zv ?_ | refine Zf fo_67_1 ?_)
        all_goals (first | refine Zv ?_ | refine Zl 0 ag_3 ?_)
        all_goals (first | refine Zv ?_ | refine Run.call (Δ := []) (Θ := [blk b3 [.int .i64 x.op, .int .i64 x.dst, .int .i64 x.imm, a] 67]) rfl rfl rfl rfl ok_59 rfl rfl (ent.refl _) (register_ok hR p F u v x.dst hF) ?_; rintro _ _ ⟨rfl, rfl⟩)
        all_goals (first | refine Zv ?_ | refine Zq ?_)
        all_goals (first | refine Zq ?_)
        all_goals (first | refine Zm ?_)
        all_goals (refine Run.nil ?_)
        all_goals refine thn_next ⟨⟨?_, trivial⟩, pick_only [] _⟩
        all_goals simp [Env.get, eR, insR, *]
        all_goals (intros; omega)
      refine WP.ret ?_; refine blk_ret ?_; refine thn_ret ?_
      exact retT [4] _ rfl rfl ⟨rfl, rfl⟩
    refine WP.seqCut [(0, .pointer (some p)), (3, .pointer (some ⟨b3, 0, none⟩)), (7, .int .i64 (opsL x.op).1), (8, .bool (opsL x.op).2), (63, .bool (decide (x.op = 28 ∨ x.op = 29 ∨ x.op = 30)))] [blk b3 [.int .i64 x.op, .int .i64 x.dst, .int .i64 x.imm, a] 67] ?_ ?_
    · refine Zp ?_
      refine Zi ?_
      refine Zm ?_
      refine Ze ?_
      refine WP.ite rfl (fun h28 => ?_) (fun h28 => ?_)
      · refine WP.skip ?_; refine thn_next ⟨⟨rfl, rfl, rfl, rfl, ?_, trivial⟩, ent.refl _⟩
        simp [Env.get, *]
      refine Zp ?_
      refine Zi ?_
      refine Zm ?_
      refine Ze ?_
      refine WP.ite rfl (fun h29 => ?_) (fun h29 => ?_)
      · refine WP.skip ?_; refine thn_next ⟨⟨rfl, rfl, rfl, rfl, ?_, trivial⟩, ent.refl _⟩
        simp [Env.get, *]
      refine Zc ?_
      refine Zi ?_
      refine Zm ?_
      refine Run.nil ?_
      refine thn_next ⟨⟨rfl, rfl, rfl, rfl, ?_, trivial⟩, ent.refl _⟩
      simp [Env.get, *]
    refine WP.ite rfl (fun hT => ?_) (fun hT => ?_)
    · refine WP.seqCut [(4, .bool (insB F x))] [] ?_ ?_
      · refine Zc ?_
        all_goals (first | refine Zf fo_67_3 ?_)
        all_goals (first | refine Zl 0 ag_22 ?_)
        all_goals (first | refine Run.lenR rfl rfl sl_22 rfl rfl (by assumption) ?_)
        all_goals (first | refine Zm ?_)
        all_goals (first | refine Zi ?_)
        all_goals (first | refine Run.tt (by first | assumption | omega) ?_ | refine Run.ff (by first | assumption | omega) ?_ | refine Run.split (fun hc71 => ?_) (fun hc71 => ?_) | refine Run.splitB (fun hc71 => ?_) (fun hc71 => ?_) | skip)
        all_goals (first | refine Zm ?_)
        all_goals (first | refine Zv ?_ | refine Zf fo_67_1 ?_)
        all_goals (first | refine Zv ?_ | refine Zl 0 ag_3 ?_)
        all_goals (first | refine Zv ?_ | refine Zi ?_)
        all_goals (first | refine Run.tt (by first | assumption | omega) ?_ | refine Run.ff (by first | assumption | omega) ?_ | refine Run.split (fun hc75 => ?_) (fun hc75 => ?_) | refine Run.splitB (fun hc75 => ?_) (fun hc75 => ?_) | skip)
        all_goals (first | refine Zq ?_)
        all_goals (first | refine Zm ?_)
        all_goals (first | refine Zv ?_ | refine Zf fo_67_2 ?_)
        all_goals (first | refine Zv ?_ | refine Zl 0 ag_3 ?_)
        all_goals (first | refine Zv ?_ | refine Zi ?_)
        all_goals (first | refine Run.tt (by first | assumption | omega) ?_ | refine Run.ff (by first | assumption | omega) ?_ | refine Run.split (fun hc80 => ?_) (fun hc80 => ?_) | refine Run.splitB (fun hc80 => ?_) (fun hc80 => ?_) | skip)
        all_goals (first | refine Zq ?_)
        all_goals (first | refine Zm ?_)
        all_goals (first | refine Zv ?_ | refine Zf fo_67_2 ?_)
        all_goals (first | refine Zv ?_ | refine Zl 0 ag_3 ?_)
        all_goals (first | refine Zv ?_ | refine Zi ?_)
        all_goals (first | refine Zq ?_)
        all_goals (first | refine Zm ?_)
        all_goals (refine Run.nil ?_)
        all_goals refine thn_next ⟨⟨?_, trivial⟩, pick_only [] _⟩
        all_goals simp [Env.get, eR, insR, *]
        all_goals (intros; omega)
      refine WP.ret ?_; refine blk_ret ?_; refine thn_ret ?_
      exact retT [4] _ rfl rfl ⟨rfl, rfl⟩
    refine WP.skip ?_; refine blk_norm ?_
    exact thn_next ⟨(), ⟨h1, h25, hT⟩, ⟨rfl, rfl, rfl, rfl, trivial⟩, ent.refl _⟩
  rintro _ ⟨h1, h25, hT⟩
  refine WP.seq ?_
  refine WP.seqCut [(0, .pointer (some p)), (3, .pointer (some ⟨b3, 0, none⟩)), (8, .bool (opsL x.op).2), (100, .bool (decide ((opsL x.op).1 < 0 ∨ (x.args.length : Int) ≠ (opsL x.op).1 ∨ x.imm ≠ 0)))] [blk b3 [.int .i64 x.op, .int .i64 x.dst, .int .i64 x.imm, a] 67] ?_ ?_
  · refine Zc ?_
    all_goals (first | refine Zm ?_)
    all_goals (first | refine Zi ?_)
    all_goals (first | refine Run.tt (by first | assumption | omega) ?_ | refine Run.ff (by first | assumption | omega) ?_ | refine Run.split (fun hc88 => ?_) (fun hc88 => ?_) | refine Run.splitB (fun hc88 => ?_) (fun hc88 => ?_) | skip)
    all_goals (first | refine Zm ?_)
    all_goals (first | refine Zv ?_ | refine Zf fo_67_3 ?_)
    all_goals (first | refine Zv ?_ | refine Zl 0 ag_22 ?_)
    all_goals (first | refine Zv ?_ | refine Run.lenR rfl rfl sl_22 rfl rfl (by assumption) ?_)
    all_goals (first | refine Zv ?_ | refine Zm ?_)
    all_goals (first | refine Zv ?_ | refine Zi ?_)
    all_goals (first | refine Run.tt (by first | assumption | omega) ?_ | refine Run.ff (by first | assumption | omega) ?_ | refine Run.split (fun hc94 => ?_) (fun hc94 => ?_) | refine Run.splitB (fun hc94 => ?_) (fun hc94 => ?_) | skip)
    all_goals (first | refine Zq ?_)
    all_goals (first | refine Zm ?_)
    all_goals (first | refine Zv ?_ | refine Zf fo_67_2 ?_)
    all_goals (first | refine Zv ?_ | refine Zl 0 ag_3 ?_)
    all_goals (first | refine Zv ?_ | refine Zi ?_)
    all_goals (first | refine Zq ?_)
    all_goals (refine Run.nil ?_)
    all_goals refine thn_next ⟨⟨rfl, rfl, rfl, ?_, trivial⟩, ent.refl _⟩
    all_goals simp [Env.get, *]
  refine WP.ite rfl (fun hX => ?_) (fun hX => ?_)
  · refine Zp ?_
    refine Zm ?_
    refine Ze ?_
    refine WP.via (Γ' := []) (pick_only [] _) ?_
    refine WP.ret ?_; refine thn_ret ?_
    exact retT [4] _ rfl rfl ⟨by rw [eR]; unfold insR; rw [if_neg h1, if_neg h25, if_neg hT, if_pos hX]; rfl, rfl⟩
  refine Zb ?_
  refine WP.seq ?_
  refine Zp ?_
  refine Zm ?_
  refine Ze ?_
  refine WP.cond (t := (opsL x.op).2) rfl (fun h8 => ?_) (fun h8 => ?_)
  · refine Zp ?_
    refine Zm ?_
    refine Zf fo_67_1 ?_
    refine Zl 0 ag_3 ?_
    refine Run.call (Δ := []) (Θ := [blk b3 [.int .i64 x.op, .int .i64 x.dst, .int .i64 x.imm, a] 67]) rfl rfl rfl rfl ok_59 rfl rfl (ent.refl _) (register_ok hR p F u v x.dst hF) ?_; rintro _ _ ⟨rfl, rfl⟩
    refine Zm ?_
    refine Ze ?_
    refine WP.via (Γ' := []) (pick_only [] _) ?_
    refine WP.ret ?_; refine thn_ret ?_
    exact retT [4] _ rfl rfl ⟨by rw [eR]; unfold insR; rw [if_neg h1, if_neg h25, if_neg hT, if_neg hX, if_pos h8]; rfl, rfl⟩
  refine Zb ?_
  refine Zp ?_
  refine Zf fo_67_1 ?_
  refine Zl 0 ag_3 ?_
  refine Zi ?_
  refine Zm ?_
  refine Ze ?_
  refine WP.via (Γ' := []) (pick_only [] _) ?_
  refine WP.ret ?_
  exact retT [4] _ rfl rfl ⟨by rw [eR]; unfold insR; rw [if_neg h1, if_neg h25, if_neg hT, if_neg hX, if_neg (by simp [h8])]; rfl, rfl⟩
end Go.Proofs.YtjjfehdlmdhhmaaDoor
end
section
/- Is a Term formed? Walked. -/
namespace Go.Proofs.YtjjfehdlmdhhmaaDoor
open Go.Sep
set_option linter.unusedSimpArgs false
set_option linter.unusedVariables false
attribute [local irreducible] blk slA mp mpF rows rowsBut many
def wayB (F : LFun) (b : Int) : Bool := decide (0 ≤ b ∧ b < F.blocks.length)
/-- all but the ways -/
def termR (F : LFun) (k val : Int) (to : List Int) : Bool :=
  if k = 1 then decide (val = -1 ∧ to.length = 1)
  else if k = 2 then regB F val && decide (to.length = 2)
  else if k = 3 then decide (to.length = 0) && (decide (F.res = 0 ∧ val = -1) || (decide (F.res ≠ 0) && regB F val))
  else decide (k = 4) && regB F val && decide (to.length = 0)
def termB (F : LFun) (k val : Int) (to : List Int) : Bool := to.all (wayB F) && termR F k val to
set_option maxRecDepth 100000 in
theorem formedTerm_ok (hR : Heap) (p : Addr) (F : LFun) (u v : Value) (k val : Int) (to : List Int) (a : Value) (hF : FunAt hR p F u v) (ha : SlR rdI hR a to) (hl : to.length ≤ 1000000) :
    Tri Tryd.prog hR 61 #[.pointer (some p), .agg ⟨[.int .i64 k, .int .i64 val, a]⟩] [] fun r Γ' => r = .bool (termB F k val to) ∧ Γ' = [] := by
  refine Tri.of (args := [.pointer (some p), .agg ⟨[.int .i64 k, .int .i64 val, a]⟩]) Tryd.func61 rfl Tryd.ntmps61 (by simp) ?_
  have c3 := hF.c3
  have c4 := hF.c4
  have hv := hF.hv
  have sb := hF.sb
  refine Zp ?_
  refine Run.box rfl rfl rfl rfl rfl ?_
  intro b3
  refine Zm ?_
  refine Ze ?_
  refine WP.via (Γ' := [blk b3 [.int .i64 k, .int .i64 val, a] 54]) (ent.refl _) ?_
  refine WP.seqMeet (α := Unit) (fun _ => to.all (wayB F) = true) (fun _ => [(0, .pointer (some p)), (3, .pointer (some ⟨b3, 0, none⟩))]) (fun _ => [blk b3 [.int .i64 k, .int .i64 val, a] 54]) ?_ ?_
  · refine Zp ?_
    refine Zf fo_54_2 ?_
    refine Zl 0 ag_22 ?_
    refine Run.lenR rfl rfl sl_22 rfl rfl (by assumption) ?_
    refine Zm ?_
    refine Ze ?_
    refine WP.block ?_
    refine WP.loop (α := Nat) (fun i => i ≤ to.length ∧ ∀ k y, k < i → to[k]? = some y → wayB F y = true) (fun i => [(0, .pointer (some p)), (3, .pointer (some ⟨b3, 0, none⟩)), (8, a), (9, .int .i64 (to.length : Int)), (10, .int .i64 (i : Int))])
      (fun _ => [blk b3 [.int .i64 k, .int .i64 val, a] 54]) (fun i => to.length - i) 0 ⟨Nat.zero_le _, fun k y h => by omega⟩ ⟨rfl, rfl, rfl, rfl, rfl, trivial⟩ (ent.refl _) ?_
    rintro i ⟨hi, hk⟩
    refine Zp ?_
    refine Zi ?_
    refine Ze ?_
    refine WP.seq ?_
    refine WP.ite rfl (fun hlt => ?_) (fun hge => ?_)
    · refine Zb ?_
      obtain ⟨y, gy⟩ : ∃ y, to[(i : Int).toNat]? = some y := ⟨_, List.getElem?_eq_getElem (by omega)⟩
      have gy' : to[i]? = some y := gy
      refine WP.seq ?_
      refine WP.block ?_
      refine Zp ?_
      refine Zx sl_22 ha ?_
      refine Zr ag_3 (SlR.cell0 ha gy rfl) ?_
      refine Zm ?_
      refine Ze ?_
      refine WP.seqCut [(0, .pointer (some p)), (3, .pointer (some ⟨b3, 0, none⟩)), (8, a), (9, .int .i64 (to.length : Int)), (10, .int .i64 (i : Int)), (24, .bool (!wayB F y))] [blk b3 [.int .i64 k, .int .i64 val, a] 54] ?_ ?_
      · refine Zc ?_
        all_goals (first | refine Zm ?_)
        all_goals (first | refine Zi ?_)
        all_goals (first | refine Run.tt (by first | assumption | omega) ?_ | refine Run.ff (by first | assumption | omega) ?_ | refine Run.split (fun hc15 => ?_) (fun hc15 => ?_) | refine Run.splitB (fun hc15 => ?_) (fun hc15 => ?_) | skip)
        all_goals (first | refine Zm ?_)
        all_goals (first | refine Zv ?_ | refine Zm ?_)
        all_goals (first | refine Zv ?_ | refine Zm ?_)
        all_goals (first | refine Zv ?_ | refine Zn ?_)
        all_goals (first | refine Zv ?_ | refine Zf fo_25_4 ?_)
        all_goals (first | refine Zv ?_ | refine Zr ag_23 c4 ?_)
        all_goals (first | refine Zv ?_ | refine Zh sl_23 hv ?_)
        all_goals (first | refine Zv ?_ | refine Zi ?_)
        all_goals (first | refine Zq ?_)
        all_goals (refine Run.nil ?_)
        all_goals refine thn_next ⟨⟨rfl, rfl, rfl, rfl, rfl, ?_, trivial⟩, ent.refl _⟩
        all_goals simp [Env.get, wayB, *]
        all_goals first | (intros; omega) | (rw [Bool.eq_iff_iff]; simp; omega)
      refine WP.cond (t := !wayB F y) rfl (fun hy => ?_) (fun hy => ?_)
      · refine Zp ?_
        refine Zm ?_
        refine Ze ?_
        refine WP.via (Γ' := []) (pick_only [] _) ?_
        refine WP.ret ?_; refine blk_ret ?_; refine thn_ret ?_; refine thn_ret ?_; refine blk_ret ?_; refine thn_ret ?_
        exact retT [4] _ rfl rfl ⟨by unfold termB; rw [all_not gy' (by simpa using hy)]; rfl, rfl⟩
      · refine WP.skip ?_; refine blk_norm ?_; refine thn_next ?_
        refine Zc ?_
        refine Za ?_
        refine Zm ?_
        refine Run.nil ?_
        refine thn_next ⟨i + 1, ⟨by omega, fun k z h1 h2 => ?_⟩, by omega, ⟨rfl, rfl, rfl, rfl, rfl, trivial⟩, ent.refl _⟩
        by_cases e : k = i
        · subst e; rw [gy'] at h2; cases h2; simpa using hy
        · exact hk k z (by omega) h2
    · refine Zj ?_
      refine thn_next ⟨(), all_of fun k y h1 h2 => hk k y (by omega) h2, ⟨rfl, rfl, trivial⟩, ent.refl _⟩
  rintro _ hall
  have eR : termB F k val to = termR F k val to := by unfold termB; rw [hall]; rfl
  have hal : (to.length : Int) ≤ 1000000 := by omega
  refine WP.seqMeet (α := Unit) (fun _ => k ≠ 1 ∧ k ≠ 2 ∧ k ≠ 3) (fun _ => [(0, .pointer (some p)), (3, .pointer (some ⟨b3, 0, none⟩))]) (fun _ => [blk b3 [.int .i64 k, .int .i64 val, a] 54]) ?_ ?_
  · refine Zp ?_
    refine Zf fo_54_0 ?_
    refine Zl 0 ag_3 ?_
    refine Ze ?_
    refine WP.block ?_
    refine Zp ?_
    refine Zi ?_
    refine Zm ?_
    refine Ze ?_
    refine WP.ite rfl (fun h1 => ?_) (fun h1 => ?_)
    · refine WP.seqCut [(4, .bool (termB F k val to))] [] ?_ ?_
      · refine Zc ?_
        all_goals (first | refine Zf fo_54_1 ?_)
        all_goals (first | refine Zl 0 ag_3 ?_)
        all_goals (first | refine Zi ?_)
        all_goals (first | refine Run.tt (by first | assumption | omega) ?_ | refine Run.ff (by first | assumption | omega) ?_ | refine Run.split (fun hc32 => ?_) (fun hc32 => ?_) | refine Run.splitB (fun hc32 => ?_) (fun hc32 => ?_) | skip)
        all_goals (first | refine Zm ?_)
        all_goals (first | refine Zv ?_ | refine Zf fo_54_2 ?_)
        all_goals (first | refine Zv ?_ | refine Zl 0 ag_22 ?_)
        all_goals (first | refine Zv ?_ | refine Run.lenR rfl rfl sl_22 rfl rfl (by assumption) ?_)
        all_goals (first | refine Zv ?_ | refine Zi ?_)
        all_goals (first | refine Zq ?_)
        all_goals (first | refine Zm ?_)
        all_goals (refine Run.nil ?_)
        all_goals refine thn_next ⟨⟨?_, trivial⟩, pick_only [] _⟩
        all_goals (rw [eR]; simp [Env.get, termR, regB, -List.length_eq_zero_iff, *])
        all_goals first | (intros; omega) | (rw [Bool.eq_iff_iff]; simp [-List.length_eq_zero_iff]; omega)
      refine WP.ret ?_; refine blk_ret ?_; refine thn_ret ?_
      exact retT [4] _ rfl rfl ⟨rfl, rfl⟩
    refine Zp ?_
    refine Zi ?_
    refine Zm ?_
    refine Ze ?_
    refine WP.ite rfl (fun h2 => ?_) (fun h2 => ?_)
    · refine WP.seqCut [(4, .bool (termB F k val to))] [] ?_ ?_
      · refine Zc ?_
        all_goals (first | refine Zm ?_)
        all_goals (first | refine Zf fo_54_1 ?_)
        all_goals (first | refine Zl 0 ag_3 ?_)
        all_goals (first | refine Run.call (Δ := []) (Θ := [blk b3 [.int .i64 k, .int .i64 val, a] 54]) rfl rfl rfl rfl ok_59 rfl rfl (ent.refl _) (register_ok hR p F u v val hF) ?_; rintro _ _ ⟨rfl, rfl⟩)
        all_goals (first | refine Run.tt (by first | assumption | omega) ?_ | refine Run.ff (by first | assumption | omega) ?_ | refine Run.split (fun hc44 => ?_) (fun hc44 => ?_) | refine Run.splitB (fun hc44 => ?_) (fun hc44 => ?_) | skip)
        all_goals (first | refine Zm ?_)
        all_goals (first | refine Zv ?_ | refine Zf fo_54_2 ?_)
        all_goals (first | refine Zv ?_ | refine Zl 0 ag_22 ?_)
        all_goals (first | refine Zv ?_ | refine Run.lenR rfl rfl sl_22 rfl rfl (by assumption) ?_)
        all_goals (first | refine Zv ?_ | refine Zi ?_)
        all_goals (first | refine Zq ?_)
        all_goals (first | refine Zm ?_)
        all_goals (refine Run.nil ?_)
        all_goals refine thn_next ⟨⟨?_, trivial⟩, pick_only [] _⟩
        all_goals (rw [eR]; simp [Env.get, termR, regB, -List.length_eq_zero_iff, *])
        all_goals first | (intros; omega) | (rw [Bool.eq_iff_iff]; simp [-List.length_eq_zero_iff]; omega)
      refine WP.ret ?_; refine blk_ret ?_; refine thn_ret ?_
      exact retT [4] _ rfl rfl ⟨rfl, rfl⟩
    refine Zp ?_
    refine Zi ?_
    refine Zm ?_
    refine Ze ?_
    refine WP.ite rfl (fun h3 => ?_) (fun h3 => ?_)
    · refine WP.seqCut [(4, .bool (termB F k val to))] [] ?_ ?_
      · refine Zc ?_
        all_goals (first | refine Zf fo_54_2 ?_)
        all_goals (first | refine Zl 0 ag_22 ?_)
        all_goals (first | refine Run.lenR rfl rfl sl_22 rfl rfl (by assumption) ?_)
        all_goals (first | refine Zi ?_)
        all_goals (first | refine Run.tt (by first | assumption | omega) ?_ | refine Run.ff (by first | assumption | omega) ?_ | refine Run.split (fun hc56 => ?_) (fun hc56 => ?_) | refine Run.splitB (fun hc56 => ?_) (fun hc56 => ?_) | skip)
        all_goals (first | refine Zm ?_)
        all_goals (first | refine Zv ?_ | refine Zm ?_)
        all_goals (first | refine Zv ?_ | refine Zn ?_)
        all_goals (first | refine Zv ?_ | refine Zf fo_25_3 ?_)
        all_goals (first | refine Zv ?_ | refine Run.loadR rfl rfl ag_3 rfl rfl (by first | assumption | exact SlR.cell0 (by assumption) (by assumption) rfl | exact SlR.cell (by assumption) (by assumption) rfl) ?_)
        all_goals (first | refine Zv ?_ | refine Zi ?_)
        all_goals (first | refine Run.tt (by first | assumption | omega) ?_ | refine Run.ff (by first | assumption | omega) ?_ | refine Run.split (fun hc62 => ?_) (fun hc62 => ?_) | refine Run.splitB (fun hc62 => ?_) (fun hc62 => ?_) | skip)
        all_goals (first | refine Zv ?_ | refine Zm ?_)
        all_goals (first | refine Zv ?_ | refine Zf fo_54_1 ?_)
        all_goals (first | refine Zv ?_ | refine Zl 0 ag_3 ?_)
        all_goals (first | refine Zv ?_ | refine Zi ?_)
        all_goals (first | refine Run.tt (by first | assumption | omega) ?_ | refine Run.ff (by first | assumption | omega) ?_ | refine Run.split (fun hc66 => ?_) (fun hc66 => ?_) | refine Run.splitB (fun hc66 => ?_) (fun hc66 => ?_) | skip)
        all_goals (first | refine Zv ?_ | refine Zq ?_)
        all_goals (first | refine Zv ?_ | refine Zm ?_)
        all_goals (first | refine Zv ?_ | refine Zm ?_)
        all_goals (first | refine Zv ?_ | refine Zn ?_)
        all_goals (first | refine Zv ?_ | refine Zf fo_25_3 ?_)
        all_goals (first | refine Zv ?_ | refine Run.loadR rfl rfl ag_3 rfl rfl (by first | assumption | exact SlR.cell0 (by assumption) (by assumption) rfl | exact SlR.cell (by assumption) (by assumption) rfl) ?_)
        all_goals (first | refine Zv ?_ | refine Zi ?_)
        all_goals (first | refine Run.tt (by first | assumption | omega) ?_ | refine Run.ff (by first | assumption | omega) ?_ | refine Run.split (fun hc73 => ?_) (fun hc73 => ?_) | refine Run.splitB (fun hc73 => ?_) (fun hc73 => ?_) | skip)
        all_goals (first | refine Zv ?_ | refine Zm ?_)
        all_goals (first | refine Zv ?_ | refine Zm ?_)
        all_goals (first | refine Zv ?_ | refine Zf fo_54_1 ?_)
        all_goals (first | refine Zv ?_ | refine Zl 0 ag_3 ?_)
        all_goals (first | refine Zv ?_ | refine Run.call (Δ := []) (Θ := [blk b3 [.int .i64 k, .int .i64 val, a] 54]) rfl rfl rfl rfl ok_59 rfl rfl (ent.refl _) (register_ok hR p F u v val hF) ?_; rintro _ _ ⟨rfl, rfl⟩)
        all_goals (first | refine Zv ?_ | refine Zq ?_)
        all_goals (first | refine Zv ?_ | refine Zq ?_)
        all_goals (first | refine Zq ?_)
        all_goals (first | refine Zm ?_)
        all_goals (refine Run.nil ?_)
        all_goals refine thn_next ⟨⟨?_, trivial⟩, pick_only [] _⟩
        all_goals (rw [eR]; simp [Env.get, termR, regB, -List.length_eq_zero_iff, *])
        all_goals first | (intros; omega) | (rw [Bool.eq_iff_iff]; simp [-List.length_eq_zero_iff]; omega)
      refine WP.ret ?_; refine blk_ret ?_; refine thn_ret ?_
      exact retT [4] _ rfl rfl ⟨rfl, rfl⟩
    refine WP.skip ?_; refine blk_norm ?_
    exact thn_next ⟨(), ⟨h1, h2, h3⟩, ⟨rfl, rfl, trivial⟩, ent.refl _⟩
  rintro _ ⟨h1, h2, h3⟩
  refine WP.seqCut [(4, .bool (termB F k val to))] [] ?_ ?_
  · refine Zc ?_
    all_goals (first | refine Zf fo_54_0 ?_)
    all_goals (first | refine Zl 0 ag_3 ?_)
    all_goals (first | refine Zi ?_)
    all_goals (first | refine Run.tt (by first | assumption | omega) ?_ | refine Run.ff (by first | assumption | omega) ?_ | refine Run.split (fun hc84 => ?_) (fun hc84 => ?_) | refine Run.splitB (fun hc84 => ?_) (fun hc84 => ?_) | skip)
    all_goals (first | refine Zm ?_)
    all_goals (first | refine Zv ?_ | refine Zm ?_)
    all_goals (first | refine Zv ?_ | refine Zf fo_54_1 ?_)
    all_goals (first | refine Zv ?_ | refine Zl 0 ag_3 ?_)
    all_goals (first | refine Zv ?_ | refine Run.call (Δ := []) (Θ := [blk b3 [.int .i64 k, .int .i64 val, a] 54]) rfl rfl rfl rfl ok_59 rfl rfl (ent.refl _) (register_ok hR p F u v val hF) ?_; rintro _ _ ⟨rfl, rfl⟩)
    all_goals (first | refine Run.tt (by first | assumption | omega) ?_ | refine Run.ff (by first | assumption | omega) ?_ | refine Run.split (fun hc89 => ?_) (fun hc89 => ?_) | refine Run.splitB (fun hc89 => ?_) (fun hc89 => ?_) | skip)
    all_goals (first | refine Zq ?_)
    all_goals (first | refine Zm ?_)
    all_goals (first | refine Zv ?_ | refine Zf fo_54_2 ?_)
    all_goals (first | refine Zv ?_ | refine Zl 0 ag_22 ?_)
    all_goals (first | refine Zv ?_ | refine Run.lenR rfl rfl sl_22 rfl rfl (by assumption) ?_)
    all_goals (first | refine Zv ?_ | refine Zi ?_)
    all_goals (first | refine Zq ?_)
    all_goals (first | refine Zm ?_)
    all_goals (refine Run.nil ?_)
    all_goals refine thn_next ⟨⟨?_, trivial⟩, pick_only [] _⟩
    all_goals (rw [eR]; simp [Env.get, termR, regB, -List.length_eq_zero_iff, *])
    all_goals first | (intros; omega) | (rw [Bool.eq_iff_iff]; simp [-List.length_eq_zero_iff]; omega)
  refine WP.ret ?_
  exact retT [4] _ rfl rfl ⟨rfl, rfl⟩
end Go.Proofs.YtjjfehdlmdhhmaaDoor
end
section
/- Is a function formed? Walked. -/
namespace Go.Proofs.YtjjfehdlmdhhmaaDoor
open Go.Sep
set_option linter.unusedSimpArgs false
set_option linter.unusedVariables false
attribute [local irreducible] blk slA mp mpF rows rowsBut many
structure SmallF (F : LFun) : Prop where
  bodies : ∀ b ∈ F.blocks, b.body.length ≤ 1000000
  tos : ∀ b ∈ F.blocks, b.to.length ≤ 1000000
  args : ∀ b ∈ F.blocks, ∀ x ∈ b.body, x.args.length ≤ 1000000
def headB (F : LFun) : Bool := !decide (F.regs < 0 ∨ F.regs > 262144 ∨ (F.params.length : Int) > 8 ∨ F.res < 0 ∨ F.res > 3 ∨ F.blocks.length = 0)
def blkB (F : LFun) (b : LBlk) : Bool := b.body.all (insB F) && termB F b.kind b.value b.to
def formB (F : LFun) : Bool := headB F && (F.params.all (regB F) && decide F.params.Nodup) && F.blocks.all (blkB F)
theorem nodup_of {xs : List Int} (h : ∀ (i k : Nat) (y z : Int), k < i → xs[i]? = some y → xs[k]? = some z → z ≠ y) : xs.Nodup :=
  List.pairwise_iff_getElem.2 fun i j hi hj hij => h j i _ _ hij (List.getElem?_eq_getElem hj) (List.getElem?_eq_getElem hi)
theorem not_nodup {xs : List Int} {i k : Nat} {y : Int} (hk : k < i) (h1 : xs[i]? = some y) (h2 : xs[k]? = some y) : ¬ xs.Nodup := fun hn => by
  obtain ⟨a1, e1⟩ := List.getElem?_eq_some_iff.1 h1
  obtain ⟨a2, e2⟩ := List.getElem?_eq_some_iff.1 h2
  exact List.pairwise_iff_getElem.1 hn k i a2 a1 hk (e2.trans e1.symm)
theorem SlR.sv {A : Type} {E : Rd A} {h : Heap} {v : Value} {xs : List A} (hr : SlR E h v xs) : ∃ sv : SV, v = sv.val ∧ sv.n = xs.length ∧ sv.n ≤ sv.c := by
  obtain ⟨a, c, rfl, h1, _⟩ := hr
  exact ⟨⟨a, xs.length, c⟩, rfl, rfl, h1⟩
set_option maxHeartbeats 1000000 in
set_option maxRecDepth 100000 in
theorem formed_ok (hR : Heap) (p : Addr) (F : LFun) (u v : Value) (hF : FunAt hR p F u v) (hS : SmallF F) :
    Tri Tryd.prog hR 31 #[.pointer (some p)] [] fun r Γ' => r = .bool (formB F) ∧ Γ' = [] := by
  refine Tri.of (args := [.pointer (some p)]) Tryd.func31 rfl Tryd.ntmps31 (by simp) ?_
  have c1 := hF.c1
  have c2 := hF.c2
  have c3 := hF.c3
  have c4 := hF.c4
  obtain ⟨su, rfl, hsn, hsc⟩ := SlR.sv hF.hu
  have hu := hF.hu
  have hv := hF.hv
  have sp := hF.sp
  have sb := hF.sb
  refine Zp ?_
  refine Zm ?_
  refine Ze ?_
  refine WP.seq ?_
  refine WP.seqCut [(0, .pointer (some p)), (52, .bool (!headB F))] [] ?_ ?_
  · refine Zc ?_
    all_goals (first | refine Zm ?_)
    all_goals (first | refine Zn ?_)
    all_goals (first | refine Zf fo_25_2 ?_)
    all_goals (first | refine Run.loadR rfl rfl ag_3 rfl rfl (by first | assumption | exact SlR.cell0 (by assumption) (by assumption) rfl | exact SlR.cell (by assumption) (by assumption) rfl) ?_)
    all_goals (first | refine Zi ?_)
    all_goals (first | refine Run.tt (by first | assumption | omega) ?_ | refine Run.ff (by first | assumption | omega) ?_ | refine Run.split (fun hc15 => ?_) (fun hc15 => ?_) | refine Run.splitB (fun hc15 => ?_) (fun hc15 => ?_) | skip)
    all_goals (first | refine Zm ?_)
    all_goals (first | refine Zv ?_ | refine Zm ?_)
    all_goals (first | refine Zv ?_ | refine Zn ?_)
    all_goals (first | refine Zv ?_ | refine Zf fo_25_2 ?_)
    all_goals (first | refine Zv ?_ | refine Run.loadR rfl rfl ag_3 rfl rfl (by first | assumption | exact SlR.cell0 (by assumption) (by assumption) rfl | exact SlR.cell (by assumption) (by assumption) rfl) ?_)
    all_goals (first | refine Zv ?_ | refine Zi ?_)
    all_goals (first | refine Run.tt (by first | assumption | omega) ?_ | refine Run.ff (by first | assumption | omega) ?_ | refine Run.split (fun hc21 => ?_) (fun hc21 => ?_) | refine Run.splitB (fun hc21 => ?_) (fun hc21 => ?_) | skip)
    all_goals (first | refine Zq ?_)
    all_goals (first | refine Zm ?_)
    all_goals (first | refine Zv ?_ | refine Zm ?_)
    all_goals (first | refine Zv ?_ | refine Zn ?_)
    all_goals (first | refine Zv ?_ | refine Zf fo_25_1 ?_)
    all_goals (first | refine Zv ?_ | refine Zr ag_22 c1 ?_)
    all_goals (first | refine Zv ?_ | refine Zh sl_22 hu ?_)
    all_goals (first | refine Zv ?_ | refine Zi ?_)
    all_goals (first | refine Run.tt (by first | assumption | omega) ?_ | refine Run.ff (by first | assumption | omega) ?_ | refine Run.split (fun hc29 => ?_) (fun hc29 => ?_) | refine Run.splitB (fun hc29 => ?_) (fun hc29 => ?_) | skip)
    all_goals (first | refine Zq ?_)
    all_goals (first | refine Zm ?_)
    all_goals (first | refine Zv ?_ | refine Zm ?_)
    all_goals (first | refine Zv ?_ | refine Zn ?_)
    all_goals (first | refine Zv ?_ | refine Zf fo_25_3 ?_)
    all_goals (first | refine Zv ?_ | refine Run.loadR rfl rfl ag_3 rfl rfl (by first | assumption | exact SlR.cell0 (by assumption) (by assumption) rfl | exact SlR.cell (by assumption) (by assumption) rfl) ?_)
    all_goals (first | refine Zv ?_ | refine Zi ?_)
    all_goals (first | refine Run.tt (by first | assumption | omega) ?_ | refine Run.ff (by first | assumption | omega) ?_ | refine Run.split (fun hc36 => ?_) (fun hc36 => ?_) | refine Run.splitB (fun hc36 => ?_) (fun hc36 => ?_) | skip)
    all_goals (first | refine Zq ?_)
    all_goals (first | refine Zm ?_)
    all_goals (first | refine Zv ?_ | refine Zm ?_)
    all_goals (first | refine Zv ?_ | refine Zn ?_)
    all_goals (first | refine Zv ?_ | refine Zf fo_25_3 ?_)
    all_goals (first | refine Zv ?_ | refine Run.loadR rfl rfl ag_3 rfl rfl (by first | assumption | exact SlR.cell0 (by assumption) (by assumption) rfl | exact SlR.cell (by assumption) (by assumption) rfl) ?_)
    all_goals (first | refine Zv ?_ | refine Zi ?_)
    all_goals (first | refine Run.tt (by first | assumption | omega) ?_ | refine Run.ff (by first | assumption | omega) ?_ | refine Run.split (fun hc43 => ?_) (fun hc43 => ?_) | refine Run.splitB (fun hc43 => ?_) (fun hc43 => ?_) | skip)
    all_goals (first | refine Zq ?_)
    all_goals (first | refine Zm ?_)
    all_goals (first | refine Zv ?_ | refine Zm ?_)
    all_goals (first | refine Zv ?_ | refine Zn ?_)
    all_goals (first | refine Zv ?_ | refine Zf fo_25_4 ?_)
    all_goals (first | refine Zv ?_ | refine Zr ag_23 c4 ?_)
    all_goals (first | refine Zv ?_ | refine Zh sl_23 hv ?_)
    all_goals (first | refine Zv ?_ | refine Zi ?_)
    all_goals (first | refine Zq ?_)
    all_goals (refine Run.nil ?_)
    all_goals refine thn_next ⟨⟨rfl, ?_, trivial⟩, ent.refl _⟩
    all_goals simp [Env.get, headB, -List.length_eq_zero_iff, *]
    all_goals first | done | omega | (intros; omega) | (rw [Bool.eq_iff_iff]; simp [-List.length_eq_zero_iff]; omega)
  refine WP.cond (t := !headB F) rfl (fun hh => ?_) (fun hh => ?_)
  · refine Zp ?_
    refine Zm ?_
    refine Ze ?_
    refine WP.ret ?_; refine thn_ret ?_
    exact retT [2] _ rfl rfl ⟨by unfold formB; simp at hh; rw [hh]; rfl, rfl⟩
  refine Zb ?_
  have hh' : headB F = true := by simpa using hh
  -- the parameters
  refine WP.seqMeet (α := Unit) (fun _ => (F.params.all (regB F) && decide F.params.Nodup) = true) (fun _ => [(0, .pointer (some p))]) (fun _ => []) ?_ ?_
  · refine Zp ?_
    refine Zm ?_
    refine Zn ?_
    refine Zf fo_25_1 ?_
    refine Zr ag_22 c1 ?_
    refine Zh sl_22 hu ?_
    refine Zm ?_
    refine Ze ?_
    refine WP.block ?_
    refine WP.loop (α := Nat) (fun i => i ≤ F.params.length ∧ ∀ k y, k < i → F.params[k]? = some y → regB F y = true ∧ ∀ j z, j < k → F.params[j]? = some z → z ≠ y) (fun i => [(0, .pointer (some p)), (56, su.val), (57, .int .i64 (F.params.length : Int)), (58, .int .i64 (i : Int))])
      (fun _ => []) (fun i => F.params.length - i) 0 ⟨Nat.zero_le _, fun k y h => by omega⟩ ⟨rfl, rfl, rfl, rfl, trivial⟩ (ent.refl _) ?_
    rintro i ⟨hi, hk⟩
    refine Zp ?_
    refine Zi ?_
    refine Ze ?_
    refine WP.seq ?_
    refine WP.ite rfl (fun hlt => ?_) (fun hge => ?_)
    · refine Zb ?_
      obtain ⟨y, gy⟩ : ∃ y, F.params[(i : Int).toNat]? = some y := ⟨_, List.getElem?_eq_getElem (by omega)⟩
      have gy' : F.params[i]? = some y := gy
      refine WP.seqMeet (α := Unit) (fun _ => regB F y = true ∧ ∀ j z, j < i → F.params[j]? = some z → z ≠ y) (fun _ => [(0, .pointer (some p)), (56, su.val), (57, .int .i64 (F.params.length : Int)), (58, .int .i64 (i : Int))]) (fun _ => []) ?_ ?_
      · refine WP.block ?_
        refine Zp ?_
        refine Zm ?_
        refine Zx sl_22 hu ?_
        refine Zr ag_3 (SlR.cell0 hu gy rfl) ?_
        refine Zm ?_
        refine Zm ?_
        refine Ze ?_
        refine WP.seq ?_
        refine Zp ?_
        refine Zm ?_
        refine Zm ?_
        refine Run.call (Δ := []) (Θ := []) rfl rfl rfl rfl ok_59 rfl rfl (ent.refl _) (register_ok hR p F su.val v y hF) ?_; rintro _ _ ⟨rfl, rfl⟩
        refine Run.bnot rfl rfl rfl rfl ?_
        refine Ze ?_
        refine WP.ite rfl (fun hy => ?_) (fun hy => ?_)
        · refine Zp ?_
          refine Zm ?_
          refine Ze ?_
          refine WP.ret ?_; refine thn_ret ?_; refine blk_ret ?_; refine thn_ret ?_; refine thn_ret ?_; refine blk_ret ?_; refine thn_ret ?_
          exact retT [2] _ rfl rfl ⟨by unfold formB; rw [all_not gy' (decide_eq_false hy)]; simp [tupV], rfl⟩
        refine Zb ?_
        have hy' : regB F y = true := decide_eq_true (Decidable.not_not.1 hy)
        have hcut : SlR rdI hR (su.cut 1 0 (i : Int).toNat).val (F.params.take i) := by
          have := SlR_cut hu (lo := 0) (hi := i) (Nat.zero_le _) hi
          rw [List.drop_zero] at this; exact this
        have htk : (F.params.take i).length = i := by simp; omega
        refine Zp ?_
        refine Zm ?_
        refine Zn ?_
        refine Zf fo_25_1 ?_
        refine Zr ag_22 c1 ?_
        refine Zm ?_
        refine Run.sliceV (sv := su) rfl rfl sl_22 rfl rfl rfl rfl (by omega) (by omega) (by omega) ?_
        refine Zh sl_22 hcut ?_
        refine Zm ?_
        refine Ze ?_
        rw [htk]
        refine WP.block ?_
        refine WP.loop (α := Nat) (fun j => j ≤ i ∧ ∀ k z, k < j → F.params[k]? = some z → z ≠ y) (fun j => [(0, .pointer (some p)), (4, .int .i64 y), (56, su.val), (57, .int .i64 (F.params.length : Int)), (58, .int .i64 (i : Int)), (72, (su.cut 1 0 (i : Int).toNat).val), (73, .int .i64 (i : Int)), (74, .int .i64 (j : Int))])
          (fun _ => []) (fun j => i - j) 0 ⟨Nat.zero_le _, fun k z h => by omega⟩ ⟨rfl, rfl, rfl, rfl, rfl, rfl, rfl, rfl, trivial⟩ (ent.refl _) ?_
        rintro j ⟨hj, hjk⟩
        refine Zp ?_
        refine Zi ?_
        refine Ze ?_
        refine WP.seq ?_
        refine WP.ite rfl (fun hlt2 => ?_) (fun hge2 => ?_)
        · refine Zb ?_
          obtain ⟨z, gz⟩ : ∃ z, F.params[j]? = some z := ⟨_, List.getElem?_eq_getElem (by omega)⟩
          have gz2 : (F.params.take i)[(j : Int).toNat]? = some z := by
            show (F.params.take i)[j]? = some z
            rw [List.getElem?_take, if_pos (by omega)]; exact gz
          refine WP.seq ?_
          refine WP.block ?_
          refine Zp ?_
          refine Zx sl_22 hcut ?_
          refine Zr ag_3 (SlR.cell0 hcut gz2 rfl) ?_
          refine Zm ?_
          refine Ze ?_
          refine Zp ?_
          refine Zm ?_
          refine Zm ?_
          refine Zi ?_
          refine Ze ?_
          refine WP.ite rfl (fun he => ?_) (fun he => ?_)
          · refine Zp ?_
            refine Zm ?_
            refine Ze ?_
            refine WP.ret ?_; refine blk_ret ?_; refine thn_ret ?_; refine thn_ret ?_; refine blk_ret ?_; refine blk_ret ?_; refine thn_ret ?_; refine thn_ret ?_; refine blk_ret ?_; refine thn_ret ?_
            subst he
            exact retT [2] _ rfl rfl ⟨by unfold formB; rw [decide_eq_false (not_nodup (by omega) gy' gz)]; simp [tupV], rfl⟩
          · refine WP.skip ?_; refine blk_norm ?_; refine thn_next ?_
            refine Zc ?_
            refine Za ?_
            refine Zm ?_
            refine Run.nil ?_
            refine thn_next ⟨j + 1, ⟨by omega, fun k x h1 h2 => ?_⟩, by omega, ⟨rfl, rfl, rfl, rfl, rfl, rfl, rfl, rfl, trivial⟩, ent.refl _⟩
            by_cases e : k = j
            · subst e; rw [gz] at h2; cases h2; exact fun e => he e.symm
            · exact hjk k x (by omega) h2
        · refine Zj ?_; refine blk_norm ?_
          exact thn_next ⟨(), ⟨hy', fun k z h1 h2 => hjk k z (by omega) h2⟩, ⟨rfl, rfl, rfl, rfl, trivial⟩, ent.refl _⟩
      rintro _ ⟨hy1, hy2⟩
      refine Zc ?_
      refine Za ?_
      refine Zm ?_
      refine Run.nil ?_
      refine thn_next ⟨i + 1, ⟨by omega, fun k z h1 h2 => ?_⟩, by omega, ⟨rfl, rfl, rfl, rfl, trivial⟩, ent.refl _⟩
      by_cases e : k = i
      · subst e; rw [gy'] at h2; cases h2; exact ⟨hy1, hy2⟩
      · exact hk k z (by omega) h2
    · refine Zj ?_
      refine thn_next ⟨(), ?_, ⟨rfl, trivial⟩, ent.refl _⟩
      rw [Bool.and_eq_true]
      exact ⟨all_of fun k y h1 h2 => (hk k y (by omega) h2).1, decide_eq_true (nodup_of fun i k y z h1 h2 h3 => (hk i y (by have := (List.getElem?_eq_some_iff.1 h2).1; omega) h2).2 k z h1 h3)⟩
  rintro _ hpar
  -- the blocks
  refine WP.seqMeet (α := Unit) (fun _ => F.blocks.all (blkB F) = true) (fun _ => []) (fun _ => []) ?_ ?_
  · refine Zp ?_
    refine Zm ?_
    refine Zn ?_
    refine Zf fo_25_4 ?_
    refine Zr ag_23 c4 ?_
    refine Zh sl_23 hv ?_
    refine Zm ?_
    refine Ze ?_
    refine WP.block ?_
    refine WP.loop (α := Nat) (fun i => i ≤ F.blocks.length ∧ ∀ k y, k < i → F.blocks[k]? = some y → blkB F y = true) (fun i => [(0, .pointer (some p)), (86, v), (87, .int .i64 (F.blocks.length : Int)), (88, .int .i64 (i : Int))])
      (fun _ => []) (fun i => F.blocks.length - i) 0 ⟨Nat.zero_le _, fun k y h => by omega⟩ ⟨rfl, rfl, rfl, rfl, trivial⟩ (ent.refl _) ?_
    rintro i ⟨hi, hk⟩
    refine Zp ?_
    refine Zi ?_
    refine Ze ?_
    refine WP.seq ?_
    refine WP.ite rfl (fun hlt => ?_) (fun hge => ?_)
    · refine Zb ?_
      obtain ⟨b, gb⟩ : ∃ y, F.blocks[(i : Int).toNat]? = some y := ⟨_, List.getElem?_eq_getElem (by omega)⟩
      have gb' : F.blocks[i]? = some b := gb
      have hbm := List.mem_of_getElem? gb'
      have hb1 := hS.bodies b hbm
      have hb2 := hS.tos b hbm
      have hb3 := hS.args b hbm
      obtain ⟨_, ⟨bu0, bv0, rfl, hbu, hbv⟩, hrow⟩ := hv.at gb
      obtain ⟨bu, rfl, _, _⟩ := SlR.sv hbu
      obtain ⟨bv, rfl, _, _⟩ := SlR.sv hbv
      refine WP.seqMeet (α := Unit) (fun _ => blkB F b = true) (fun _ => [(0, .pointer (some p)), (86, v), (87, .int .i64 (F.blocks.length : Int)), (88, .int .i64 (i : Int))]) (fun _ => []) ?_ ?_
      · refine WP.block ?_
        refine Zp ?_
        refine Zx sl_23 hv ?_
        refine Run.loadRagg rfl rfl ag_56 rfl rfl hrow (by rfl) ?_
        refine Run.alloc rfl zr_56 rfl rfl rfl ?_
        intro b8
        refine Run.storeB 0 rfl rfl rfl rfl ag_56 rfl rfl rfl rfl rfl ?_
        refine Ze ?_
        refine WP.via (Γ' := [blk b8 [bu.val, .int .i64 b.kind, .int .i64 b.value, bv.val] 56]) (ent.refl _) ?_
        refine WP.seqMeet (α := Unit) (fun _ => b.body.all (insB F) = true) (fun _ => [(0, .pointer (some p)), (8, .pointer (some ⟨b8, 0, none⟩)), (86, v), (87, .int .i64 (F.blocks.length : Int)), (88, .int .i64 (i : Int))]) (fun _ => [blk b8 [bu.val, .int .i64 b.kind, .int .i64 b.value, bv.val] 56]) ?_ ?_
        · refine Zp ?_
          refine Zf fo_56_0 ?_
          refine Zl 0 ag_52 ?_
          refine Zh sl_52 hbu ?_
          refine Zm ?_
          refine Ze ?_
          refine WP.block ?_
          refine WP.loop (α := Nat) (fun j => j ≤ b.body.length ∧ ∀ k y, k < j → b.body[k]? = some y → insB F y = true) (fun j => [(0, .pointer (some p)), (8, .pointer (some ⟨b8, 0, none⟩)), (86, v), (87, .int .i64 (F.blocks.length : Int)), (88, .int .i64 (i : Int)), (93, bu.val), (94, .int .i64 (b.body.length : Int)), (95, .int .i64 (j : Int))])
            (fun _ => [blk b8 [bu.val, .int .i64 b.kind, .int .i64 b.value, bv.val] 56]) (fun j => b.body.length - j) 0 ⟨Nat.zero_le _, fun k y h => by omega⟩ ⟨rfl, rfl, rfl, rfl, rfl, rfl, rfl, rfl, trivial⟩ (ent.refl _) ?_
          rintro j ⟨hj, hjk⟩
          refine Zp ?_
          refine Zi ?_
          refine Ze ?_
          refine WP.seq ?_
          refine WP.ite rfl (fun hlt2 => ?_) (fun hge2 => ?_)
          · refine Zb ?_
            obtain ⟨x, gx⟩ : ∃ y, b.body[(j : Int).toNat]? = some y := ⟨_, List.getElem?_eq_getElem (by omega)⟩
            have gx' : b.body[j]? = some x := gx
            have hx3 := hb3 x (List.mem_of_getElem? gx')
            obtain ⟨_, ⟨xa0, rfl, hxa⟩, hxrow⟩ := hbu.at gx
            obtain ⟨xa, rfl, _, _⟩ := SlR.sv hxa
            refine WP.seq ?_
            refine WP.block ?_
            refine Zp ?_
            refine Zx sl_52 hbu ?_
            refine Run.loadRagg rfl rfl ag_67 rfl rfl hxrow (by rfl) ?_
            refine Run.alloc rfl zr_67 rfl rfl rfl ?_
            intro b10
            refine Run.storeB 1 rfl rfl rfl rfl ag_67 rfl rfl rfl rfl rfl ?_
            refine Ze ?_
            refine Zp ?_
            refine Zm ?_
            refine Run.loadBagg 1 rfl rfl ag_67 rfl rfl rfl rfl rfl ?_
            refine Run.call (Δ := []) (Θ := [blk b8 [bu.val, .int .i64 b.kind, .int .i64 b.value, bv.val] 56]) rfl rfl rfl rfl ok_60 rfl rfl (pick_only [0] _) (formedIns_ok hR p F su.val v x xa.val hF hxa hx3) ?_; rintro _ _ ⟨rfl, rfl⟩
            refine Run.bnotB rfl rfl rfl rfl ?_
            refine Ze ?_
            refine WP.cond (t := !insB F x) rfl (fun hy => ?_) (fun hy => ?_)
            · refine Zp ?_
              refine Zm ?_
              refine Ze ?_
              refine WP.via (Γ' := []) (pick_only [] _) ?_
              refine WP.ret ?_; refine blk_ret ?_; refine thn_ret ?_; refine thn_ret ?_; refine blk_ret ?_; refine thn_ret ?_; refine blk_ret ?_; refine thn_ret ?_; refine thn_ret ?_; refine blk_ret ?_; refine thn_ret ?_
              have hbB : blkB F b = false := by unfold blkB; rw [all_not gx' (by simpa using hy)]; rfl
              exact retT [2] _ rfl rfl ⟨by unfold formB; rw [all_not gb' hbB]; simp [tupV], rfl⟩
            · refine WP.skip ?_; refine blk_norm ?_; refine thn_next ?_
              refine Zc ?_
              refine Za ?_
              refine Zm ?_
              refine Run.nil ?_
              refine thn_next ⟨j + 1, ⟨by omega, fun k z h1 h2 => ?_⟩, by omega, ⟨rfl, rfl, rfl, rfl, rfl, rfl, rfl, rfl, trivial⟩, ent.refl _⟩
              by_cases e : k = j
              · subst e; rw [gx'] at h2; cases h2; simpa using hy
              · exact hjk k z (by omega) h2
          · refine Zj ?_
            exact thn_next ⟨(), all_of fun k y h1 h2 => hjk k y (by omega) h2, ⟨rfl, rfl, rfl, rfl, rfl, trivial⟩, ent.refl _⟩
        rintro _ hbody
        refine Zp ?_
        refine Zm ?_
        refine Zf fo_56_1 ?_
        refine Run.loadBagg 0 rfl rfl ag_54 rfl rfl rfl rfl rfl ?_
        refine Run.call (Δ := []) (Θ := [blk b8 [bu.val, .int .i64 b.kind, .int .i64 b.value, bv.val] 56]) rfl rfl rfl rfl ok_61 rfl rfl (ent.refl _) (formedTerm_ok hR p F su.val v b.kind b.value b.to bv.val hF hbv hb2) ?_; rintro _ _ ⟨rfl, rfl⟩
        refine Run.bnotB rfl rfl rfl rfl ?_
        refine Ze ?_
        refine WP.cond (t := !termB F b.kind b.value b.to) rfl (fun hy => ?_) (fun hy => ?_)
        · refine Zp ?_
          refine Zm ?_
          refine Ze ?_
          refine WP.via (Γ' := []) (pick_only [] _) ?_
          refine WP.ret ?_; refine blk_ret ?_; refine thn_ret ?_; refine thn_ret ?_; refine blk_ret ?_; refine thn_ret ?_
          have hbB : blkB F b = false := by unfold blkB; simp at hy; rw [hy]; simp
          exact retT [2] _ rfl rfl ⟨by unfold formB; rw [all_not gb' hbB]; simp [tupV], rfl⟩
        · refine WP.skip ?_; refine blk_norm ?_
          exact thn_next ⟨(), by unfold blkB; rw [hbody]; simpa using hy, ⟨rfl, rfl, rfl, rfl, trivial⟩, pick_only [] _⟩
      rintro _ hbB
      refine Zc ?_
      refine Za ?_
      refine Zm ?_
      refine Run.nil ?_
      refine thn_next ⟨i + 1, ⟨by omega, fun k z h1 h2 => ?_⟩, by omega, ⟨rfl, rfl, rfl, rfl, trivial⟩, ent.refl _⟩
      by_cases e : k = i
      · subst e; rw [gb'] at h2; cases h2; exact hbB
      · exact hk k z (by omega) h2
    · refine Zj ?_
      exact thn_next ⟨(), all_of fun k y h1 h2 => hk k y (by omega) h2, trivial, ent.refl _⟩
  rintro _ hblk
  refine Zp ?_
  refine Zm ?_
  refine Ze ?_
  refine WP.ret ?_
  exact retT [2] _ rfl rfl ⟨by unfold formB; rw [hh', hpar, hblk]; rfl, rfl⟩
end Go.Proofs.YtjjfehdlmdhhmaaDoor
end
