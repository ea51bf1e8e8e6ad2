import PyProof.Rows.All
import Wide.All
import OpenK.AllK
import Wide.FinOn
import HandS.ForMost
import HandS.WideBits
import HandS.IsInst
import HandS.Codes
import HandS.Evl
import HandS.Nested
import HandS.EndTab
import HandS.TupLen
import HandS.Conv
import HandS.Rev
import HandS.ForExc
import HandS.ExcIs
import HandS.TryElse
import HandS.Style
import HandS.Defaults
import HandS.SortInts
import HandS.More
import HandS.Walk
import HandS.HotCalls
import HandS.SuiteRaise
import PySem.Challenge.RW_growbook_k16_great

import HandS.ExcInit
import HandS.ExcInitHot
import HandS.ExcField
import HandS.StrMore
import HandS.TupAny
import HandS.CallSlots
import HandS.ClsMeth
import HandS.Lambda
import HandS.SetKeys
import HandS.TupLe
import PyProof.DictMoreH
set_option Elab.async false
set_option linter.all false
set_option maxRecDepth 100000
set_option maxHeartbeats 4000000
namespace My
open PySem PySem.Spec PyProof.Rows L2
open C8 (Cal Met Mak CalAt pe_c pe_mk pe_mt pe_mt0)

/-! ### the text by places -/
def inDef (s : Stmt) (j : Nat) : Stmt := (defBody s).getD j (.Pass ⟨0, 0, 0, 0⟩)
def topS (i : Nat) : Stmt := PySem.Challenge.pw_growbook_k16_great.main.body.getD i (.Pass ⟨0, 0, 0, 0⟩)
abbrev s__wall : Stmt := topS 0
abbrev N__wall : List Str := ["k"]
theorem sc__wall : FnScope ["k"] ["k"] (defScope s__wall) := ⟨rfl, rfl, rfl, by decide +kernel, rfl, by decide +kernel, by decide +kernel⟩
abbrev s_BadRow___init__ : Stmt := inClass (topS 5) 0
abbrev N_BadRow___init__ : List Str := ["self", "row"]
theorem sc_BadRow___init__ : FnScope ["self", "row"] ["self", "row"] (defScope s_BadRow___init__) := ⟨rfl, rfl, rfl, by decide +kernel, rfl, by decide +kernel, by decide +kernel⟩
abbrev s_split : Stmt := topS 7
abbrev N_split : List Str := ["size"]
theorem sc_split : FnScope ["size"] ["size"] (defScope s_split) := ⟨rfl, rfl, rfl, by decide +kernel, rfl, by decide +kernel, by decide +kernel⟩
abbrev s_none_seal : Stmt := topS 8
abbrev N_none_seal : List Str := ["seal"]
theorem sc_none_seal : FnScope ["seal"] ["seal"] (defScope s_none_seal) := ⟨rfl, rfl, rfl, by decide +kernel, rfl, by decide +kernel, by decide +kernel⟩
abbrev s_leaf_seal : Stmt := topS 9
abbrev N_leaf_seal : List Str := ["seal", "text", "table"]
theorem sc_leaf_seal : FnScope ["seal", "text", "table"] ["seal", "text", "table"] (defScope s_leaf_seal) := ⟨rfl, rfl, rfl, by decide +kernel, rfl, by decide +kernel, by decide +kernel⟩
abbrev s_pair_seal : Stmt := topS 10
abbrev N_pair_seal : List Str := ["seal", "left", "right"]
theorem sc_pair_seal : FnScope ["seal", "left", "right"] ["seal", "left", "right"] (defScope s_pair_seal) := ⟨rfl, rfl, rfl, by decide +kernel, rfl, by decide +kernel, by decide +kernel⟩
abbrev s_book_seal : Stmt := topS 11
abbrev N_book_seal : List Str := ["seal", "size", "top"]
theorem sc_book_seal : FnScope ["seal", "size", "top"] ["seal", "size", "top"] (defScope s_book_seal) := ⟨rfl, rfl, rfl, by decide +kernel, rfl, by decide +kernel, by decide +kernel⟩
abbrev s_top_of : Stmt := topS 12
abbrev N_top_of : List Str := ["seal", "leaves", "k"]
theorem sc_top_of : FnScope ["seal", "leaves", "k"] ["seal", "leaves"] (defScope s_top_of) := ⟨rfl, rfl, rfl, by decide +kernel, rfl, by decide +kernel, by decide +kernel⟩
abbrev s_path_of : Stmt := topS 13
abbrev N_path_of : List Str := ["seal", "leaves", "place", "k"]
theorem sc_path_of : FnScope ["seal", "leaves", "place", "k"] ["seal", "leaves", "place"] (defScope s_path_of) := ⟨rfl, rfl, rfl, by decide +kernel, rfl, by decide +kernel, by decide +kernel⟩
abbrev s_growth_of : Stmt := topS 14
abbrev N_growth_of : List Str := ["seal", "leaves", "old", "k"]
theorem sc_growth_of : FnScope ["seal", "leaves", "old", "k"] ["seal", "leaves", "old"] (defScope s_growth_of) := ⟨rfl, rfl, rfl, by decide +kernel, rfl, by decide +kernel, by decide +kernel⟩
abbrev s_last_of : Stmt := topS 15
abbrev N_last_of : List Str := ["paper"]
theorem sc_last_of : FnScope ["paper"] ["paper"] (defScope s_last_of) := ⟨rfl, rfl, rfl, by decide +kernel, rfl, by decide +kernel, by decide +kernel⟩
abbrev s_risen : Stmt := topS 16
abbrev N_risen : List Str := ["seal", "leaf", "place", "size", "path", "rest", "sides", "last", "k", "found", "low"]
theorem sc_risen : FnScope ["seal", "leaf", "place", "size", "path", "rest", "sides", "last", "k", "found", "low"] ["seal", "leaf", "place", "size", "path"] (defScope s_risen) := ⟨rfl, rfl, rfl, by decide +kernel, rfl, by decide +kernel, by decide +kernel⟩
abbrev s_regrown : Stmt := topS 17
abbrev N_regrown : List Str := ["seal", "old", "size", "paper", "last", "rest", "sides", "k", "one", "other", "low"]
theorem sc_regrown : FnScope ["seal", "old", "size", "paper", "last", "rest", "sides", "k", "one", "other", "low"] ["seal", "old", "size", "paper"] (defScope s_regrown) := ⟨rfl, rfl, rfl, by decide +kernel, rfl, by decide +kernel, by decide +kernel⟩
abbrev s_parted : Stmt := topS 19
abbrev N_parted : List Str := ["rows", "level", "low", "high", "row"]
theorem sc_parted : FnScope ["rows", "level", "low", "high", "row"] ["rows", "level"] (defScope s_parted) := ⟨rfl, rfl, rfl, by decide +kernel, rfl, by decide +kernel, by decide +kernel⟩
abbrev s_part_top : Stmt := topS 20
abbrev N_part_top : List Str := ["seal", "rows", "level", "both"]
theorem sc_part_top : FnScope ["seal", "rows", "level", "both"] ["seal", "rows", "level"] (defScope s_part_top) := ⟨rfl, rfl, rfl, by decide +kernel, rfl, by decide +kernel, by decide +kernel⟩
abbrev s_table_seal : Stmt := topS 21
abbrev N_table_seal : List Str := ["seal", "depth", "top"]
theorem sc_table_seal : FnScope ["seal", "depth", "top"] ["seal", "depth", "top"] (defScope s_table_seal) := ⟨rfl, rfl, rfl, by decide +kernel, rfl, by decide +kernel, by decide +kernel⟩
abbrev s_climbed : Stmt := topS 22
abbrev N_climbed : List Str := ["seal", "key", "depth", "way", "end", "top", "level", "other"]
theorem sc_climbed : FnScope ["seal", "key", "depth", "way", "end", "top", "level", "other"] ["seal", "key", "depth", "way"] (defScope s_climbed) := ⟨rfl, rfl, rfl, by decide +kernel, rfl, by decide +kernel, by decide +kernel⟩
abbrev s_Table___init__ : Stmt := inClass (topS 23) 0
abbrev N_Table___init__ : List Str := ["self", "seal", "depth"]
theorem sc_Table___init__ : FnScope ["self", "seal", "depth"] ["self", "seal", "depth"] (defScope s_Table___init__) := ⟨rfl, rfl, rfl, by decide +kernel, rfl, by decide +kernel, by decide +kernel⟩
abbrev s_Table_asked : Stmt := inClass (topS 23) 1
abbrev N_Table_asked : List Str := ["self", "key"]
theorem sc_Table_asked : FnScope ["self", "key"] ["self", "key"] (defScope s_Table_asked) := ⟨rfl, rfl, rfl, by decide +kernel, rfl, by decide +kernel, by decide +kernel⟩
abbrev s_Table_put : Stmt := inClass (topS 23) 2
abbrev N_Table_put : List Str := ["self", "key", "text"]
theorem sc_Table_put : FnScope ["self", "key", "text"] ["self", "key", "text"] (defScope s_Table_put) := ⟨rfl, rfl, rfl, by decide +kernel, rfl, by decide +kernel, by decide +kernel⟩
abbrev s_Table_cut : Stmt := inClass (topS 23) 3
abbrev N_Table_cut : List Str := ["self", "key"]
theorem sc_Table_cut : FnScope ["self", "key"] ["self", "key"] (defScope s_Table_cut) := ⟨rfl, rfl, rfl, by decide +kernel, rfl, by decide +kernel, by decide +kernel⟩
abbrev s_Table_value : Stmt := inClass (topS 23) 4
abbrev N_Table_value : List Str := ["self", "key"]
theorem sc_Table_value : FnScope ["self", "key"] ["self", "key"] (defScope s_Table_value) := ⟨rfl, rfl, rfl, by decide +kernel, rfl, by decide +kernel, by decide +kernel⟩
abbrev s_Table_rows : Stmt := inClass (topS 23) 5
abbrev N_Table_rows : List Str := ["self", "key", "text"]
theorem sc_Table_rows : FnScope ["self", "key", "text"] ["self"] (defScope s_Table_rows) := ⟨rfl, rfl, rfl, by decide +kernel, rfl, by decide +kernel, by decide +kernel⟩
abbrev s_Table_head : Stmt := inClass (topS 23) 6
abbrev N_Table_head : List Str := ["self"]
theorem sc_Table_head : FnScope ["self"] ["self"] (defScope s_Table_head) := ⟨rfl, rfl, rfl, by decide +kernel, rfl, by decide +kernel, by decide +kernel⟩
abbrev s_Table_way : Stmt := inClass (topS 23) 7
abbrev N_Table_way : List Str := ["self", "key", "rows", "level", "others", "both", "bit"]
theorem sc_Table_way : FnScope ["self", "key", "rows", "level", "others", "both", "bit"] ["self", "key"] (defScope s_Table_way) := ⟨rfl, rfl, rfl, by decide +kernel, rfl, by decide +kernel, by decide +kernel⟩
abbrev s_Table_twin : Stmt := inClass (topS 23) 8
abbrev N_Table_twin : List Str := ["self"]
theorem sc_Table_twin : FnScope ["self"] ["self"] (defScope s_Table_twin) := ⟨rfl, rfl, rfl, by decide +kernel, rfl, by decide +kernel, by decide +kernel⟩
abbrev s_Claim_judged : Stmt := inClass (topS 25) 0
abbrev N_Claim_judged : List Str := ["self", "seal", "size", "head", "paper", "shows"]
theorem sc_Claim_judged : FnScope ["self", "seal", "size", "head", "paper", "shows"] ["self", "seal", "size", "head", "paper"] (defScope s_Claim_judged) := ⟨rfl, rfl, rfl, by decide +kernel, rfl, by decide +kernel, by decide +kernel⟩
abbrev s_Claim_shown : Stmt := inClass (topS 25) 1
abbrev N_Claim_shown : List Str := ["self", "seal", "size", "head", "paper"]
theorem sc_Claim_shown : FnScope ["self", "seal", "size", "head", "paper"] ["self", "seal", "size", "head", "paper"] (defScope s_Claim_shown) := ⟨rfl, rfl, rfl, by decide +kernel, rfl, by decide +kernel, by decide +kernel⟩
abbrev s_Stands___init__ : Stmt := inClass (topS 26) 0
abbrev N_Stands___init__ : List Str := ["self", "place", "text", "table"]
theorem sc_Stands___init__ : FnScope ["self", "place", "text", "table"] ["self", "place", "text", "table"] (defScope s_Stands___init__) := ⟨rfl, rfl, rfl, by decide +kernel, rfl, by decide +kernel, by decide +kernel⟩
abbrev s_Stands_shown : Stmt := inClass (topS 26) 1
abbrev N_Stands_shown : List Str := ["self", "seal", "size", "head", "paper", "leaf"]
theorem sc_Stands_shown : FnScope ["self", "seal", "size", "head", "paper", "leaf"] ["self", "seal", "size", "head", "paper"] (defScope s_Stands_shown) := ⟨rfl, rfl, rfl, by decide +kernel, rfl, by decide +kernel, by decide +kernel⟩
abbrev s_Grows___init__ : Stmt := inClass (topS 27) 0
abbrev N_Grows___init__ : List Str := ["self", "old", "head"]
theorem sc_Grows___init__ : FnScope ["self", "old", "head"] ["self", "old", "head"] (defScope s_Grows___init__) := ⟨rfl, rfl, rfl, by decide +kernel, rfl, by decide +kernel, by decide +kernel⟩
abbrev s_Grows_shown : Stmt := inClass (topS 27) 1
abbrev N_Grows_shown : List Str := ["self", "seal", "size", "head", "paper", "empty", "both"]
theorem sc_Grows_shown : FnScope ["self", "seal", "size", "head", "paper", "empty", "both"] ["self", "seal", "size", "head", "paper"] (defScope s_Grows_shown) := ⟨rfl, rfl, rfl, by decide +kernel, rfl, by decide +kernel, by decide +kernel⟩
abbrev s_Behind___init__ : Stmt := inClass (topS 28) 0
abbrev N_Behind___init__ : List Str := ["self", "place", "key", "depth"]
theorem sc_Behind___init__ : FnScope ["self", "place", "key", "depth"] ["self", "place", "key", "depth"] (defScope s_Behind___init__) := ⟨rfl, rfl, rfl, by decide +kernel, rfl, by decide +kernel, by decide +kernel⟩
abbrev s_Behind_ends : Stmt := inClass (topS 28) 1
abbrev N_Behind_ends : List Str := ["self", "end"]
theorem sc_Behind_ends : FnScope ["self", "end"] ["self", "end"] (defScope s_Behind_ends) := ⟨rfl, rfl, rfl, by decide +kernel, rfl, by decide +kernel, by decide +kernel⟩
abbrev s_Behind_shown : Stmt := inClass (topS 28) 2
abbrev N_Behind_shown : List Str := ["self", "seal", "size", "head", "paper", "entry", "top"]
theorem sc_Behind_shown : FnScope ["self", "seal", "size", "head", "paper", "entry", "top"] ["self", "seal", "size", "head", "paper"] (defScope s_Behind_shown) := ⟨rfl, rfl, rfl, by decide +kernel, rfl, by decide +kernel, by decide +kernel⟩
abbrev s_Holds___init__ : Stmt := inClass (topS 29) 0
abbrev N_Holds___init__ : List Str := ["self", "place", "key", "value", "depth"]
theorem sc_Holds___init__ : FnScope ["self", "place", "key", "value", "depth"] ["self", "place", "key", "value", "depth"] (defScope s_Holds___init__) := ⟨rfl, rfl, rfl, by decide +kernel, rfl, by decide +kernel, by decide +kernel⟩
abbrev s_Holds_ends : Stmt := inClass (topS 29) 1
abbrev N_Holds_ends : List Str := ["self", "end"]
theorem sc_Holds_ends : FnScope ["self", "end"] ["self", "end"] (defScope s_Holds_ends) := ⟨rfl, rfl, rfl, by decide +kernel, rfl, by decide +kernel, by decide +kernel⟩
abbrev s_Lacks_ends : Stmt := inClass (topS 30) 0
abbrev N_Lacks_ends : List Str := ["self", "end"]
theorem sc_Lacks_ends : FnScope ["self", "end"] ["self", "end"] (defScope s_Lacks_ends) := ⟨rfl, rfl, rfl, by decide +kernel, rfl, by decide +kernel, by decide +kernel⟩
abbrev s_Frontier___init__ : Stmt := inClass (topS 32) 0
abbrev N_Frontier___init__ : List Str := ["self", "seal"]
theorem sc_Frontier___init__ : FnScope ["self", "seal"] ["self", "seal"] (defScope s_Frontier___init__) := ⟨rfl, rfl, rfl, by decide +kernel, rfl, by decide +kernel, by decide +kernel⟩
abbrev s_Frontier_add : Stmt := inClass (topS 32) 1
abbrev N_Frontier_add : List Str := ["self", "leaf", "tops", "bits", "right", "left"]
theorem sc_Frontier_add : FnScope ["self", "leaf", "tops", "bits", "right", "left"] ["self", "leaf"] (defScope s_Frontier_add) := ⟨rfl, rfl, rfl, by decide +kernel, rfl, by decide +kernel, by decide +kernel⟩
abbrev s_Frontier_size : Stmt := inClass (topS 32) 2
abbrev N_Frontier_size : List Str := ["self"]
theorem sc_Frontier_size : FnScope ["self"] ["self"] (defScope s_Frontier_size) := ⟨rfl, rfl, rfl, by decide +kernel, rfl, by decide +kernel, by decide +kernel⟩
abbrev s_Frontier_kept : Stmt := inClass (topS 32) 3
abbrev N_Frontier_kept : List Str := ["self"]
theorem sc_Frontier_kept : FnScope ["self"] ["self"] (defScope s_Frontier_kept) := ⟨rfl, rfl, rfl, by decide +kernel, rfl, by decide +kernel, by decide +kernel⟩
abbrev s_Frontier_top : Stmt := inClass (topS 32) 4
abbrev N_Frontier_top : List Str := ["self", "whole", "left"]
theorem sc_Frontier_top : FnScope ["self", "whole", "left"] ["self"] (defScope s_Frontier_top) := ⟨rfl, rfl, rfl, by decide +kernel, rfl, by decide +kernel, by decide +kernel⟩
abbrev s_key_of : Stmt := topS 34
abbrev N_key_of : List Str := ["figures", "depth", "key"]
theorem sc_key_of : FnScope ["figures", "depth", "key"] ["figures", "depth"] (defScope s_key_of) := ⟨rfl, rfl, rfl, by decide +kernel, rfl, by decide +kernel, by decide +kernel⟩
abbrev s_read_row : Stmt := topS 35
abbrev N_read_row : List Str := ["row", "depth", "bare", "word", "blank", "rest", "figures", "behind", "text", "key"]
theorem sc_read_row : FnScope ["row", "depth", "bare", "word", "blank", "rest", "figures", "behind", "text", "key"] ["row", "depth"] (defScope s_read_row) := ⟨rfl, rfl, rfl, by decide +kernel, rfl, by decide +kernel, by decide +kernel⟩
abbrev s_placed : Stmt := topS 36
abbrev N_placed : List Str := ["row", "place", "depth", "said"]
theorem sc_placed : FnScope ["row", "place", "depth", "said"] ["row", "place", "depth"] (defScope s_placed) := ⟨rfl, rfl, rfl, by decide +kernel, rfl, by decide +kernel, by decide +kernel⟩
abbrev s_changed : Stmt := topS 37
abbrev N_changed : List Str := ["table", "text", "depth", "other", "key", "value", "place", "row", "said"]
theorem sc_changed : FnScope ["table", "text", "depth", "other", "key", "value", "place", "row", "said"] ["table", "text", "depth"] (defScope s_changed) := ⟨rfl, rfl, rfl, by decide +kernel, rfl, by decide +kernel, by decide +kernel⟩
abbrev s_Keeper___init__ : Stmt := inClass (topS 39) 0
abbrev N_Keeper___init__ : List Str := ["self", "seal", "depth"]
theorem sc_Keeper___init__ : FnScope ["self", "seal", "depth"] ["self", "seal", "depth"] (defScope s_Keeper___init__) := ⟨rfl, rfl, rfl, by decide +kernel, rfl, by decide +kernel, by decide +kernel⟩
abbrev s_Keeper_add : Stmt := inClass (topS 39) 1
abbrev N_Keeper_add : List Str := ["self", "text", "last", "table"]
theorem sc_Keeper_add : FnScope ["self", "text", "last", "table"] ["self", "text"] (defScope s_Keeper_add) := ⟨rfl, rfl, rfl, by decide +kernel, rfl, by decide +kernel, by decide +kernel⟩
abbrev s_Keeper_size : Stmt := inClass (topS 39) 2
abbrev N_Keeper_size : List Str := ["self"]
theorem sc_Keeper_size : FnScope ["self"] ["self"] (defScope s_Keeper_size) := ⟨rfl, rfl, rfl, by decide +kernel, rfl, by decide +kernel, by decide +kernel⟩
abbrev s_Keeper_first : Stmt := inClass (topS 39) 3
abbrev N_Keeper_first : List Str := ["self", "size"]
theorem sc_Keeper_first : FnScope ["self", "size"] ["self", "size"] (defScope s_Keeper_first) := ⟨rfl, rfl, rfl, by decide +kernel, rfl, by decide +kernel, by decide +kernel⟩
abbrev s_Keeper_within : Stmt := inClass (topS 39) 4
abbrev N_Keeper_within : List Str := ["self", "place", "size"]
theorem sc_Keeper_within : FnScope ["self", "place", "size"] ["self", "place", "size"] (defScope s_Keeper_within) := ⟨rfl, rfl, rfl, by decide +kernel, rfl, by decide +kernel, by decide +kernel⟩
abbrev s_Keeper_text : Stmt := inClass (topS 39) 5
abbrev N_Keeper_text : List Str := ["self", "place"]
theorem sc_Keeper_text : FnScope ["self", "place"] ["self", "place"] (defScope s_Keeper_text) := ⟨rfl, rfl, rfl, by decide +kernel, rfl, by decide +kernel, by decide +kernel⟩
abbrev s_Keeper_table_head : Stmt := inClass (topS 39) 6
abbrev N_Keeper_table_head : List Str := ["self", "place"]
theorem sc_Keeper_table_head : FnScope ["self", "place"] ["self", "place"] (defScope s_Keeper_table_head) := ⟨rfl, rfl, rfl, by decide +kernel, rfl, by decide +kernel, by decide +kernel⟩
abbrev s_Keeper_head : Stmt := inClass (topS 39) 7
abbrev N_Keeper_head : List Str := ["self", "size", "leaves"]
theorem sc_Keeper_head : FnScope ["self", "size", "leaves"] ["self", "size"] (defScope s_Keeper_head) := ⟨rfl, rfl, rfl, by decide +kernel, rfl, by decide +kernel, by decide +kernel⟩
abbrev s_Keeper_path : Stmt := inClass (topS 39) 8
abbrev N_Keeper_path : List Str := ["self", "place", "size", "leaves"]
theorem sc_Keeper_path : FnScope ["self", "place", "size", "leaves"] ["self", "place", "size"] (defScope s_Keeper_path) := ⟨rfl, rfl, rfl, by decide +kernel, rfl, by decide +kernel, by decide +kernel⟩
abbrev s_Keeper_growth : Stmt := inClass (topS 39) 9
abbrev N_Keeper_growth : List Str := ["self", "old", "size", "leaves"]
theorem sc_Keeper_growth : FnScope ["self", "old", "size", "leaves"] ["self", "old", "size"] (defScope s_Keeper_growth) := ⟨rfl, rfl, rfl, by decide +kernel, rfl, by decide +kernel, by decide +kernel⟩
abbrev s_Keeper_way : Stmt := inClass (topS 39) 10
abbrev N_Keeper_way : List Str := ["self", "place", "key"]
theorem sc_Keeper_way : FnScope ["self", "place", "key"] ["self", "place", "key"] (defScope s_Keeper_way) := ⟨rfl, rfl, rfl, by decide +kernel, rfl, by decide +kernel, by decide +kernel⟩
abbrev s_Keeper_paper : Stmt := inClass (topS 39) 11
abbrev N_Keeper_paper : List Str := ["self", "place", "key", "size", "path"]
theorem sc_Keeper_paper : FnScope ["self", "place", "key", "size", "path"] ["self", "place", "key", "size"] (defScope s_Keeper_paper) := ⟨rfl, rfl, rfl, by decide +kernel, rfl, by decide +kernel, by decide +kernel⟩
abbrev s__law_cell_at : Stmt := topS 41
abbrev N__law_cell_at : List Str := ["_law_script", "_law_k"]
theorem sc__law_cell_at : FnScope ["_law_script", "_law_k"] ["_law_script", "_law_k"] (defScope s__law_cell_at) := ⟨rfl, rfl, rfl, by decide +kernel, rfl, by decide +kernel, by decide +kernel⟩
abbrev s__law_draw : Stmt := topS 42
abbrev N__law_draw : List Str := ["_law_cell", "_law_k", "_law_many", "_law_primes"]
theorem sc__law_draw : FnScope ["_law_cell", "_law_k", "_law_many", "_law_primes"] ["_law_cell", "_law_k", "_law_many"] (defScope s__law_draw) := ⟨rfl, rfl, rfl, by decide +kernel, rfl, by decide +kernel, by decide +kernel⟩
abbrev s__law_numbers : Stmt := topS 43
abbrev N__law_numbers : List Str := ["_law_known"]
theorem sc__law_numbers : FnScope ["_law_known"] [] (defScope s__law_numbers) := ⟨rfl, rfl, rfl, by decide +kernel, rfl, by decide +kernel, by decide +kernel⟩
abbrev s__law_seal : Stmt := topS 44
abbrev N__law_seal : List Str := ["_law_mark", "_law_one", "_law_two"]
theorem sc__law_seal : FnScope ["_law_mark", "_law_one", "_law_two"] ["_law_mark", "_law_one", "_law_two"] (defScope s__law_seal) := ⟨rfl, rfl, rfl, by decide +kernel, rfl, by decide +kernel, by decide +kernel⟩
abbrev s__law_top : Stmt := topS 45
abbrev N__law_top : List Str := ["_law_seal_here", "_law_leaves", "_law_half", "_law_one", "_law_other"]
theorem sc__law_top : FnScope ["_law_seal_here", "_law_leaves", "_law_half", "_law_one", "_law_other"] ["_law_seal_here", "_law_leaves"] (defScope s__law_top) := ⟨rfl, rfl, rfl, by decide +kernel, rfl, by decide +kernel, by decide +kernel⟩
abbrev s__law_path : Stmt := topS 46
abbrev N__law_path : List Str := ["_law_seal_here", "_law_leaves", "_law_place", "_law_half", "_law_last"]
theorem sc__law_path : FnScope ["_law_seal_here", "_law_leaves", "_law_place", "_law_half", "_law_last"] ["_law_seal_here", "_law_leaves", "_law_place"] (defScope s__law_path) := ⟨rfl, rfl, rfl, by decide +kernel, rfl, by decide +kernel, by decide +kernel⟩
abbrev s__law_growth : Stmt := topS 47
abbrev N__law_growth : List Str := ["_law_seal_here", "_law_leaves", "_law_old", "_law_half", "_law_last"]
theorem sc__law_growth : FnScope ["_law_seal_here", "_law_leaves", "_law_old", "_law_half", "_law_last"] ["_law_seal_here", "_law_leaves", "_law_old"] (defScope s__law_growth) := ⟨rfl, rfl, rfl, by decide +kernel, rfl, by decide +kernel, by decide +kernel⟩
abbrev s__law_stretches_right : Stmt := topS 48
abbrev N__law_stretches_right : List Str := ["_law_many", "_law_place", "_law_old", "_law_seal_here", "_law_leaves", "_law_handed", "_law_frontier", "_law_top_here", "_law_path_here", "_law_leaf", "_law_ones", "_law_at", "_law_sign"]
theorem sc__law_stretches_right : FnScope ["_law_many", "_law_place", "_law_old", "_law_seal_here", "_law_leaves", "_law_handed", "_law_frontier", "_law_top_here", "_law_path_here", "_law_leaf", "_law_ones", "_law_at", "_law_sign"] ["_law_many", "_law_place", "_law_old"] (defScope s__law_stretches_right) := ⟨rfl, rfl, rfl, by decide +kernel, rfl, by decide +kernel, by decide +kernel⟩
abbrev s__law_keeper_right : Stmt := topS 49
abbrev N__law_keeper_right : List Str := ["_law_many", "_law_cell", "_law_seal_here", "_law_keeper", "_law_leaves", "_law_at", "_law_text", "_law_head", "_law_place", "_law_old", "_law_claim", "_law_grows", "_law_said"]
theorem sc__law_keeper_right : FnScope ["_law_many", "_law_cell", "_law_seal_here", "_law_keeper", "_law_leaves", "_law_at", "_law_text", "_law_head", "_law_place", "_law_old", "_law_claim", "_law_grows", "_law_said"] ["_law_many", "_law_cell"] (defScope s__law_keeper_right) := ⟨rfl, rfl, rfl, by decide +kernel, rfl, by decide +kernel, by decide +kernel⟩
abbrev s__law_table_right : Stmt := topS 50
abbrev N__law_table_right : List Str := ["_law_many", "_law_cell", "_law_seal_here", "_law_one", "_law_other", "_law_keys", "_law_key", "_law_few", "_law_at"]
theorem sc__law_table_right : FnScope ["_law_many", "_law_cell", "_law_seal_here", "_law_one", "_law_other", "_law_keys", "_law_key", "_law_few", "_law_at"] ["_law_many", "_law_cell"] (defScope s__law_table_right) := ⟨rfl, rfl, rfl, by decide +kernel, rfl, by decide +kernel, by decide +kernel⟩
abbrev s__law_forms_right : Stmt := topS 51
abbrev N__law_forms_right : List Str := ["_law_cell", "_law_keeper", "_law_at", "_law_place", "_law_key", "_law_head", "_law_paper", "_law_text", "_law_table", "_law_path_here", "_law_way", "_law_end", "_law_there", "_law_claim", "_law_bad", "_law_some", "_law_many"]
theorem sc__law_forms_right : FnScope ["_law_cell", "_law_keeper", "_law_at", "_law_place", "_law_key", "_law_head", "_law_paper", "_law_text", "_law_table", "_law_path_here", "_law_way", "_law_end", "_law_there", "_law_claim", "_law_bad", "_law_some", "_law_many"] ["_law_cell"] (defScope s__law_forms_right) := ⟨rfl, rfl, rfl, by decide +kernel, rfl, by decide +kernel, by decide +kernel⟩
abbrev s__law_paths_right : Stmt := topS 52
abbrev N__law_paths_right : List Str := ["_law_keeper", "_law_place", "_law_path_here", "_law_head", "_law_stands", "_law_grows", "_law_growth_here", "_law_some", "_law_said"]
theorem sc__law_paths_right : FnScope ["_law_keeper", "_law_place", "_law_path_here", "_law_head", "_law_stands", "_law_grows", "_law_growth_here", "_law_some", "_law_said"] ["_law_keeper", "_law_place", "_law_path_here", "_law_head"] (defScope s__law_paths_right) := ⟨rfl, rfl, rfl, by decide +kernel, rfl, by decide +kernel, by decide +kernel⟩
abbrev s_law : Stmt := topS 53
abbrev N_law : List Str := ["_law_script", "_law_cell", "_law_many", "_law_at"]
theorem sc_law : FnScope ["_law_script", "_law_cell", "_law_many", "_law_at"] ["_law_script"] (defScope s_law) := ⟨rfl, rfl, rfl, by decide +kernel, rfl, by decide +kernel, by decide +kernel⟩

/-! ### a def of the module -/
structure DefX (K : PySem.W.Frag) (mg : Str → Option Value) (x : Str) (st : Stmt) (ps : List Str) : Prop where
  ex : ∃ (f : Addr) (fd : FuncData), L2.Fun K x x st f fd ∧ mg x = some (.ref f) ∧ ∀ us : List Value, us.length = ps.length → bindArgs fd ⟨us, []⟩ = pure (ps.zip us)
/-- a def that makes defs: its code object's address is told -/
structure DefM (K : PySem.W.Frag) (mg : Str → Option Value) (x : Str) (st : Stmt) (c : Addr) : Prop where
  ex : ∃ (f : Addr) (oc : Value) (od : Option Addr) (kV doc pm : Value) (an : Option Addr) (ct : Value) (osl : Array (Option Value)), K.lookup f = some ⟨oc, od, .func (PySem.W.fnOf x x (defArgs st) (defBody st) (defScope st) .none kV doc pm an (.ref c) ct), osl⟩ ∧
    PySem.W.codeIn K (.ref c) x = true ∧ PySem.W.keepIn K (.ref f) = true ∧ mg x = some (.ref f)
/-- an own class of errors over ValueError, without an __init__ of its own -/
structure ExcF (K : PySem.W.Frag) (C : Addr) : Prop where
  xP : PySem.W.excIn K C [.type "ValueError", .type "Exception", .type "BaseException", .type "object"] "ValueError.__new__" = true
  kP : PySem.W.keepIn K (.ref C) = true
  bP : PySem.W.subIn K (.ref C) (.type "BaseException") = some true
  tP : PySem.W.typeIn K (.ref C) = some (.type "type")
  cP : ExcC K C
  eP : PySem.W.exmOne K (.ref C) (.ref C) = some true
structure ExcX (K : PySem.W.Frag) (mg : Str → Option Value) (x : Str) : Prop where
  ex : ∃ C, mg x = some (.ref C) ∧ ExcF K C
/-- a def that may raise -/
structure CalX (P : Program) (w : World) (K : PySem.W.Frag) (mg : Str → Option Value) (base : Heap) (k : Nat) (x : Str) (sp : Sp) : Prop where
  ex : ∃ (f : Addr) (fd : FuncData) (ps : List Str), FnOk P w K mg base (L2.CX P w) k f fd ps sp ∧ mg x = some (.ref f) ∧ PySem.W.keepIn K (.ref f) = true ∧ Binds K fd ps []
theorem calX_of {P : Program} {w : World} {K : PySem.W.Frag} {mg : Str → Option Value} {base : Heap} {x : Str} {st : Stmt} {N ps : List Str} {k : Nat} {sp : Sp} (D : DefX K mg x st ps) (S : FnScope N ps (defScope st)) (len : ∀ vs H Q E, sp vs H Q E → vs.length = ps.length)
    (hbody : ∀ (f : Addr) (cdv : Value) (A : Around) (outer : List Env) (s : Shared) (H : Hp) (vs : List V) (Q : VK) (E : XK), Room k (A.deeper (envOfC x (defScope st) s.heap.objs.size f cdv)) → sp vs H Q E →
      ∃ t, PSs (cxOf (L2.CX P w) P w K mg base N x (defScope st) f cdv A outer s H E) (defBody st) t ∧ t { nx := fun _ H' => Q .non H', rt := Q } (start N vs) H) : CalX P w K mg base (k + 1) x sp := by
  obtain ⟨f, fd, F, m, b⟩ := D.ex
  exact ⟨f, fd, ps, F.okX S len (hbody f), m, F.kp, .all b⟩
theorem calX_mono {P : Program} {w : World} {K : PySem.W.Frag} {mg : Str → Option Value} {base : Heap} {x : Str} {j k : Nat} {sp : Sp} (c : CalX P w K mg base j x sp) (h : j ≤ k) : CalX P w K mg base k x sp := by
  obtain ⟨f, fd, ps, F, m, kp, b⟩ := c.ex
  exact ⟨f, fd, ps, F.mono h, m, kp, b⟩
/-- x(..) that may raise, within what takes W -/
theorem pe_cx {X : Cx} {k j : Nat} {x : Str} {sp : Sp} {W : WX} {t : TA} {e : Expr} {es : List Expr} {p pos : Pos} (c : CalX X.prog X.w X.K X.mg X.base k x sp) (tk : Takes X W) (hr : Room j X.A) (hk : k ≤ j) (hg : Gl X x) (ha : PA X (e :: es) t)
    (hdb : (x == ("__debug__" : Str)) = false := by decide) (he : starEach (e :: es) X.env = (false, eval e X.env) :: starEach es X.env := by rfl) (hpl : (backTo pos (starEach es X.env)).any (·.1) = false := by rfl) :
    PE X (.Call (.Name x p) (e :: es) [] pos) (tCallS sp (WE W) t) := by
  obtain ⟨f, fd, ps, F, m, kp, b⟩ := c.ex
  exact pe_callS F (hr.mono hk) hg m kp b (fun σ => passAt tk σ) ha hdb he hpl
theorem zc_of {cls : Value} {C : Addr} {d : Option Addr} {oe : Obj} (hz : Zc cls d oe) (h : cls = .ref C ∧ d = none) : Zc (.ref C) none oe := by
  rw [← h.1, ← h.2]
  exact hz
/-- known where the reading is at hand -/
theorem pss_when {X : Cx} {st : List Stmt} {t : TS} {P : Prop} (h : P → PSs X st t) : PSs X st (fun D σ H => P ∧ t D σ H) := ⟨fun pins s σ H D I ⟨p, q⟩ => (h p).run pins s σ H D I q⟩
theorem pe_when {X : Cx} {e : Expr} {t : TE} {P : Prop} (h : P → PE X e t) : PE X e (fun σ H Q => P ∧ t σ H Q) := ⟨fun pins s σ H Q I ⟨p, q⟩ => (h p).run pins s σ H Q I q⟩
/-- raise X('..') -/
theorem ps_raiseX {X : Cx} {W : WX} {x m : Str} {C : Addr} {j : Nat} {p p2 p3 pos : Pos} (F : ExcF X.K C) (gC : X.mg x = some (.ref C)) (hc : X.calm = true) (tk : Takes X W) (hg : Gl X x) (hdb : (x == ("__debug__" : Str)) = false := by decide) :
    PS X (.Raise (some (.Call (.Name x p) [.Constant (.str m) j p2] [] p3)) none pos) (fun _ σ H => W (.ref C) none σ H) :=
  ps_raise hc tk (pmk_own PySem.F.excBase_ValueError F.xP gC F.kP (raises_own F.bP F.tP) hg hdb)
theorem cal_of {P : Program} {w : World} {K : PySem.W.Frag} {mg : Str → Option Value} {base : Heap} {x : Str} {st : Stmt} {N ps : List Str} {k : Nat} {sp : Sp} (D : DefX K mg x st ps) (S : FnScope N ps (defScope st)) (len : ∀ vs H Q E, sp vs H Q E → vs.length = ps.length)
    (hbody : ∀ (f : Addr) (cdv : Value) (A : Around) (outer : List Env) (s : Shared) (H : Hp) (vs : List V) (Q : VK) (E : XK), Room k (A.deeper (envOfC x (defScope st) s.heap.objs.size f cdv)) → sp vs H Q E →
      ∃ t, PSs (cxOf L2.CX0 P w K mg base N x (defScope st) f cdv A outer s H E).nox (defBody st) t ∧ t { nx := fun _ H' => Q .non H', rt := Q } (start N vs) H) : Cal P w K mg base (k + 1) x sp [] := by
  obtain ⟨f, fd, F, m, b⟩ := D.ex
  exact ⟨f, fd, ps, [], F.ok S len (hbody f), m, F.kp, .all b, .nil⟩
/-- the law's own def, for the end -/
theorem law_fn {P : Program} {w : World} {K : PySem.W.Frag} {mg : Str → Option Value} {x p : Str} {st : Stmt} {N : List Str} {k : Nat} {sp : Sp} {fa : Addr} (D : DefX K mg x st [p]) (hfa : mg x = some (.ref fa)) (S : FnScope N [p] (defScope st)) (len : ∀ vs H Q E, sp vs H Q E → vs.length = 1)
    (hbody : ∀ (base : Heap) (f : Addr) (cdv : Value) (A : Around) (outer : List Env) (s : Shared) (H : Hp) (vs : List V) (Q : VK) (E : XK), Room k (A.deeper (envOfC x (defScope st) s.heap.objs.size f cdv)) → sp vs H Q E →
      ∃ t, PSs (cxOf L2.CX0 P w K mg base N x (defScope st) f cdv A outer s H E).nox (defBody st) t ∧ t { nx := fun _ H' => Q .non H', rt := Q } (start N vs) H) :
    ∃ fd : FuncData, (∀ (s : Shared) (v : Value), BindsTo s fd ⟨[v], []⟩ [(p, v)]) ∧ ∀ base : Heap, K.In base → base.Ns mainGlobals mg → FnOk P w K mg base L2.CX0 (k + 1) fa fd [p] sp := by
  obtain ⟨f, fd, F, m, b⟩ := D.ex
  have e := hfa.symm.trans m
  cases e
  exact ⟨fd, fun s v => .of_eq (b [v] rfl), fun base _ _ => F.ok S len (hbody base fa)⟩
theorem cut_to (xs : List V) (n : Nat) : cutV xs none (some (n : Int)) = xs.take n := by
  unfold cutV
  rw [HT.sIx_none, HT.sIx_nat, List.drop_zero, Nat.sub_zero]
  by_cases h : n ≤ xs.length
  · rw [Nat.min_eq_left h]
  · rw [Nat.min_eq_right (by omega), List.take_length, List.take_of_length_le (by omega)]
theorem cut_from (xs : List V) (n : Nat) : cutV xs (some (n : Int)) none = xs.drop n := by
  unfold cutV
  rw [HT.sIx_none, HT.sIx_nat]
  by_cases h : n ≤ xs.length
  · rw [Nat.min_eq_left h, List.take_of_length_le (by rw [List.length_drop]; omega)]
  · rw [Nat.min_eq_right (by omega), List.drop_length, List.drop_eq_nil_of_le (by omega), List.take_nil]
theorem cut_mid {xs : List V} {n m : Nat} (h : n ≤ m) (hm : m ≤ xs.length) : cutV xs (some (n : Int)) (some (m : Int)) = (xs.drop n).take (m - n) := by
  unfold cutV
  rw [HT.sIx_nat, HT.sIx_nat, Nat.min_eq_left hm, Nat.min_eq_left (show n ≤ xs.length by omega)]
theorem take63 {ns : List Int} (h : ns.length ≤ 63) : cutV (ns.map V.int) none (some 63) = ns.map V.int := by
  rw [show (63 : Int) = ((63 : Nat) : Int) from rfl, cut_to, List.take_of_length_le (by rw [List.length_map]; exact h)]
theorem small {n : Nat} (h : n ≤ 1000) : n ≤ sizeLine := Nat.le_of_lt (small1000 h)
theorem same_upd {H : Hp} {p : Addr} {o : HO} (h : H p = none) : Same H (upd H p o) := fun b x e => by
  rw [upd_ne (ne_of_none e h)]
  exact e

/-! ### classes -/
structure MetX (K : PySem.W.Frag) (C : Addr) (m qual : Str) (st : Stmt) (ps : List Str) : Prop where
  ex : ∃ (f : Addr) (fd : FuncData), L2.Fun K m qual st f fd ∧ Meth K C m f ∧ ∀ us : List Value, us.length = ps.length → bindArgs fd ⟨us, []⟩ = pure (ps.zip us)
structure MakX (K : PySem.W.Frag) (C : Addr) (qual : Str) (st : Stmt) (ps : List Str) : Prop where
  ex : ∃ (f : Addr) (fd : FuncData), L2.Fun K "__init__" qual st f fd ∧ Mk K C f ∧ ∀ us : List Value, us.length = ps.length → bindArgs fd ⟨us, []⟩ = pure (ps.zip us)
/-- an __init__ with defaults -/
structure MakD (K : PySem.W.Frag) (C : Addr) (qual : Str) (st : Stmt) (ps : List Str) (dvs : List V) : Prop where
  ex : ∃ (f : Addr) (fd : FuncData), L2.FunD K "__init__" qual (defArgs st) (defBody st) (defScope st) dvs [] f fd ∧ Mk K C f
theorem mak_ofD {P : Program} {w : World} {K : PySem.W.Frag} {mg : Str → Option Value} {base : Heap} {C : Addr} {x qual : Str} {st : Stmt} {N ps : List Str} {dvs : List V} {k : Nat} {sp : Sp} (n j : Nat) (hm : mg x = some (.ref C)) (D : MakD K C qual st ps dvs) (hd : dvs ≠ []) (hn : n + (dvs.length - j) = ps.length)
    (hb : ∀ (T : Addr) (kV doc pm : Value) (an : Option Addr) (cdv ct : Value) (us its : List Value), us.length = n → its.length = dvs.length →
      ∃ k, bindArgs (PySem.W.fnOf "__init__" qual (defArgs st) (defBody st) (defScope st) (.ref T) kV doc pm an cdv ct) ⟨us, []⟩ = seqItems? (.ref T) >>= k ∧ k (some its.toArray) = pure (ps.zip (us ++ its.drop j)))
    (S : FnScope N ps (defScope st)) (len : ∀ vs H Q E, sp vs H Q E → vs.length = ps.length)
    (hbody : ∀ (f : Addr) (cdv : Value) (A : Around) (outer : List Env) (s : Shared) (H : Hp) (vs : List V) (Q : VK) (E : XK), Room k (A.deeper (envOfC qual (defScope st) s.heap.objs.size f cdv)) → sp vs H Q E →
      ∃ t, PSs (cxOf L2.CX0 P w K mg base N qual (defScope st) f cdv A outer s H E).nox (defBody st) t ∧ t { nx := fun _ H' => Q .non H', rt := Q } (start N vs) H) : Mak P w K mg base (k + 1) x C sp (dvs.drop j) := by
  obtain ⟨f, fd, F, M⟩ := D.ex
  obtain ⟨ds, d, b⟩ := F.binds1 n j hd hn hb
  refine ⟨f, fd, ps, ds, M, F.ok S len fun cdv A outer s H vs Q E hr h => ?_, hm, b, d⟩
  obtain ⟨t, h1, h2⟩ := hbody f cdv A outer s H vs Q E hr h
  exact ⟨t, h1.nox, h2⟩
theorem met_of {P : Program} {w : World} {K : PySem.W.Frag} {mg : Str → Option Value} {base : Heap} {C : Addr} {m qual : Str} {st : Stmt} {N ps : List Str} {k : Nat} {sp : Sp} (c : Cls K C) (D : MetX K C m qual st ps) (S : FnScope N ps (defScope st)) (len : ∀ vs H Q E, sp vs H Q E → vs.length = ps.length)
    (hbody : ∀ (f : Addr) (cdv : Value) (A : Around) (outer : List Env) (s : Shared) (H : Hp) (vs : List V) (Q : VK) (E : XK), Room k (A.deeper (envOfC qual (defScope st) s.heap.objs.size f cdv)) → sp vs H Q E →
      ∃ t, PSs (cxOf L2.CX0 P w K mg base N qual (defScope st) f cdv A outer s H E).nox (defBody st) t ∧ t { nx := fun _ H' => Q .non H', rt := Q } (start N vs) H) : Met P w K mg base (k + 1) C m sp [] := by
  obtain ⟨f, fd, F, me, b⟩ := D.ex
  exact ⟨f, fd, ps, [], c, me, F.ok S len (hbody f), .all b, .nil⟩
theorem mak_of {P : Program} {w : World} {K : PySem.W.Frag} {mg : Str → Option Value} {base : Heap} {C : Addr} {x qual : Str} {st : Stmt} {N ps : List Str} {k : Nat} {sp : Sp} (hm : mg x = some (.ref C)) (D : MakX K C qual st ps) (S : FnScope N ps (defScope st)) (len : ∀ vs H Q E, sp vs H Q E → vs.length = ps.length)
    (hbody : ∀ (f : Addr) (cdv : Value) (A : Around) (outer : List Env) (s : Shared) (H : Hp) (vs : List V) (Q : VK) (E : XK), Room k (A.deeper (envOfC qual (defScope st) s.heap.objs.size f cdv)) → sp vs H Q E →
      ∃ t, PSs (cxOf L2.CX0 P w K mg base N qual (defScope st) f cdv A outer s H E).nox (defBody st) t ∧ t { nx := fun _ H' => Q .non H', rt := Q } (start N vs) H) : Mak P w K mg base (k + 1) x C sp [] := by
  obtain ⟨f, fd, F, M, b⟩ := D.ex
  exact ⟨f, fd, ps, [], M, F.ok S len (hbody f), hm, .all b, .nil⟩

/-! ### a method with defaults, as it stands -/
structure MetD (K : PySem.W.Frag) (C : Addr) (m qual : Str) (st : Stmt) (ps : List Str) (dvs : List V) : Prop where
  ex : ∃ (f : Addr) (fd : FuncData), L2.FunD K m qual (defArgs st) (defBody st) (defScope st) dvs [] f fd ∧ Meth K C m f

/-! ### a method read off its class -/
structure ClsM (K : PySem.W.Frag) (mg : Str → Option Value) (C : Addr) (x m qual : Str) (st : Stmt) (ps : List Str) : Prop where
  gC : mg x = some (.ref C)
  ex : ∃ (f : Addr) (fd : FuncData), ClX.CRead K C (.type "type") ∧ PySem.W.findCls K (.ref C) (.type "type") m = some (.val (.ref f)) ∧ L2.Fun K m qual st f fd ∧ PySem.W.keepIn K (.ref f) = true ∧ ∀ us : List Value, us.length = ps.length → bindArgs fd ⟨us, []⟩ = pure (ps.zip us)

/-! ### heaps that grow -/
/-- all that was tracked is as it was, but dicts keyed by tuples may have got more -/
structure Ext (H H' : Hp) : Prop where
  keep : ∀ a o, H a = some o → (∀ kvs, o ≠ .dT kvs) → H' a = some o
  grow : ∀ a kvs, H a = some (.dT kvs) → ∃ more, H' a = some (.dT (kvs ++ more))
theorem Ext.of_same {H H' : Hp} (h : Same H H') : Ext H H' := ⟨fun a o e _ => h a o e, fun a kvs e => ⟨[], by rw [List.append_nil]; exact h a _ e⟩⟩
theorem Ext.refl (H : Hp) : Ext H H := .of_same (Same.refl H)
theorem Ext.trans {H H1 H2 : Hp} (a : Ext H H1) (b : Ext H1 H2) : Ext H H2 := by
  refine ⟨fun x o e n => b.keep x o (a.keep x o e n) n, fun x kvs e => ?_⟩
  obtain ⟨m1, e1⟩ := a.grow x kvs e
  obtain ⟨m2, e2⟩ := b.grow x _ e1
  exact ⟨m1 ++ m2, by rw [e2, List.append_assoc]⟩
theorem Ext.new {H : Hp} {p : Addr} {o : HO} (h : H p = none) : Ext H (upd H p o) := .of_same (same_upd h)
theorem Ext.mut {H H' : Hp} {p : Addr} {o : HO} (e : Ext H H') (h : H p = none) : Ext H (upd H' p o) := by
  refine ⟨fun a u ha n => ?_, fun a kvs ha => ?_⟩
  · rw [upd_ne (ne_of_none ha h)]
    exact e.keep a u ha n
  · rw [upd_ne (ne_of_none ha h)]
    exact e.grow a kvs ha
theorem Ext.free {H H' : Hp} {p : Addr} (e : Ext H H') (h : H' p = none) : H p = none := by
  cases q : H p with
  | none => rfl
  | some o =>
    by_cases n : ∃ kvs, o = .dT kvs
    · obtain ⟨kvs, rfl⟩ := n
      obtain ⟨m, e1⟩ := e.grow p kvs q
      rw [e1] at h
      cases h
    · rw [e.keep p o q fun kvs z => n ⟨kvs, z⟩] at h
      cases h
theorem Ext.lst {H H' : Hp} {a : Addr} {xs : List V} (e : Ext H H') (h : H a = some (.lst xs)) : H' a = some (.lst xs) := e.keep _ _ h fun _ z => nomatch z
theorem Ext.tup {H H' : Hp} {a : Addr} {xs : List V} (e : Ext H H') (h : H a = some (.tup xs)) : H' a = some (.tup xs) := e.keep _ _ h fun _ z => nomatch z
theorem Ext.ins {H H' : Hp} {a C dx : Addr} {fs : List (Str × V)} (e : Ext H H') (h : H a = some (.ins C dx fs)) : H' a = some (.ins C dx fs) := e.keep _ _ h fun _ z => nomatch z
theorem Ext.dK {H H' : Hp} {a : Addr} {kvs : List (Key × V)} (e : Ext H H') (h : H a = some (.dK kvs)) : H' a = some (.dK kvs) := e.keep _ _ h fun _ z => nomatch z
theorem Ext.frz {H H' : Hp} {a : Addr} {o : Obj} {u : HO} (e : Ext H H') (h : H a = some (.frz o u)) : H' a = some (.frz o u) := e.keep _ _ h fun _ z => nomatch z
theorem Ext.seq {K : PySem.W.Frag} {H H' : Hp} {a : Addr} {xs : List V} (e : Ext H H') (h : SqL K H a xs) : SqL K H' a xs := by
  rcases h with (h | ⟨o, h⟩) | h
  · exact .inl (.inl (e.lst h))
  · exact .inl (.inr ⟨o, e.frz h⟩)
  · exact .inr h
theorem Ext.seqT {K : PySem.W.Frag} {H H' : Hp} {a : Addr} {xs : List V} (e : Ext H H') (h : SqT K H a xs) : SqT K H' a xs := by
  rcases h with (h | ⟨o, h⟩) | h
  · exact .inl (.inl (e.tup h))
  · exact .inl (.inr ⟨o, e.frz h⟩)
  · exact .inr h
/-- what the telling of a thing leans on: it is never changed, but dicts keyed by tuples -/
def stat : HO → Prop
  | .lst _ | .dK _ | .ins _ _ _ | .set _ _ | .xd _ => False
  | _ => True
def Kp (H H' : Hp) : Prop := ∀ a o, H a = some o → stat o → H' a = some o
structure Gr (H H' : Hp) : Prop where
  keep : ∀ a o, H a = some o → stat o → (∀ kvs, o ≠ .dT kvs) → H' a = some o
  grow : ∀ a kvs, H a = some (.dT kvs) → ∃ more, H' a = some (.dT (kvs ++ more))
theorem Ext.gr {H H' : Hp} (e : Ext H H') : Gr H H' := ⟨fun a o h _ n => e.keep a o h n, e.grow⟩
theorem Kp.gr {H H' : Hp} (e : Kp H H') : Gr H H' := ⟨fun a o h s _ => e a o h s, fun a kvs h => ⟨[], by rw [List.append_nil]; exact e a _ h True.intro⟩⟩
theorem Kp.refl (H : Hp) : Kp H H := fun _ _ h _ => h
theorem Kp.trans {H H1 H2 : Hp} (a : Kp H H1) (b : Kp H1 H2) : Kp H H2 := fun c o h s => b c o (a c o h s) s
theorem Gr.refl (H : Hp) : Gr H H := (Kp.refl H).gr
theorem Gr.trans {H H1 H2 : Hp} (a : Gr H H1) (b : Gr H1 H2) : Gr H H2 := by
  refine ⟨fun x o e s n => b.keep x o (a.keep x o e s n) s n, fun x kvs e => ?_⟩
  obtain ⟨m1, e1⟩ := a.grow x kvs e
  obtain ⟨m2, e2⟩ := b.grow x _ e1
  exact ⟨m1 ++ m2, by rw [e2, List.append_assoc]⟩
theorem Kp.new {H : Hp} {p : Addr} {o : HO} (h : H p = none) : Kp H (upd H p o) := fun a u e _ => by
  rw [upd_ne (ne_of_none e h)]
  exact e
theorem Kp.lst {H : Hp} {p : Addr} {o : HO} {xs : List V} (h : H p = some (.lst xs)) : Kp H (upd H p o) := fun a u e s => by
  by_cases q : a = p
  · subst q
    rw [h] at e
    cases e
    exact s.elim
  · rw [upd_ne q]
    exact e
theorem Kp.ins {H : Hp} {p C dx : Addr} {o : HO} {fs : List (Str × V)} (h : H p = some (.ins C dx fs)) : Kp H (upd H p o) := fun a u e s => by
  by_cases q : a = p
  · subst q
    rw [h] at e
    cases e
    exact s.elim
  · rw [upd_ne q]
    exact e
theorem Kp.dK {H : Hp} {p : Addr} {o : HO} {kvs : List (Key × V)} (h : H p = some (.dK kvs)) : Kp H (upd H p o) := fun a u e s => by
  by_cases q : a = p
  · subst q
    rw [h] at e
    cases e
    exact s.elim
  · rw [upd_ne q]
    exact e
/-! ### free terms, and seals -/
inductive Tm where
  | int (i : Int)
  | str (x : Str)
  | sl (m : Str) (a b : Tm)
  deriving DecidableEq
def Tm.dep : Tm → Nat
  | .int _ | .str _ => 0
  | .sl _ a b => max a.dep b.dep + 1
abbrev txtOk (x : Str) : Bool := PySem.PyData.strOk x
/-- a seal: its function, what its values tell, its state (so many more things may be told) -/
structure Sys where
  f : Addr
  den : Hp → V → Tm → Prop
  ok : Hp → Nat → Prop
structure Sys.Good (K : PySem.W.Frag) (S : Sys) : Prop where
  mono : ∀ {H H' : Hp} {v : V} {t : Tm}, Gr H H' → S.den H v t → S.den H' v t
  keep : ∀ {H H' : Hp} {r : Nat}, Kp H H' → S.ok H r → S.ok H' r
  less : ∀ {H : Hp} {r r' : Nat}, S.ok H r → r' ≤ r → S.ok H r'
  int : ∀ {H : Hp} {r : Nat} (i : Int), S.ok H r → S.den H (.int i) (.int i)
  str : ∀ {H : Hp} {r : Nat} (x : Str), S.ok H r → txtOk x = true → S.den H (.str x) (.str x)
  same : ∀ {H : Hp} {v v' : V} {t : Tm}, S.den H v t → S.den H v' t → ∃ d, Dp K H v d ∧ Dp K H v' d ∧ d.canLay0 = true ∧ d.depth ≤ t.dep
def spSl (S : Sys) : Sp := fun vs H Q _ => ∃ (r : Nat) (m : Str) (a b : Tm) (va vb : V), vs = [.str m, va, vb] ∧ txtOk m = true ∧ S.ok H (r + 1) ∧ S.den H va a ∧ S.den H vb b ∧
  ∀ v H', Ext H H' → S.ok H' r → S.den H' v (.sl m a b) → Q v H'
structure HeldSl (P : Program) (w : World) (K : PySem.W.Frag) (mg : Str → Option Value) (base : Heap) (k : Nat) (S : Sys) : Prop where
  at_ : ∀ (H : Hp) (h : Heap) (r : Nat), K.In h → HOk P w H h → S.ok H r → PySem.W.FnAt S.f h
  run : ∀ (A : Around) (outer : List Env) (s : Shared) (H : Hp) (us : List Value) (vs : List V) (Q : VK) (E : XK), Room k A → Env0 P w K mg base A outer s H → Vals vs us → spSl S vs H Q E →
    codeAny (model P w) A (.call (.ref S.f) ⟨us, []⟩) (CR L2.CX0 outer P w H s Q E) s
/-- of a family of seals: each is good, and its calls keep the promise -/
structure SlA (P : Program) (w : World) (K : PySem.W.Frag) (mg : Str → Option Value) (base : Heap) (Fam : Sys → Prop) : Prop where
  good : ∀ {S : Sys}, Fam S → S.Good K
  held : ∀ S, Fam S → HeldSl P w K mg base 1 S
/-- x(..), x a name that holds a seal -/
def tSl (Fam : Sys → Prop) (i : Nat) (t : TA) : TE := fun σ H Q => ∃ (S : Sys) (r : Nat), Fam S ∧ σ[i]? = some (some (.ref S.f)) ∧ S.ok H r ∧ t σ H fun vs H1 => spSl S vs H1 Q L2.E0
section
variable {X : Cx} {i j k : Nat} {x : Str} {p pos : Pos} {e : Expr} {es : List Expr} {t : TA} {Fam : Sys → Prop}
theorem pe_sl (A : ∀ S, Fam S → HeldSl X.prog X.w X.K X.mg X.base k S) (hr : Room j X.A) (hk : k ≤ j) (hN : X.N[i]? = some x) (hv : Vis X.env.scope x) (ha : PA X (e :: es) t)
    (hdb : (x == ("__debug__" : Str)) = false := by decide) (hcd : (x == ("__classdict__" : Str)) = false := by decide)
    (he : starEach (e :: es) X.env = (false, eval e X.env) :: starEach es X.env := by rfl) (hpl : (backTo pos (starEach es X.env)).any (·.1) = false := by rfl) : PE X (.Call (.Name x p) (e :: es) [] pos) (tSl Fam i t) := by
  refine ⟨fun pins s σ H Q I h => ?_⟩
  obtain ⟨S, r, hS, hs, hok, ht⟩ := h
  refine wpAny_Call_Name_kw (thn ((pe_var (pos := p) hN hv hdb hcd).run pins s σ H (fun v H1 => v = .ref S.f ∧ H1 = H) I ⟨.ref S.f, hs, rfl, rfl⟩) fun u s1 ⟨v, H1, I1, r1, q1⟩ => ?_)
  obtain ⟨rfl, rfl⟩ := q1
  cases r1
  refine PySem.W.callWith_F ((A S hS).at_ _ _ _ I1.kIn I1.hok hok) (thn (ha.run pos pins s1 σ _ _ I1 ht) fun us s2 ⟨vs, H2, I2, rv, q⟩ => ?_) he hpl
  obtain ⟨r', m, a, b, va, vb, e1, e2, e3, q'⟩ := id q
  refine ⟨(A S hS).at_ _ _ _ I2.kIn I2.hok e3, ?_⟩
  refine wpAny_call (codeAny_mono ((A S hS).run X.A X.stack s2 H2 us vs Q L2.E0 (hr.mono hk) I2.env0 rv q) fun r s' hq => ?_)
  cases r with
  | error e => exact False.elim hq
  | ok fl =>
    cases fl with
    | ret u => exact I2.after hq
    | next => exact False.elim hq
    | brk => exact False.elim hq
    | cont => exact False.elim hq
end
/-! ### rows of told things -/
structure DenL (S : Sys) (H : Hp) (vs : List V) (ts : List Tm) : Prop where
  len : vs.length = ts.length
  at_ : ∀ (i : Nat) (v : V) (t : Tm), vs[i]? = some v → ts[i]? = some t → S.den H v t
section
variable {S : Sys} {K : PySem.W.Frag} {H H' : Hp} {vs us : List V} {ts rs : List Tm}
theorem DenL.mono (G : S.Good K) (e : Gr H H') (h : DenL S H vs ts) : DenL S H' vs ts := ⟨h.len, fun i v t a b => G.mono e (h.at_ i v t a b)⟩
theorem DenL.nil : DenL S H [] [] := ⟨rfl, fun i v t a _ => by simp at a⟩
theorem DenL.append (h : DenL S H vs ts) (h' : DenL S H us rs) : DenL S H (vs ++ us) (ts ++ rs) := by
  refine ⟨by rw [List.length_append, List.length_append, h.len, h'.len], fun i v t a b => ?_⟩
  have hl := h.len
  by_cases q : i < vs.length
  · rw [List.getElem?_append_left q] at a
    rw [List.getElem?_append_left (by omega)] at b
    exact h.at_ i v t a b
  · rw [List.getElem?_append_right (by omega)] at a b
    rw [← hl] at b
    exact h'.at_ _ v t a b
theorem DenL.one {v : V} {t : Tm} (h : S.den H v t) : DenL S H [v] [t] := by
  refine ⟨rfl, fun i u r a b => ?_⟩
  cases i with
  | zero =>
    cases a
    cases b
    exact h
  | succ i => simp at a
theorem DenL.cons {v : V} {t : Tm} (h : S.den H v t) (h' : DenL S H vs ts) : DenL S H (v :: vs) (t :: ts) := (DenL.one h).append h'
theorem DenL.take (n : Nat) (h : DenL S H vs ts) : DenL S H (vs.take n) (ts.take n) := by
  refine ⟨by rw [List.length_take, List.length_take, h.len], fun i v t a b => ?_⟩
  rw [List.getElem?_take] at a b
  split at a
  · rename_i q
    rw [if_pos q] at b
    exact h.at_ i v t a b
  · cases a
theorem DenL.drop (n : Nat) (h : DenL S H vs ts) : DenL S H (vs.drop n) (ts.drop n) := by
  refine ⟨by rw [List.length_drop, List.length_drop, h.len], fun i v t a b => ?_⟩
  rw [List.getElem?_drop] at a b
  exact h.at_ _ v t a b
theorem DenL.get (h : DenL S H vs ts) {i : Nat} (hi : i < ts.length) : ∃ v, vs[i]? = some v ∧ S.den H v ts[i] := by
  have hl := h.len
  have hv : i < vs.length := by omega
  exact ⟨vs[i], List.getElem?_eq_getElem hv, h.at_ i _ _ (List.getElem?_eq_getElem hv) (List.getElem?_eq_getElem hi)⟩
/-- the same row told twice -/
theorem DenL.same (G : S.Good K) {n : Nat} : ∀ {vs us : List V} {ts : List Tm}, DenL S H vs ts → DenL S H us ts → (∀ t ∈ ts, t.dep ≤ n) → ∃ ds, DpAll K H vs ds ∧ DpAll K H us ds ∧ PyData.canLayAll0 ds = true ∧ PyData.depthAll ds ≤ n
  | vs, us, [], h, h', _ => by
    have e1 : vs = [] := List.eq_nil_of_length_eq_zero h.len
    have e2 : us = [] := List.eq_nil_of_length_eq_zero h'.len
    subst e1
    subst e2
    exact ⟨[], .nil, .nil, rfl, Nat.zero_le _⟩
  | [], us, t :: ts, h, _, _ => absurd h.len (by simp)
  | v :: vs, [], t :: ts, _, h, _ => absurd h.len (by simp)
  | v :: vs, u :: us, t :: ts, h, h', hd => by
    obtain ⟨d, a1, a2, a3, a4⟩ := G.same (h.at_ 0 v t rfl rfl) (h'.at_ 0 u t rfl rfl)
    have t1 : DenL S H vs ts := h.drop 1
    have t2 : DenL S H us ts := h'.drop 1
    obtain ⟨ds, b1, b2, b3, b4⟩ := DenL.same G t1 t2 fun x hx => hd x (List.mem_cons_of_mem _ hx)
    refine ⟨d :: ds, .cons a1 b1, .cons a2 b2, ?_, ?_⟩
    · rw [PyData.canLayAll0, a3, b3]
      rfl
    · have := hd t List.mem_cons_self
      show max d.depth (PyData.depthAll ds) ≤ n
      omega
end

/-! ### an own error with an __init__ of its own, over an own class of errors without one -/
structure ExcI (K : PySem.W.Frag) (mg : Str → Option Value) (x bx fld qual : Str) (st : Stmt) (ps : List Str) (C B : Addr) : Prop where
  gC : mg x = some (.ref C)
  T : OexC K C
  xf : XfC K C
  no : PySem.W.findIn K (.ref C) fld = some none
  ini : ∃ (fI : Addr) (fd : FuncData), L2.Fun K "__init__" qual st fI fd ∧ PySem.W.findIn K (.ref C) "__init__" = some (some (.ref fI)) ∧ PySem.W.typeIn K (.ref fI) = some (.type "function") ∧ ∀ us : List Value, us.length = ps.length → bindArgs fd ⟨us, []⟩ = pure (ps.zip us)
  cP : ExcC K C
  eP : PySem.W.exmOne K (.ref C) (.ref C) = some true
  gB : mg bx = some (.ref B)
  b1 : PySem.W.specialIn K (.ref B) "__getattribute__" = some (some (.builtin "type.__getattribute__"))
  b2 : PySem.W.readsIn K B (.type "type") = true
  b3 : PySem.W.findCls K (.ref B) (.type "type") "__init__" = some (.val (.builtin "ValueError.__init__"))

structure Zs (mg : Str → Option Value) : Prop where
  len : mg "len" = none
  isinstance : mg "isinstance" = none
  int : mg "int" = none
  bool : mg "bool" = none
  list : mg "list" = none
  dict : mg "dict" = none
  tuple : mg "tuple" = none
  range : mg "range" = none
  str : mg "str" = none
  sorted : mg "sorted" = none
  reversed : mg "reversed" = none
  enumerate : mg "enumerate" = none
  abs : mg "abs" = none
  sum : mg "sum" = none
structure K_Table (K : PySem.W.Frag) (mg : Str → Option Value) (C : Addr) : Prop where
  mgC : mg "Table" = some (.ref C)
  cl : Cls K C
  n_seal : NoAttr K C "seal"
  n_depth : NoAttr K C "depth"
  n_held : NoAttr K C "held"
  ia_ : PySem.W.findIn K (.ref C) "__class__" = some (some (.builtin "object.__class__"))
  in_ : PySem.W.specialIn K (.builtin "object.__class__") "__get__" = some (some (.builtin "getset_descriptor.__get__"))
  it_ : PySem.W.takesIn K (.builtin "object.__class__") = some true
  im_ : PySem.W.mroIn K C (.type "object") = some true
  made : MakD K C "Table.__init__" s_Table___init__ ["self", "seal", "depth"] [.int 8]
  m_asked : MetX K C "asked" "Table.asked" s_Table_asked ["self", "key"]
  m_put : MetX K C "put" "Table.put" s_Table_put ["self", "key", "text"]
  m_cut : MetX K C "cut" "Table.cut" s_Table_cut ["self", "key"]
  m_value : MetX K C "value" "Table.value" s_Table_value ["self", "key"]
  m_rows : MetX K C "rows" "Table.rows" s_Table_rows ["self"]
  m_head : MetX K C "head" "Table.head" s_Table_head ["self"]
  m_way : MetX K C "way" "Table.way" s_Table_way ["self", "key"]
structure K_Keeper (K : PySem.W.Frag) (mg : Str → Option Value) (C : Addr) : Prop where
  mgC : mg "Keeper" = some (.ref C)
  cl : Cls K C
  n_seal : NoAttr K C "seal"
  n_depth : NoAttr K C "depth"
  n_texts : NoAttr K C "texts"
  n_tables : NoAttr K C "tables"
  n_leaves : NoAttr K C "leaves"
  ia_ : PySem.W.findIn K (.ref C) "__class__" = some (some (.builtin "object.__class__"))
  in_ : PySem.W.specialIn K (.builtin "object.__class__") "__get__" = some (some (.builtin "getset_descriptor.__get__"))
  it_ : PySem.W.takesIn K (.builtin "object.__class__") = some true
  im_ : PySem.W.mroIn K C (.type "object") = some true
  made : MakD K C "Keeper.__init__" s_Keeper___init__ ["self", "seal", "depth"] [.int 8]
  m_add : MetX K C "add" "Keeper.add" s_Keeper_add ["self", "text"]
  m_size : MetX K C "size" "Keeper.size" s_Keeper_size ["self"]
  m_first : MetX K C "first" "Keeper.first" s_Keeper_first ["self", "size"]
  m_within : MetX K C "within" "Keeper.within" s_Keeper_within ["self", "place", "size"]
  m_text : MetX K C "text" "Keeper.text" s_Keeper_text ["self", "place"]
  m_table_head : MetX K C "table_head" "Keeper.table_head" s_Keeper_table_head ["self", "place"]
  m_head : MetD K C "head" "Keeper.head" s_Keeper_head ["self", "size"] [.non]
  m_path : MetD K C "path" "Keeper.path" s_Keeper_path ["self", "place", "size"] [.non]
  m_growth : MetD K C "growth" "Keeper.growth" s_Keeper_growth ["self", "old", "size"] [.non]
  m_way : MetX K C "way" "Keeper.way" s_Keeper_way ["self", "place", "key"]
  m_paper : MetD K C "paper" "Keeper.paper" s_Keeper_paper ["self", "place", "key", "size"] [.non]
structure K_Stands (K : PySem.W.Frag) (mg : Str → Option Value) (C : Addr) : Prop where
  mgC : mg "Stands" = some (.ref C)
  cl : Cls K C
  n_place : NoAttr K C "place"
  n_words : NoAttr K C "words"
  n_table : NoAttr K C "table"
  ia_ : PySem.W.findIn K (.ref C) "__class__" = some (some (.builtin "object.__class__"))
  in_ : PySem.W.specialIn K (.builtin "object.__class__") "__get__" = some (some (.builtin "getset_descriptor.__get__"))
  it_ : PySem.W.takesIn K (.builtin "object.__class__") = some true
  im_ : PySem.W.mroIn K C (.type "object") = some true
  made : MakX K C "Stands.__init__" s_Stands___init__ ["self", "place", "text", "table"]
  m_shown : MetX K C "shown" "Stands.shown" s_Stands_shown ["self", "seal", "size", "head", "paper"]
  m_judged : MetX K C "judged" "Claim.judged" s_Claim_judged ["self", "seal", "size", "head", "paper"]
structure K_Grows (K : PySem.W.Frag) (mg : Str → Option Value) (C : Addr) : Prop where
  mgC : mg "Grows" = some (.ref C)
  cl : Cls K C
  n_old : NoAttr K C "old"
  n_before : NoAttr K C "before"
  ia_ : PySem.W.findIn K (.ref C) "__class__" = some (some (.builtin "object.__class__"))
  in_ : PySem.W.specialIn K (.builtin "object.__class__") "__get__" = some (some (.builtin "getset_descriptor.__get__"))
  it_ : PySem.W.takesIn K (.builtin "object.__class__") = some true
  im_ : PySem.W.mroIn K C (.type "object") = some true
  made : MakX K C "Grows.__init__" s_Grows___init__ ["self", "old", "head"]
  m_shown : MetX K C "shown" "Grows.shown" s_Grows_shown ["self", "seal", "size", "head", "paper"]
  m_judged : MetX K C "judged" "Claim.judged" s_Claim_judged ["self", "seal", "size", "head", "paper"]
structure K_Holds (K : PySem.W.Frag) (mg : Str → Option Value) (C : Addr) : Prop where
  mgC : mg "Holds" = some (.ref C)
  cl : Cls K C
  n_place : NoAttr K C "place"
  n_key : NoAttr K C "key"
  n_depth : NoAttr K C "depth"
  n_said : NoAttr K C "said"
  ia_ : PySem.W.findIn K (.ref C) "__class__" = some (some (.builtin "object.__class__"))
  in_ : PySem.W.specialIn K (.builtin "object.__class__") "__get__" = some (some (.builtin "getset_descriptor.__get__"))
  it_ : PySem.W.takesIn K (.builtin "object.__class__") = some true
  im_ : PySem.W.mroIn K C (.type "object") = some true
  made : MakX K C "Holds.__init__" s_Holds___init__ ["self", "place", "key", "value", "depth"]
  m_ends : MetX K C "ends" "Holds.ends" s_Holds_ends ["self", "end"]
  m_shown : MetX K C "shown" "Behind.shown" s_Behind_shown ["self", "seal", "size", "head", "paper"]
  m_judged : MetX K C "judged" "Claim.judged" s_Claim_judged ["self", "seal", "size", "head", "paper"]
structure K_Lacks (K : PySem.W.Frag) (mg : Str → Option Value) (C : Addr) : Prop where
  mgC : mg "Lacks" = some (.ref C)
  cl : Cls K C
  n_place : NoAttr K C "place"
  n_key : NoAttr K C "key"
  n_depth : NoAttr K C "depth"
  ia_ : PySem.W.findIn K (.ref C) "__class__" = some (some (.builtin "object.__class__"))
  in_ : PySem.W.specialIn K (.builtin "object.__class__") "__get__" = some (some (.builtin "getset_descriptor.__get__"))
  it_ : PySem.W.takesIn K (.builtin "object.__class__") = some true
  im_ : PySem.W.mroIn K C (.type "object") = some true
  m_ends : MetX K C "ends" "Lacks.ends" s_Lacks_ends ["self", "end"]
  made : MakX K C "Behind.__init__" s_Behind___init__ ["self", "place", "key", "depth"]
  m_shown : MetX K C "shown" "Behind.shown" s_Behind_shown ["self", "seal", "size", "head", "paper"]
  m_judged : MetX K C "judged" "Claim.judged" s_Claim_judged ["self", "seal", "size", "head", "paper"]
structure K_Frontier (K : PySem.W.Frag) (mg : Str → Option Value) (C : Addr) : Prop where
  mgC : mg "Frontier" = some (.ref C)
  cl : Cls K C
  n_seal : NoAttr K C "seal"
  n_many : NoAttr K C "many"
  n_tops : NoAttr K C "tops"
  ia_ : PySem.W.findIn K (.ref C) "__class__" = some (some (.builtin "object.__class__"))
  in_ : PySem.W.specialIn K (.builtin "object.__class__") "__get__" = some (some (.builtin "getset_descriptor.__get__"))
  it_ : PySem.W.takesIn K (.builtin "object.__class__") = some true
  im_ : PySem.W.mroIn K C (.type "object") = some true
  made : MakX K C "Frontier.__init__" s_Frontier___init__ ["self", "seal"]
  m_add : MetX K C "add" "Frontier.add" s_Frontier_add ["self", "leaf"]
  m_size : MetX K C "size" "Frontier.size" s_Frontier_size ["self"]
  m_kept : MetX K C "kept" "Frontier.kept" s_Frontier_kept ["self"]
  m_top : MetX K C "top" "Frontier.top" s_Frontier_top ["self"]
structure Txt (K : PySem.W.Frag) (mg : Str → Option Value) (cc : Addr) : Prop where
  d__wall : DefX K mg "_wall" s__wall ["k"]
  d_split : DefX K mg "split" s_split ["size"]
  d_none_seal : DefX K mg "none_seal" s_none_seal ["seal"]
  d_leaf_seal : DefX K mg "leaf_seal" s_leaf_seal ["seal", "text", "table"]
  d_pair_seal : DefX K mg "pair_seal" s_pair_seal ["seal", "left", "right"]
  d_book_seal : DefX K mg "book_seal" s_book_seal ["seal", "size", "top"]
  d_top_of : DefX K mg "top_of" s_top_of ["seal", "leaves"]
  d_path_of : DefX K mg "path_of" s_path_of ["seal", "leaves", "place"]
  d_growth_of : DefX K mg "growth_of" s_growth_of ["seal", "leaves", "old"]
  d_last_of : DefX K mg "last_of" s_last_of ["paper"]
  d_risen : DefX K mg "risen" s_risen ["seal", "leaf", "place", "size", "path"]
  d_regrown : DefX K mg "regrown" s_regrown ["seal", "old", "size", "paper"]
  d_parted : DefX K mg "parted" s_parted ["rows", "level"]
  d_part_top : DefX K mg "part_top" s_part_top ["seal", "rows", "level"]
  d_table_seal : DefX K mg "table_seal" s_table_seal ["seal", "depth", "top"]
  d_climbed : DefX K mg "climbed" s_climbed ["seal", "key", "depth", "way"]
  d_key_of : DefX K mg "key_of" s_key_of ["figures", "depth"]
  d_read_row : DefX K mg "read_row" s_read_row ["row", "depth"]
  d_placed : DefX K mg "placed" s_placed ["row", "place", "depth"]
  d_changed : DefX K mg "changed" s_changed ["table", "text", "depth"]
  d__law_cell_at : DefX K mg "_law_cell_at" s__law_cell_at ["_law_script", "_law_k"]
  m__law_numbers : DefM K mg "_law_numbers" s__law_numbers cc
  d__law_seal : DefX K mg "_law_seal" s__law_seal ["_law_mark", "_law_one", "_law_two"]
  d__law_top : DefX K mg "_law_top" s__law_top ["_law_seal_here", "_law_leaves"]
  d__law_path : DefX K mg "_law_path" s__law_path ["_law_seal_here", "_law_leaves", "_law_place"]
  d__law_growth : DefX K mg "_law_growth" s__law_growth ["_law_seal_here", "_law_leaves", "_law_old"]
  d__law_stretches_right : DefX K mg "_law_stretches_right" s__law_stretches_right ["_law_many", "_law_place", "_law_old"]
  d__law_keeper_right : DefX K mg "_law_keeper_right" s__law_keeper_right ["_law_many", "_law_cell"]
  d__law_table_right : DefX K mg "_law_table_right" s__law_table_right ["_law_many", "_law_cell"]
  d__law_forms_right : DefX K mg "_law_forms_right" s__law_forms_right ["_law_cell"]
  d__law_paths_right : DefX K mg "_law_paths_right" s__law_paths_right ["_law_keeper", "_law_place", "_law_path_here", "_law_head"]
  d_law : DefX K mg "law" s_law ["_law_script"]
  g_BookError : ∃ C, mg "BookError" = some (.ref C)
  g_Claim : ∃ C, mg "Claim" = some (.ref C)
  x_BadPaper : ExcX K mg "BadPaper"
  x_NoPlace : ExcX K mg "NoPlace"
  y_BadRow : ∃ C B, ExcI K mg "BadRow" "BookError" "row" "BadRow.__init__" s_BadRow___init__ ["self", "row"] C B
  c_Behind___init__ : ∃ C, ClsM K mg C "Behind" "__init__" "Behind.__init__" s_Behind___init__ ["self", "place", "key", "depth"]
  k_Table : ∃ C, K_Table K mg C
  k_Keeper : ∃ C, K_Keeper K mg C
  k_Stands : ∃ C, K_Stands K mg C
  k_Grows : ∃ C, K_Grows K mg C
  k_Holds : ∃ C, K_Holds K mg C
  k_Lacks : ∃ C, K_Lacks K mg C
  k_Frontier : ∃ C, K_Frontier K mg C
  Z : Zs mg
theorem txt_mk {K : PySem.W.Frag} {h : Heap} {mg : Str → Option Value} (X : K.In h) (G : h.Ns mainGlobals mg) {cc f0 f1 f2 f3 f4 f5 f6 f7 f8 f9 f10 f11 f12 f13 f14 f15 f16 f17 f18 f19 f20 f21 f22 f23 f24 f25 f26 f27 f28 f29 f30 f31 C_BookError C_Claim C_BadPaper C_NoPlace C_BadRow C_Behind C_Table C_Keeper C_Stands C_Grows C_Holds C_Lacks C_Frontier fMBehind fTable0 dTTable0 fTable1 fTable2 fTable3 fTable4 fTable5 fTable6 fTable7 fKeeper0 dTKeeper0 fKeeper1 fKeeper2 fKeeper3 fKeeper4 fKeeper5 fKeeper6 fKeeper7 dTKeeper7 fKeeper8 dTKeeper8 fKeeper9 dTKeeper9 fKeeper10 fKeeper11 dTKeeper11 fStands0 fStands1 fStands2 fGrows0 fGrows1 fGrows2 fHolds0 fHolds1 fHolds2 fHolds3 fLacks0 fLacks1 fLacks2 fLacks3 fFrontier0 fFrontier1 fFrontier2 fFrontier3 fFrontier4 : Addr} {od0 an0 od1 an1 od2 an2 od3 an3 od4 an4 od5 an5 od6 an6 od7 an7 od8 an8 od9 an9 od10 an10 od11 an11 od12 an12 od13 an13 od14 an14 od15 an15 od16 an16 od17 an17 od18 an18 od19 an19 od20 an20 od21 an21 od22 an22 od23 an23 od24 an24 od25 an25 od26 an26 od27 an27 od28 an28 od29 an29 od30 an30 od31 an31 odMBehind anMBehind odTable0 anTable0 pTTable0 odTable1 anTable1 odTable2 anTable2 odTable3 anTable3 odTable4 anTable4 odTable5 anTable5 odTable6 anTable6 odTable7 anTable7 odKeeper0 anKeeper0 pTKeeper0 odKeeper1 anKeeper1 odKeeper2 anKeeper2 odKeeper3 anKeeper3 odKeeper4 anKeeper4 odKeeper5 anKeeper5 odKeeper6 anKeeper6 odKeeper7 anKeeper7 pTKeeper7 odKeeper8 anKeeper8 pTKeeper8 odKeeper9 anKeeper9 pTKeeper9 odKeeper10 anKeeper10 odKeeper11 anKeeper11 pTKeeper11 odStands0 anStands0 odStands1 anStands1 odStands2 anStands2 odGrows0 anGrows0 odGrows1 anGrows1 odGrows2 anGrows2 odHolds0 anHolds0 odHolds1 anHolds1 odHolds2 anHolds2 odHolds3 anHolds3 odLacks0 anLacks0 odLacks1 anLacks1 odLacks2 anLacks2 odLacks3 anLacks3 odFrontier0 anFrontier0 odFrontier1 anFrontier1 odFrontier2 anFrontier2 odFrontier3 anFrontier3 odFrontier4 anFrontier4 : Option Addr} {sl0 sl1 sl2 sl3 sl4 sl5 sl6 sl7 sl8 sl9 sl10 sl11 sl12 sl13 sl14 sl15 sl16 sl17 sl18 sl19 sl20 sl21 sl22 sl23 sl24 sl25 sl26 sl27 sl28 sl29 sl30 sl31 slMBehind slTable0 sTTable0 slTable1 slTable2 slTable3 slTable4 slTable5 slTable6 slTable7 slKeeper0 sTKeeper0 slKeeper1 slKeeper2 slKeeper3 slKeeper4 slKeeper5 slKeeper6 slKeeper7 sTKeeper7 slKeeper8 sTKeeper8 slKeeper9 sTKeeper9 slKeeper10 slKeeper11 sTKeeper11 slStands0 slStands1 slStands2 slGrows0 slGrows1 slGrows2 slHolds0 slHolds1 slHolds2 slHolds3 slLacks0 slLacks1 slLacks2 slLacks3 slFrontier0 slFrontier1 slFrontier2 slFrontier3 slFrontier4 : Array (Option Value)} {oc0 kV0 dc0 pm0 cd0 ct0 oc1 kV1 dc1 pm1 cd1 ct1 oc2 kV2 dc2 pm2 cd2 ct2 oc3 kV3 dc3 pm3 cd3 ct3 oc4 kV4 dc4 pm4 cd4 ct4 oc5 kV5 dc5 pm5 cd5 ct5 oc6 kV6 dc6 pm6 cd6 ct6 oc7 kV7 dc7 pm7 cd7 ct7 oc8 kV8 dc8 pm8 cd8 ct8 oc9 kV9 dc9 pm9 cd9 ct9 oc10 kV10 dc10 pm10 cd10 ct10 oc11 kV11 dc11 pm11 cd11 ct11 oc12 kV12 dc12 pm12 cd12 ct12 oc13 kV13 dc13 pm13 cd13 ct13 oc14 kV14 dc14 pm14 cd14 ct14 oc15 kV15 dc15 pm15 cd15 ct15 oc16 kV16 dc16 pm16 cd16 ct16 oc17 kV17 dc17 pm17 cd17 ct17 oc18 kV18 dc18 pm18 cd18 ct18 oc19 kV19 dc19 pm19 cd19 ct19 oc20 kV20 dc20 pm20 cd20 ct20 oc21 kV21 dc21 pm21 ct21 oc22 kV22 dc22 pm22 cd22 ct22 oc23 kV23 dc23 pm23 cd23 ct23 oc24 kV24 dc24 pm24 cd24 ct24 oc25 kV25 dc25 pm25 cd25 ct25 oc26 kV26 dc26 pm26 cd26 ct26 oc27 kV27 dc27 pm27 cd27 ct27 oc28 kV28 dc28 pm28 cd28 ct28 oc29 kV29 dc29 pm29 cd29 ct29 oc30 kV30 dc30 pm30 cd30 ct30 oc31 kV31 dc31 pm31 cd31 ct31 ocMBehind kVMBehind dcMBehind pmMBehind cdMBehind ctMBehind ocTable0 kVTable0 dcTable0 pmTable0 cdTable0 ctTable0 oTTable0 ocTable1 kVTable1 dcTable1 pmTable1 cdTable1 ctTable1 ocTable2 kVTable2 dcTable2 pmTable2 cdTable2 ctTable2 ocTable3 kVTable3 dcTable3 pmTable3 cdTable3 ctTable3 ocTable4 kVTable4 dcTable4 pmTable4 cdTable4 ctTable4 ocTable5 kVTable5 dcTable5 pmTable5 cdTable5 ctTable5 ocTable6 kVTable6 dcTable6 pmTable6 cdTable6 ctTable6 ocTable7 kVTable7 dcTable7 pmTable7 cdTable7 ctTable7 ocKeeper0 kVKeeper0 dcKeeper0 pmKeeper0 cdKeeper0 ctKeeper0 oTKeeper0 ocKeeper1 kVKeeper1 dcKeeper1 pmKeeper1 cdKeeper1 ctKeeper1 ocKeeper2 kVKeeper2 dcKeeper2 pmKeeper2 cdKeeper2 ctKeeper2 ocKeeper3 kVKeeper3 dcKeeper3 pmKeeper3 cdKeeper3 ctKeeper3 ocKeeper4 kVKeeper4 dcKeeper4 pmKeeper4 cdKeeper4 ctKeeper4 ocKeeper5 kVKeeper5 dcKeeper5 pmKeeper5 cdKeeper5 ctKeeper5 ocKeeper6 kVKeeper6 dcKeeper6 pmKeeper6 cdKeeper6 ctKeeper6 ocKeeper7 kVKeeper7 dcKeeper7 pmKeeper7 cdKeeper7 ctKeeper7 oTKeeper7 ocKeeper8 kVKeeper8 dcKeeper8 pmKeeper8 cdKeeper8 ctKeeper8 oTKeeper8 ocKeeper9 kVKeeper9 dcKeeper9 pmKeeper9 cdKeeper9 ctKeeper9 oTKeeper9 ocKeeper10 kVKeeper10 dcKeeper10 pmKeeper10 cdKeeper10 ctKeeper10 ocKeeper11 kVKeeper11 dcKeeper11 pmKeeper11 cdKeeper11 ctKeeper11 oTKeeper11 ocStands0 kVStands0 dcStands0 pmStands0 cdStands0 ctStands0 ocStands1 kVStands1 dcStands1 pmStands1 cdStands1 ctStands1 ocStands2 kVStands2 dcStands2 pmStands2 cdStands2 ctStands2 ocGrows0 kVGrows0 dcGrows0 pmGrows0 cdGrows0 ctGrows0 ocGrows1 kVGrows1 dcGrows1 pmGrows1 cdGrows1 ctGrows1 ocGrows2 kVGrows2 dcGrows2 pmGrows2 cdGrows2 ctGrows2 ocHolds0 kVHolds0 dcHolds0 pmHolds0 cdHolds0 ctHolds0 ocHolds1 kVHolds1 dcHolds1 pmHolds1 cdHolds1 ctHolds1 ocHolds2 kVHolds2 dcHolds2 pmHolds2 cdHolds2 ctHolds2 ocHolds3 kVHolds3 dcHolds3 pmHolds3 cdHolds3 ctHolds3 ocLacks0 kVLacks0 dcLacks0 pmLacks0 cdLacks0 ctLacks0 ocLacks1 kVLacks1 dcLacks1 pmLacks1 cdLacks1 ctLacks1 ocLacks2 kVLacks2 dcLacks2 pmLacks2 cdLacks2 ctLacks2 ocLacks3 kVLacks3 dcLacks3 pmLacks3 cdLacks3 ctLacks3 ocFrontier0 kVFrontier0 dcFrontier0 pmFrontier0 cdFrontier0 ctFrontier0 ocFrontier1 kVFrontier1 dcFrontier1 pmFrontier1 cdFrontier1 ctFrontier1 ocFrontier2 kVFrontier2 dcFrontier2 pmFrontier2 cdFrontier2 ctFrontier2 ocFrontier3 kVFrontier3 dcFrontier3 pmFrontier3 cdFrontier3 ctFrontier3 ocFrontier4 kVFrontier4 dcFrontier4 pmFrontier4 cdFrontier4 ctFrontier4 : Value} {fI_BadRow N_BadRow : Addr} {nm_BadRow qn_BadRow : Str} {bs_BadRow sub_BadRow : List Value} {sn_BadRow : List Str} {ab_BadRow : Bool} {col_BadRow : Option Bool} {dd_BadRow od_BadRow an_BadRow : Option Addr} {m0_BadRow m1_BadRow m2_BadRow m3_BadRow m5_BadRow : Option Value} {oc_BadRow kV_BadRow dc_BadRow pm_BadRow cd_BadRow ct_BadRow : Value} {sl_BadRow : Array (Option Value)} {nTTable0 nTKeeper0 nTKeeper7 nTKeeper8 nTKeeper9 nTKeeper11 : Nat} {uTTable0_0 uTKeeper0_0 : Tok}
    (a0 : PySem.W.nsIn K mainGlobals "_wall" = some (some (.ref f0))) (l0 : K.lookup f0 = some ⟨oc0, od0, .func (PySem.W.fnOf "_wall" "_wall" (defArgs s__wall) (defBody s__wall) (defScope s__wall) .none kV0 dc0 pm0 an0 cd0 ct0), sl0⟩) (c0 : PySem.W.codeIn K cd0 "_wall" = true) (k0 : PySem.W.keepIn K (.ref f0) = true)
    (a1 : PySem.W.nsIn K mainGlobals "split" = some (some (.ref f1))) (l1 : K.lookup f1 = some ⟨oc1, od1, .func (PySem.W.fnOf "split" "split" (defArgs s_split) (defBody s_split) (defScope s_split) .none kV1 dc1 pm1 an1 cd1 ct1), sl1⟩) (c1 : PySem.W.codeIn K cd1 "split" = true) (k1 : PySem.W.keepIn K (.ref f1) = true)
    (a2 : PySem.W.nsIn K mainGlobals "none_seal" = some (some (.ref f2))) (l2 : K.lookup f2 = some ⟨oc2, od2, .func (PySem.W.fnOf "none_seal" "none_seal" (defArgs s_none_seal) (defBody s_none_seal) (defScope s_none_seal) .none kV2 dc2 pm2 an2 cd2 ct2), sl2⟩) (c2 : PySem.W.codeIn K cd2 "none_seal" = true) (k2 : PySem.W.keepIn K (.ref f2) = true)
    (a3 : PySem.W.nsIn K mainGlobals "leaf_seal" = some (some (.ref f3))) (l3 : K.lookup f3 = some ⟨oc3, od3, .func (PySem.W.fnOf "leaf_seal" "leaf_seal" (defArgs s_leaf_seal) (defBody s_leaf_seal) (defScope s_leaf_seal) .none kV3 dc3 pm3 an3 cd3 ct3), sl3⟩) (c3 : PySem.W.codeIn K cd3 "leaf_seal" = true) (k3 : PySem.W.keepIn K (.ref f3) = true)
    (a4 : PySem.W.nsIn K mainGlobals "pair_seal" = some (some (.ref f4))) (l4 : K.lookup f4 = some ⟨oc4, od4, .func (PySem.W.fnOf "pair_seal" "pair_seal" (defArgs s_pair_seal) (defBody s_pair_seal) (defScope s_pair_seal) .none kV4 dc4 pm4 an4 cd4 ct4), sl4⟩) (c4 : PySem.W.codeIn K cd4 "pair_seal" = true) (k4 : PySem.W.keepIn K (.ref f4) = true)
    (a5 : PySem.W.nsIn K mainGlobals "book_seal" = some (some (.ref f5))) (l5 : K.lookup f5 = some ⟨oc5, od5, .func (PySem.W.fnOf "book_seal" "book_seal" (defArgs s_book_seal) (defBody s_book_seal) (defScope s_book_seal) .none kV5 dc5 pm5 an5 cd5 ct5), sl5⟩) (c5 : PySem.W.codeIn K cd5 "book_seal" = true) (k5 : PySem.W.keepIn K (.ref f5) = true)
    (a6 : PySem.W.nsIn K mainGlobals "top_of" = some (some (.ref f6))) (l6 : K.lookup f6 = some ⟨oc6, od6, .func (PySem.W.fnOf "top_of" "top_of" (defArgs s_top_of) (defBody s_top_of) (defScope s_top_of) .none kV6 dc6 pm6 an6 cd6 ct6), sl6⟩) (c6 : PySem.W.codeIn K cd6 "top_of" = true) (k6 : PySem.W.keepIn K (.ref f6) = true)
    (a7 : PySem.W.nsIn K mainGlobals "path_of" = some (some (.ref f7))) (l7 : K.lookup f7 = some ⟨oc7, od7, .func (PySem.W.fnOf "path_of" "path_of" (defArgs s_path_of) (defBody s_path_of) (defScope s_path_of) .none kV7 dc7 pm7 an7 cd7 ct7), sl7⟩) (c7 : PySem.W.codeIn K cd7 "path_of" = true) (k7 : PySem.W.keepIn K (.ref f7) = true)
    (a8 : PySem.W.nsIn K mainGlobals "growth_of" = some (some (.ref f8))) (l8 : K.lookup f8 = some ⟨oc8, od8, .func (PySem.W.fnOf "growth_of" "growth_of" (defArgs s_growth_of) (defBody s_growth_of) (defScope s_growth_of) .none kV8 dc8 pm8 an8 cd8 ct8), sl8⟩) (c8 : PySem.W.codeIn K cd8 "growth_of" = true) (k8 : PySem.W.keepIn K (.ref f8) = true)
    (a9 : PySem.W.nsIn K mainGlobals "last_of" = some (some (.ref f9))) (l9 : K.lookup f9 = some ⟨oc9, od9, .func (PySem.W.fnOf "last_of" "last_of" (defArgs s_last_of) (defBody s_last_of) (defScope s_last_of) .none kV9 dc9 pm9 an9 cd9 ct9), sl9⟩) (c9 : PySem.W.codeIn K cd9 "last_of" = true) (k9 : PySem.W.keepIn K (.ref f9) = true)
    (a10 : PySem.W.nsIn K mainGlobals "risen" = some (some (.ref f10))) (l10 : K.lookup f10 = some ⟨oc10, od10, .func (PySem.W.fnOf "risen" "risen" (defArgs s_risen) (defBody s_risen) (defScope s_risen) .none kV10 dc10 pm10 an10 cd10 ct10), sl10⟩) (c10 : PySem.W.codeIn K cd10 "risen" = true) (k10 : PySem.W.keepIn K (.ref f10) = true)
    (a11 : PySem.W.nsIn K mainGlobals "regrown" = some (some (.ref f11))) (l11 : K.lookup f11 = some ⟨oc11, od11, .func (PySem.W.fnOf "regrown" "regrown" (defArgs s_regrown) (defBody s_regrown) (defScope s_regrown) .none kV11 dc11 pm11 an11 cd11 ct11), sl11⟩) (c11 : PySem.W.codeIn K cd11 "regrown" = true) (k11 : PySem.W.keepIn K (.ref f11) = true)
    (a12 : PySem.W.nsIn K mainGlobals "parted" = some (some (.ref f12))) (l12 : K.lookup f12 = some ⟨oc12, od12, .func (PySem.W.fnOf "parted" "parted" (defArgs s_parted) (defBody s_parted) (defScope s_parted) .none kV12 dc12 pm12 an12 cd12 ct12), sl12⟩) (c12 : PySem.W.codeIn K cd12 "parted" = true) (k12 : PySem.W.keepIn K (.ref f12) = true)
    (a13 : PySem.W.nsIn K mainGlobals "part_top" = some (some (.ref f13))) (l13 : K.lookup f13 = some ⟨oc13, od13, .func (PySem.W.fnOf "part_top" "part_top" (defArgs s_part_top) (defBody s_part_top) (defScope s_part_top) .none kV13 dc13 pm13 an13 cd13 ct13), sl13⟩) (c13 : PySem.W.codeIn K cd13 "part_top" = true) (k13 : PySem.W.keepIn K (.ref f13) = true)
    (a14 : PySem.W.nsIn K mainGlobals "table_seal" = some (some (.ref f14))) (l14 : K.lookup f14 = some ⟨oc14, od14, .func (PySem.W.fnOf "table_seal" "table_seal" (defArgs s_table_seal) (defBody s_table_seal) (defScope s_table_seal) .none kV14 dc14 pm14 an14 cd14 ct14), sl14⟩) (c14 : PySem.W.codeIn K cd14 "table_seal" = true) (k14 : PySem.W.keepIn K (.ref f14) = true)
    (a15 : PySem.W.nsIn K mainGlobals "climbed" = some (some (.ref f15))) (l15 : K.lookup f15 = some ⟨oc15, od15, .func (PySem.W.fnOf "climbed" "climbed" (defArgs s_climbed) (defBody s_climbed) (defScope s_climbed) .none kV15 dc15 pm15 an15 cd15 ct15), sl15⟩) (c15 : PySem.W.codeIn K cd15 "climbed" = true) (k15 : PySem.W.keepIn K (.ref f15) = true)
    (a16 : PySem.W.nsIn K mainGlobals "key_of" = some (some (.ref f16))) (l16 : K.lookup f16 = some ⟨oc16, od16, .func (PySem.W.fnOf "key_of" "key_of" (defArgs s_key_of) (defBody s_key_of) (defScope s_key_of) .none kV16 dc16 pm16 an16 cd16 ct16), sl16⟩) (c16 : PySem.W.codeIn K cd16 "key_of" = true) (k16 : PySem.W.keepIn K (.ref f16) = true)
    (a17 : PySem.W.nsIn K mainGlobals "read_row" = some (some (.ref f17))) (l17 : K.lookup f17 = some ⟨oc17, od17, .func (PySem.W.fnOf "read_row" "read_row" (defArgs s_read_row) (defBody s_read_row) (defScope s_read_row) .none kV17 dc17 pm17 an17 cd17 ct17), sl17⟩) (c17 : PySem.W.codeIn K cd17 "read_row" = true) (k17 : PySem.W.keepIn K (.ref f17) = true)
    (a18 : PySem.W.nsIn K mainGlobals "placed" = some (some (.ref f18))) (l18 : K.lookup f18 = some ⟨oc18, od18, .func (PySem.W.fnOf "placed" "placed" (defArgs s_placed) (defBody s_placed) (defScope s_placed) .none kV18 dc18 pm18 an18 cd18 ct18), sl18⟩) (c18 : PySem.W.codeIn K cd18 "placed" = true) (k18 : PySem.W.keepIn K (.ref f18) = true)
    (a19 : PySem.W.nsIn K mainGlobals "changed" = some (some (.ref f19))) (l19 : K.lookup f19 = some ⟨oc19, od19, .func (PySem.W.fnOf "changed" "changed" (defArgs s_changed) (defBody s_changed) (defScope s_changed) .none kV19 dc19 pm19 an19 cd19 ct19), sl19⟩) (c19 : PySem.W.codeIn K cd19 "changed" = true) (k19 : PySem.W.keepIn K (.ref f19) = true)
    (a20 : PySem.W.nsIn K mainGlobals "_law_cell_at" = some (some (.ref f20))) (l20 : K.lookup f20 = some ⟨oc20, od20, .func (PySem.W.fnOf "_law_cell_at" "_law_cell_at" (defArgs s__law_cell_at) (defBody s__law_cell_at) (defScope s__law_cell_at) .none kV20 dc20 pm20 an20 cd20 ct20), sl20⟩) (c20 : PySem.W.codeIn K cd20 "_law_cell_at" = true) (k20 : PySem.W.keepIn K (.ref f20) = true)
    (a21 : PySem.W.nsIn K mainGlobals "_law_numbers" = some (some (.ref f21))) (l21 : K.lookup f21 = some ⟨oc21, od21, .func (PySem.W.fnOf "_law_numbers" "_law_numbers" (defArgs s__law_numbers) (defBody s__law_numbers) (defScope s__law_numbers) .none kV21 dc21 pm21 an21 (.ref cc) ct21), sl21⟩) (c21 : PySem.W.codeIn K (.ref cc) "_law_numbers" = true) (k21 : PySem.W.keepIn K (.ref f21) = true)
    (a22 : PySem.W.nsIn K mainGlobals "_law_seal" = some (some (.ref f22))) (l22 : K.lookup f22 = some ⟨oc22, od22, .func (PySem.W.fnOf "_law_seal" "_law_seal" (defArgs s__law_seal) (defBody s__law_seal) (defScope s__law_seal) .none kV22 dc22 pm22 an22 cd22 ct22), sl22⟩) (c22 : PySem.W.codeIn K cd22 "_law_seal" = true) (k22 : PySem.W.keepIn K (.ref f22) = true)
    (a23 : PySem.W.nsIn K mainGlobals "_law_top" = some (some (.ref f23))) (l23 : K.lookup f23 = some ⟨oc23, od23, .func (PySem.W.fnOf "_law_top" "_law_top" (defArgs s__law_top) (defBody s__law_top) (defScope s__law_top) .none kV23 dc23 pm23 an23 cd23 ct23), sl23⟩) (c23 : PySem.W.codeIn K cd23 "_law_top" = true) (k23 : PySem.W.keepIn K (.ref f23) = true)
    (a24 : PySem.W.nsIn K mainGlobals "_law_path" = some (some (.ref f24))) (l24 : K.lookup f24 = some ⟨oc24, od24, .func (PySem.W.fnOf "_law_path" "_law_path" (defArgs s__law_path) (defBody s__law_path) (defScope s__law_path) .none kV24 dc24 pm24 an24 cd24 ct24), sl24⟩) (c24 : PySem.W.codeIn K cd24 "_law_path" = true) (k24 : PySem.W.keepIn K (.ref f24) = true)
    (a25 : PySem.W.nsIn K mainGlobals "_law_growth" = some (some (.ref f25))) (l25 : K.lookup f25 = some ⟨oc25, od25, .func (PySem.W.fnOf "_law_growth" "_law_growth" (defArgs s__law_growth) (defBody s__law_growth) (defScope s__law_growth) .none kV25 dc25 pm25 an25 cd25 ct25), sl25⟩) (c25 : PySem.W.codeIn K cd25 "_law_growth" = true) (k25 : PySem.W.keepIn K (.ref f25) = true)
    (a26 : PySem.W.nsIn K mainGlobals "_law_stretches_right" = some (some (.ref f26))) (l26 : K.lookup f26 = some ⟨oc26, od26, .func (PySem.W.fnOf "_law_stretches_right" "_law_stretches_right" (defArgs s__law_stretches_right) (defBody s__law_stretches_right) (defScope s__law_stretches_right) .none kV26 dc26 pm26 an26 cd26 ct26), sl26⟩) (c26 : PySem.W.codeIn K cd26 "_law_stretches_right" = true) (k26 : PySem.W.keepIn K (.ref f26) = true)
    (a27 : PySem.W.nsIn K mainGlobals "_law_keeper_right" = some (some (.ref f27))) (l27 : K.lookup f27 = some ⟨oc27, od27, .func (PySem.W.fnOf "_law_keeper_right" "_law_keeper_right" (defArgs s__law_keeper_right) (defBody s__law_keeper_right) (defScope s__law_keeper_right) .none kV27 dc27 pm27 an27 cd27 ct27), sl27⟩) (c27 : PySem.W.codeIn K cd27 "_law_keeper_right" = true) (k27 : PySem.W.keepIn K (.ref f27) = true)
    (a28 : PySem.W.nsIn K mainGlobals "_law_table_right" = some (some (.ref f28))) (l28 : K.lookup f28 = some ⟨oc28, od28, .func (PySem.W.fnOf "_law_table_right" "_law_table_right" (defArgs s__law_table_right) (defBody s__law_table_right) (defScope s__law_table_right) .none kV28 dc28 pm28 an28 cd28 ct28), sl28⟩) (c28 : PySem.W.codeIn K cd28 "_law_table_right" = true) (k28 : PySem.W.keepIn K (.ref f28) = true)
    (a29 : PySem.W.nsIn K mainGlobals "_law_forms_right" = some (some (.ref f29))) (l29 : K.lookup f29 = some ⟨oc29, od29, .func (PySem.W.fnOf "_law_forms_right" "_law_forms_right" (defArgs s__law_forms_right) (defBody s__law_forms_right) (defScope s__law_forms_right) .none kV29 dc29 pm29 an29 cd29 ct29), sl29⟩) (c29 : PySem.W.codeIn K cd29 "_law_forms_right" = true) (k29 : PySem.W.keepIn K (.ref f29) = true)
    (a30 : PySem.W.nsIn K mainGlobals "_law_paths_right" = some (some (.ref f30))) (l30 : K.lookup f30 = some ⟨oc30, od30, .func (PySem.W.fnOf "_law_paths_right" "_law_paths_right" (defArgs s__law_paths_right) (defBody s__law_paths_right) (defScope s__law_paths_right) .none kV30 dc30 pm30 an30 cd30 ct30), sl30⟩) (c30 : PySem.W.codeIn K cd30 "_law_paths_right" = true) (k30 : PySem.W.keepIn K (.ref f30) = true)
    (a31 : PySem.W.nsIn K mainGlobals "law" = some (some (.ref f31))) (l31 : K.lookup f31 = some ⟨oc31, od31, .func (PySem.W.fnOf "law" "law" (defArgs s_law) (defBody s_law) (defScope s_law) .none kV31 dc31 pm31 an31 cd31 ct31), sl31⟩) (c31 : PySem.W.codeIn K cd31 "law" = true) (k31 : PySem.W.keepIn K (.ref f31) = true)
    (z_len : PySem.W.nsIn K mainGlobals "len" = some none)
    (z_isinstance : PySem.W.nsIn K mainGlobals "isinstance" = some none)
    (z_int : PySem.W.nsIn K mainGlobals "int" = some none)
    (z_bool : PySem.W.nsIn K mainGlobals "bool" = some none)
    (z_list : PySem.W.nsIn K mainGlobals "list" = some none)
    (z_dict : PySem.W.nsIn K mainGlobals "dict" = some none)
    (z_tuple : PySem.W.nsIn K mainGlobals "tuple" = some none)
    (z_range : PySem.W.nsIn K mainGlobals "range" = some none)
    (z_str : PySem.W.nsIn K mainGlobals "str" = some none)
    (z_sorted : PySem.W.nsIn K mainGlobals "sorted" = some none)
    (z_reversed : PySem.W.nsIn K mainGlobals "reversed" = some none)
    (z_enumerate : PySem.W.nsIn K mainGlobals "enumerate" = some none)
    (z_abs : PySem.W.nsIn K mainGlobals "abs" = some none)
    (z_sum : PySem.W.nsIn K mainGlobals "sum" = some none)
    (g_BookError : PySem.W.nsIn K mainGlobals "BookError" = some (some (.ref C_BookError)))
    (g_Claim : PySem.W.nsIn K mainGlobals "Claim" = some (some (.ref C_Claim)))
    (g_BadPaper : PySem.W.nsIn K mainGlobals "BadPaper" = some (some (.ref C_BadPaper)))
    (xP_BadPaper : PySem.W.excIn K C_BadPaper [.type "ValueError", .type "Exception", .type "BaseException", .type "object"] "ValueError.__new__" = true)
    (kP_BadPaper : PySem.W.keepIn K (.ref C_BadPaper) = true)
    (bP_BadPaper : PySem.W.subIn K (.ref C_BadPaper) (.type "BaseException") = some true)
    (tP_BadPaper : PySem.W.typeIn K (.ref C_BadPaper) = some (.type "type"))
    (hg_BadPaper : PySem.W.findIn K (.ref C_BadPaper) "__getattribute__" = some (some (.builtin "BaseException.__getattribute__")))
    (hk_BadPaper : PySem.W.findIn K (.ref C_BadPaper) "__getattr__" = some none)
    (hd_BadPaper : PySem.W.hasDictIn K C_BadPaper = true)
    (ha_BadPaper : PySem.W.findIn K (.ref C_BadPaper) "__class__" = some (some (.builtin "object.__class__")))
    (hn_BadPaper : PySem.W.specialIn K (.builtin "object.__class__") "__get__" = some (some (.builtin "getset_descriptor.__get__")))
    (ht_BadPaper : PySem.W.takesIn K (.builtin "object.__class__") = some true)
    (hm_BadPaper : PySem.W.mroIn K C_BadPaper (.type "object") = some true)
    (ex_BadPaper : PySem.W.exmOne K (.ref C_BadPaper) (.ref C_BadPaper) = some true)
    (g_NoPlace : PySem.W.nsIn K mainGlobals "NoPlace" = some (some (.ref C_NoPlace)))
    (xP_NoPlace : PySem.W.excIn K C_NoPlace [.type "ValueError", .type "Exception", .type "BaseException", .type "object"] "ValueError.__new__" = true)
    (kP_NoPlace : PySem.W.keepIn K (.ref C_NoPlace) = true)
    (bP_NoPlace : PySem.W.subIn K (.ref C_NoPlace) (.type "BaseException") = some true)
    (tP_NoPlace : PySem.W.typeIn K (.ref C_NoPlace) = some (.type "type"))
    (hg_NoPlace : PySem.W.findIn K (.ref C_NoPlace) "__getattribute__" = some (some (.builtin "BaseException.__getattribute__")))
    (hk_NoPlace : PySem.W.findIn K (.ref C_NoPlace) "__getattr__" = some none)
    (hd_NoPlace : PySem.W.hasDictIn K C_NoPlace = true)
    (ha_NoPlace : PySem.W.findIn K (.ref C_NoPlace) "__class__" = some (some (.builtin "object.__class__")))
    (hn_NoPlace : PySem.W.specialIn K (.builtin "object.__class__") "__get__" = some (some (.builtin "getset_descriptor.__get__")))
    (ht_NoPlace : PySem.W.takesIn K (.builtin "object.__class__") = some true)
    (hm_NoPlace : PySem.W.mroIn K C_NoPlace (.type "object") = some true)
    (ex_NoPlace : PySem.W.exmOne K (.ref C_NoPlace) (.ref C_NoPlace) = some true)
    (g_BadRow : PySem.W.nsIn K mainGlobals "BadRow" = some (some (.ref C_BadRow)))
    (xL_BadRow : K.lookup C_BadRow = some (excClassObj nm_BadRow qn_BadRow C_BadRow N_BadRow bs_BadRow [.ref C_BookError, .type "ValueError", .type "Exception", .type "BaseException", .type "object"] true sn_BadRow sub_BadRow ab_BadRow col_BadRow dd_BadRow m0_BadRow m1_BadRow m2_BadRow m3_BadRow m5_BadRow "ValueError.__new__"))
    (sa_BadRow : PySem.W.findIn K (.ref C_BadRow) "__setattr__" = some (some (.builtin "object.__setattr__")))
    (ga_BadRow : PySem.W.findIn K (.ref C_BadRow) "__getattribute__" = some (some (.builtin "BaseException.__getattribute__")))
    (gg_BadRow : PySem.W.findIn K (.ref C_BadRow) "__getattr__" = some none)
    (nf_BadRow : PySem.W.findIn K (.ref C_BadRow) "row" = some none)
    (kC_BadRow : PySem.W.keepIn K (.ref C_BadRow) = true)
    (eC_BadRow : PySem.W.subIn K (.ref C_BadRow) (.type "BaseException") = some true)
    (tC_BadRow : PySem.W.typeIn K (.ref C_BadRow) = some (.type "type"))
    (hC_BadRow : PySem.W.hasDictIn K C_BadRow = true)
    (iac_BadRow : PySem.W.findIn K (.ref C_BadRow) "__class__" = some (some (.builtin "object.__class__")))
    (xm_BadRow : PySem.W.mroIn K C_BadRow (.type "object") = some true)
    (xe_BadRow : PySem.W.exmOne K (.ref C_BadRow) (.ref C_BadRow) = some true)
    (fi_BadRow : PySem.W.findIn K (.ref C_BadRow) "__init__" = some (some (.ref fI_BadRow)))
    (ti_BadRow : PySem.W.typeIn K (.ref fI_BadRow) = some (.type "function"))
    (bg_BadRow : PySem.W.specialIn K (.ref C_BookError) "__getattribute__" = some (some (.builtin "type.__getattribute__")))
    (br_BadRow : PySem.W.readsIn K C_BookError (.type "type") = true)
    (bf_BadRow : PySem.W.findCls K (.ref C_BookError) (.type "type") "__init__" = some (.val (.builtin "ValueError.__init__")))
    (xn_BadRow : PySem.W.specialIn K (.builtin "object.__class__") "__get__" = some (some (.builtin "getset_descriptor.__get__")))
    (xt_BadRow : PySem.W.takesIn K (.builtin "object.__class__") = some true)
    (li_BadRow : K.lookup fI_BadRow = some ⟨oc_BadRow, od_BadRow, .func (PySem.W.fnOf "__init__" "BadRow.__init__" (defArgs s_BadRow___init__) (defBody s_BadRow___init__) (defScope s_BadRow___init__) .none kV_BadRow dc_BadRow pm_BadRow an_BadRow cd_BadRow ct_BadRow), sl_BadRow⟩) (ci_BadRow : PySem.W.codeIn K cd_BadRow "BadRow.__init__" = true) (ki_BadRow : PySem.W.keepIn K (.ref fI_BadRow) = true)
    (g_Behind : PySem.W.nsIn K mainGlobals "Behind" = some (some (.ref C_Behind)))
    (aMBehind : PySem.W.findIn K (.ref C_Behind) "__init__" = some (some (.ref fMBehind))) (lMBehind : K.lookup fMBehind = some ⟨ocMBehind, odMBehind, .func (PySem.W.fnOf "__init__" "Behind.__init__" (defArgs s_Behind___init__) (defBody s_Behind___init__) (defScope s_Behind___init__) .none kVMBehind dcMBehind pmMBehind anMBehind cdMBehind ctMBehind), slMBehind⟩) (cMBehind : PySem.W.codeIn K cdMBehind "Behind.__init__" = true) (kMBehind : PySem.W.keepIn K (.ref fMBehind) = true) (gaMBehind : PySem.W.specialIn K (.ref C_Behind) "__getattribute__" = some (some (.builtin "type.__getattribute__"))) (rdMBehind : PySem.W.readsIn K C_Behind (.type "type") = true) (fcMBehind : PySem.W.findCls K (.ref C_Behind) (.type "type") "__init__" = some (.val (.ref fMBehind)))
    (g_Table : PySem.W.nsIn K mainGlobals "Table" = some (some (.ref C_Table)))
    (pg_Table : PySem.W.plainGet K C_Table Str.empty = true)
    (hd_Table : PySem.W.hasDictIn K C_Table = true)
    (po_Table : PySem.W.plainOver K C_Table = true)
    (sa_Table : PySem.W.findIn K (.ref C_Table) "__setattr__" = some (some (.builtin "object.__setattr__")))
    (n_Table_seal : PySem.W.findIn K (.ref C_Table) "seal" = some none)
    (n_Table_depth : PySem.W.findIn K (.ref C_Table) "depth" = some none)
    (n_Table_held : PySem.W.findIn K (.ref C_Table) "held" = some none)
    (ia_Table : PySem.W.findIn K (.ref C_Table) "__class__" = some (some (.builtin "object.__class__")))
    (in_Table : PySem.W.specialIn K (.builtin "object.__class__") "__get__" = some (some (.builtin "getset_descriptor.__get__")))
    (it_Table : PySem.W.takesIn K (.builtin "object.__class__") = some true)
    (im_Table : PySem.W.mroIn K C_Table (.type "object") = some true)
    (aTable0 : PySem.W.findIn K (.ref C_Table) "__init__" = some (some (.ref fTable0))) (iTable0 : PySem.W.isFn K (.ref fTable0) = true) (lTable0 : K.lookup fTable0 = some ⟨ocTable0, odTable0, .func (PySem.W.fnOf "__init__" "Table.__init__" (defArgs s_Table___init__) (defBody s_Table___init__) (defScope s_Table___init__) (.ref dTTable0) kVTable0 dcTable0 pmTable0 anTable0 cdTable0 ctTable0), slTable0⟩) (cTable0 : PySem.W.codeIn K cdTable0 "Table.__init__" = true) (kTable0 : PySem.W.keepIn K (.ref fTable0) = true)
    (dTable0 : K.lookup dTTable0 = some ⟨oTTable0, pTTable0, .seq #[.int 8 uTTable0_0] nTTable0, sTTable0⟩)
    (mk_Table : PySem.W.makesIn K C_Table = true) (kc_Table : PySem.W.keepIn K (.ref C_Table) = true)
    (aTable1 : PySem.W.findIn K (.ref C_Table) "asked" = some (some (.ref fTable1))) (iTable1 : PySem.W.isFn K (.ref fTable1) = true) (lTable1 : K.lookup fTable1 = some ⟨ocTable1, odTable1, .func (PySem.W.fnOf "asked" "Table.asked" (defArgs s_Table_asked) (defBody s_Table_asked) (defScope s_Table_asked) .none kVTable1 dcTable1 pmTable1 anTable1 cdTable1 ctTable1), slTable1⟩) (cTable1 : PySem.W.codeIn K cdTable1 "Table.asked" = true) (kTable1 : PySem.W.keepIn K (.ref fTable1) = true)
    (aTable2 : PySem.W.findIn K (.ref C_Table) "put" = some (some (.ref fTable2))) (iTable2 : PySem.W.isFn K (.ref fTable2) = true) (lTable2 : K.lookup fTable2 = some ⟨ocTable2, odTable2, .func (PySem.W.fnOf "put" "Table.put" (defArgs s_Table_put) (defBody s_Table_put) (defScope s_Table_put) .none kVTable2 dcTable2 pmTable2 anTable2 cdTable2 ctTable2), slTable2⟩) (cTable2 : PySem.W.codeIn K cdTable2 "Table.put" = true) (kTable2 : PySem.W.keepIn K (.ref fTable2) = true)
    (aTable3 : PySem.W.findIn K (.ref C_Table) "cut" = some (some (.ref fTable3))) (iTable3 : PySem.W.isFn K (.ref fTable3) = true) (lTable3 : K.lookup fTable3 = some ⟨ocTable3, odTable3, .func (PySem.W.fnOf "cut" "Table.cut" (defArgs s_Table_cut) (defBody s_Table_cut) (defScope s_Table_cut) .none kVTable3 dcTable3 pmTable3 anTable3 cdTable3 ctTable3), slTable3⟩) (cTable3 : PySem.W.codeIn K cdTable3 "Table.cut" = true) (kTable3 : PySem.W.keepIn K (.ref fTable3) = true)
    (aTable4 : PySem.W.findIn K (.ref C_Table) "value" = some (some (.ref fTable4))) (iTable4 : PySem.W.isFn K (.ref fTable4) = true) (lTable4 : K.lookup fTable4 = some ⟨ocTable4, odTable4, .func (PySem.W.fnOf "value" "Table.value" (defArgs s_Table_value) (defBody s_Table_value) (defScope s_Table_value) .none kVTable4 dcTable4 pmTable4 anTable4 cdTable4 ctTable4), slTable4⟩) (cTable4 : PySem.W.codeIn K cdTable4 "Table.value" = true) (kTable4 : PySem.W.keepIn K (.ref fTable4) = true)
    (aTable5 : PySem.W.findIn K (.ref C_Table) "rows" = some (some (.ref fTable5))) (iTable5 : PySem.W.isFn K (.ref fTable5) = true) (lTable5 : K.lookup fTable5 = some ⟨ocTable5, odTable5, .func (PySem.W.fnOf "rows" "Table.rows" (defArgs s_Table_rows) (defBody s_Table_rows) (defScope s_Table_rows) .none kVTable5 dcTable5 pmTable5 anTable5 cdTable5 ctTable5), slTable5⟩) (cTable5 : PySem.W.codeIn K cdTable5 "Table.rows" = true) (kTable5 : PySem.W.keepIn K (.ref fTable5) = true)
    (aTable6 : PySem.W.findIn K (.ref C_Table) "head" = some (some (.ref fTable6))) (iTable6 : PySem.W.isFn K (.ref fTable6) = true) (lTable6 : K.lookup fTable6 = some ⟨ocTable6, odTable6, .func (PySem.W.fnOf "head" "Table.head" (defArgs s_Table_head) (defBody s_Table_head) (defScope s_Table_head) .none kVTable6 dcTable6 pmTable6 anTable6 cdTable6 ctTable6), slTable6⟩) (cTable6 : PySem.W.codeIn K cdTable6 "Table.head" = true) (kTable6 : PySem.W.keepIn K (.ref fTable6) = true)
    (aTable7 : PySem.W.findIn K (.ref C_Table) "way" = some (some (.ref fTable7))) (iTable7 : PySem.W.isFn K (.ref fTable7) = true) (lTable7 : K.lookup fTable7 = some ⟨ocTable7, odTable7, .func (PySem.W.fnOf "way" "Table.way" (defArgs s_Table_way) (defBody s_Table_way) (defScope s_Table_way) .none kVTable7 dcTable7 pmTable7 anTable7 cdTable7 ctTable7), slTable7⟩) (cTable7 : PySem.W.codeIn K cdTable7 "Table.way" = true) (kTable7 : PySem.W.keepIn K (.ref fTable7) = true)
    (g_Keeper : PySem.W.nsIn K mainGlobals "Keeper" = some (some (.ref C_Keeper)))
    (pg_Keeper : PySem.W.plainGet K C_Keeper Str.empty = true)
    (hd_Keeper : PySem.W.hasDictIn K C_Keeper = true)
    (po_Keeper : PySem.W.plainOver K C_Keeper = true)
    (sa_Keeper : PySem.W.findIn K (.ref C_Keeper) "__setattr__" = some (some (.builtin "object.__setattr__")))
    (n_Keeper_seal : PySem.W.findIn K (.ref C_Keeper) "seal" = some none)
    (n_Keeper_depth : PySem.W.findIn K (.ref C_Keeper) "depth" = some none)
    (n_Keeper_texts : PySem.W.findIn K (.ref C_Keeper) "texts" = some none)
    (n_Keeper_tables : PySem.W.findIn K (.ref C_Keeper) "tables" = some none)
    (n_Keeper_leaves : PySem.W.findIn K (.ref C_Keeper) "leaves" = some none)
    (ia_Keeper : PySem.W.findIn K (.ref C_Keeper) "__class__" = some (some (.builtin "object.__class__")))
    (in_Keeper : PySem.W.specialIn K (.builtin "object.__class__") "__get__" = some (some (.builtin "getset_descriptor.__get__")))
    (it_Keeper : PySem.W.takesIn K (.builtin "object.__class__") = some true)
    (im_Keeper : PySem.W.mroIn K C_Keeper (.type "object") = some true)
    (aKeeper0 : PySem.W.findIn K (.ref C_Keeper) "__init__" = some (some (.ref fKeeper0))) (iKeeper0 : PySem.W.isFn K (.ref fKeeper0) = true) (lKeeper0 : K.lookup fKeeper0 = some ⟨ocKeeper0, odKeeper0, .func (PySem.W.fnOf "__init__" "Keeper.__init__" (defArgs s_Keeper___init__) (defBody s_Keeper___init__) (defScope s_Keeper___init__) (.ref dTKeeper0) kVKeeper0 dcKeeper0 pmKeeper0 anKeeper0 cdKeeper0 ctKeeper0), slKeeper0⟩) (cKeeper0 : PySem.W.codeIn K cdKeeper0 "Keeper.__init__" = true) (kKeeper0 : PySem.W.keepIn K (.ref fKeeper0) = true)
    (dKeeper0 : K.lookup dTKeeper0 = some ⟨oTKeeper0, pTKeeper0, .seq #[.int 8 uTKeeper0_0] nTKeeper0, sTKeeper0⟩)
    (mk_Keeper : PySem.W.makesIn K C_Keeper = true) (kc_Keeper : PySem.W.keepIn K (.ref C_Keeper) = true)
    (aKeeper1 : PySem.W.findIn K (.ref C_Keeper) "add" = some (some (.ref fKeeper1))) (iKeeper1 : PySem.W.isFn K (.ref fKeeper1) = true) (lKeeper1 : K.lookup fKeeper1 = some ⟨ocKeeper1, odKeeper1, .func (PySem.W.fnOf "add" "Keeper.add" (defArgs s_Keeper_add) (defBody s_Keeper_add) (defScope s_Keeper_add) .none kVKeeper1 dcKeeper1 pmKeeper1 anKeeper1 cdKeeper1 ctKeeper1), slKeeper1⟩) (cKeeper1 : PySem.W.codeIn K cdKeeper1 "Keeper.add" = true) (kKeeper1 : PySem.W.keepIn K (.ref fKeeper1) = true)
    (aKeeper2 : PySem.W.findIn K (.ref C_Keeper) "size" = some (some (.ref fKeeper2))) (iKeeper2 : PySem.W.isFn K (.ref fKeeper2) = true) (lKeeper2 : K.lookup fKeeper2 = some ⟨ocKeeper2, odKeeper2, .func (PySem.W.fnOf "size" "Keeper.size" (defArgs s_Keeper_size) (defBody s_Keeper_size) (defScope s_Keeper_size) .none kVKeeper2 dcKeeper2 pmKeeper2 anKeeper2 cdKeeper2 ctKeeper2), slKeeper2⟩) (cKeeper2 : PySem.W.codeIn K cdKeeper2 "Keeper.size" = true) (kKeeper2 : PySem.W.keepIn K (.ref fKeeper2) = true)
    (aKeeper3 : PySem.W.findIn K (.ref C_Keeper) "first" = some (some (.ref fKeeper3))) (iKeeper3 : PySem.W.isFn K (.ref fKeeper3) = true) (lKeeper3 : K.lookup fKeeper3 = some ⟨ocKeeper3, odKeeper3, .func (PySem.W.fnOf "first" "Keeper.first" (defArgs s_Keeper_first) (defBody s_Keeper_first) (defScope s_Keeper_first) .none kVKeeper3 dcKeeper3 pmKeeper3 anKeeper3 cdKeeper3 ctKeeper3), slKeeper3⟩) (cKeeper3 : PySem.W.codeIn K cdKeeper3 "Keeper.first" = true) (kKeeper3 : PySem.W.keepIn K (.ref fKeeper3) = true)
    (aKeeper4 : PySem.W.findIn K (.ref C_Keeper) "within" = some (some (.ref fKeeper4))) (iKeeper4 : PySem.W.isFn K (.ref fKeeper4) = true) (lKeeper4 : K.lookup fKeeper4 = some ⟨ocKeeper4, odKeeper4, .func (PySem.W.fnOf "within" "Keeper.within" (defArgs s_Keeper_within) (defBody s_Keeper_within) (defScope s_Keeper_within) .none kVKeeper4 dcKeeper4 pmKeeper4 anKeeper4 cdKeeper4 ctKeeper4), slKeeper4⟩) (cKeeper4 : PySem.W.codeIn K cdKeeper4 "Keeper.within" = true) (kKeeper4 : PySem.W.keepIn K (.ref fKeeper4) = true)
    (aKeeper5 : PySem.W.findIn K (.ref C_Keeper) "text" = some (some (.ref fKeeper5))) (iKeeper5 : PySem.W.isFn K (.ref fKeeper5) = true) (lKeeper5 : K.lookup fKeeper5 = some ⟨ocKeeper5, odKeeper5, .func (PySem.W.fnOf "text" "Keeper.text" (defArgs s_Keeper_text) (defBody s_Keeper_text) (defScope s_Keeper_text) .none kVKeeper5 dcKeeper5 pmKeeper5 anKeeper5 cdKeeper5 ctKeeper5), slKeeper5⟩) (cKeeper5 : PySem.W.codeIn K cdKeeper5 "Keeper.text" = true) (kKeeper5 : PySem.W.keepIn K (.ref fKeeper5) = true)
    (aKeeper6 : PySem.W.findIn K (.ref C_Keeper) "table_head" = some (some (.ref fKeeper6))) (iKeeper6 : PySem.W.isFn K (.ref fKeeper6) = true) (lKeeper6 : K.lookup fKeeper6 = some ⟨ocKeeper6, odKeeper6, .func (PySem.W.fnOf "table_head" "Keeper.table_head" (defArgs s_Keeper_table_head) (defBody s_Keeper_table_head) (defScope s_Keeper_table_head) .none kVKeeper6 dcKeeper6 pmKeeper6 anKeeper6 cdKeeper6 ctKeeper6), slKeeper6⟩) (cKeeper6 : PySem.W.codeIn K cdKeeper6 "Keeper.table_head" = true) (kKeeper6 : PySem.W.keepIn K (.ref fKeeper6) = true)
    (aKeeper7 : PySem.W.findIn K (.ref C_Keeper) "head" = some (some (.ref fKeeper7))) (iKeeper7 : PySem.W.isFn K (.ref fKeeper7) = true) (lKeeper7 : K.lookup fKeeper7 = some ⟨ocKeeper7, odKeeper7, .func (PySem.W.fnOf "head" "Keeper.head" (defArgs s_Keeper_head) (defBody s_Keeper_head) (defScope s_Keeper_head) (.ref dTKeeper7) kVKeeper7 dcKeeper7 pmKeeper7 anKeeper7 cdKeeper7 ctKeeper7), slKeeper7⟩) (cKeeper7 : PySem.W.codeIn K cdKeeper7 "Keeper.head" = true) (kKeeper7 : PySem.W.keepIn K (.ref fKeeper7) = true)
    (dKeeper7 : K.lookup dTKeeper7 = some ⟨oTKeeper7, pTKeeper7, .seq #[.none] nTKeeper7, sTKeeper7⟩)
    (aKeeper8 : PySem.W.findIn K (.ref C_Keeper) "path" = some (some (.ref fKeeper8))) (iKeeper8 : PySem.W.isFn K (.ref fKeeper8) = true) (lKeeper8 : K.lookup fKeeper8 = some ⟨ocKeeper8, odKeeper8, .func (PySem.W.fnOf "path" "Keeper.path" (defArgs s_Keeper_path) (defBody s_Keeper_path) (defScope s_Keeper_path) (.ref dTKeeper8) kVKeeper8 dcKeeper8 pmKeeper8 anKeeper8 cdKeeper8 ctKeeper8), slKeeper8⟩) (cKeeper8 : PySem.W.codeIn K cdKeeper8 "Keeper.path" = true) (kKeeper8 : PySem.W.keepIn K (.ref fKeeper8) = true)
    (dKeeper8 : K.lookup dTKeeper8 = some ⟨oTKeeper8, pTKeeper8, .seq #[.none] nTKeeper8, sTKeeper8⟩)
    (aKeeper9 : PySem.W.findIn K (.ref C_Keeper) "growth" = some (some (.ref fKeeper9))) (iKeeper9 : PySem.W.isFn K (.ref fKeeper9) = true) (lKeeper9 : K.lookup fKeeper9 = some ⟨ocKeeper9, odKeeper9, .func (PySem.W.fnOf "growth" "Keeper.growth" (defArgs s_Keeper_growth) (defBody s_Keeper_growth) (defScope s_Keeper_growth) (.ref dTKeeper9) kVKeeper9 dcKeeper9 pmKeeper9 anKeeper9 cdKeeper9 ctKeeper9), slKeeper9⟩) (cKeeper9 : PySem.W.codeIn K cdKeeper9 "Keeper.growth" = true) (kKeeper9 : PySem.W.keepIn K (.ref fKeeper9) = true)
    (dKeeper9 : K.lookup dTKeeper9 = some ⟨oTKeeper9, pTKeeper9, .seq #[.none] nTKeeper9, sTKeeper9⟩)
    (aKeeper10 : PySem.W.findIn K (.ref C_Keeper) "way" = some (some (.ref fKeeper10))) (iKeeper10 : PySem.W.isFn K (.ref fKeeper10) = true) (lKeeper10 : K.lookup fKeeper10 = some ⟨ocKeeper10, odKeeper10, .func (PySem.W.fnOf "way" "Keeper.way" (defArgs s_Keeper_way) (defBody s_Keeper_way) (defScope s_Keeper_way) .none kVKeeper10 dcKeeper10 pmKeeper10 anKeeper10 cdKeeper10 ctKeeper10), slKeeper10⟩) (cKeeper10 : PySem.W.codeIn K cdKeeper10 "Keeper.way" = true) (kKeeper10 : PySem.W.keepIn K (.ref fKeeper10) = true)
    (aKeeper11 : PySem.W.findIn K (.ref C_Keeper) "paper" = some (some (.ref fKeeper11))) (iKeeper11 : PySem.W.isFn K (.ref fKeeper11) = true) (lKeeper11 : K.lookup fKeeper11 = some ⟨ocKeeper11, odKeeper11, .func (PySem.W.fnOf "paper" "Keeper.paper" (defArgs s_Keeper_paper) (defBody s_Keeper_paper) (defScope s_Keeper_paper) (.ref dTKeeper11) kVKeeper11 dcKeeper11 pmKeeper11 anKeeper11 cdKeeper11 ctKeeper11), slKeeper11⟩) (cKeeper11 : PySem.W.codeIn K cdKeeper11 "Keeper.paper" = true) (kKeeper11 : PySem.W.keepIn K (.ref fKeeper11) = true)
    (dKeeper11 : K.lookup dTKeeper11 = some ⟨oTKeeper11, pTKeeper11, .seq #[.none] nTKeeper11, sTKeeper11⟩)
    (g_Stands : PySem.W.nsIn K mainGlobals "Stands" = some (some (.ref C_Stands)))
    (pg_Stands : PySem.W.plainGet K C_Stands Str.empty = true)
    (hd_Stands : PySem.W.hasDictIn K C_Stands = true)
    (po_Stands : PySem.W.plainOver K C_Stands = true)
    (sa_Stands : PySem.W.findIn K (.ref C_Stands) "__setattr__" = some (some (.builtin "object.__setattr__")))
    (n_Stands_place : PySem.W.findIn K (.ref C_Stands) "place" = some none)
    (n_Stands_words : PySem.W.findIn K (.ref C_Stands) "words" = some none)
    (n_Stands_table : PySem.W.findIn K (.ref C_Stands) "table" = some none)
    (ia_Stands : PySem.W.findIn K (.ref C_Stands) "__class__" = some (some (.builtin "object.__class__")))
    (in_Stands : PySem.W.specialIn K (.builtin "object.__class__") "__get__" = some (some (.builtin "getset_descriptor.__get__")))
    (it_Stands : PySem.W.takesIn K (.builtin "object.__class__") = some true)
    (im_Stands : PySem.W.mroIn K C_Stands (.type "object") = some true)
    (aStands0 : PySem.W.findIn K (.ref C_Stands) "__init__" = some (some (.ref fStands0))) (iStands0 : PySem.W.isFn K (.ref fStands0) = true) (lStands0 : K.lookup fStands0 = some ⟨ocStands0, odStands0, .func (PySem.W.fnOf "__init__" "Stands.__init__" (defArgs s_Stands___init__) (defBody s_Stands___init__) (defScope s_Stands___init__) .none kVStands0 dcStands0 pmStands0 anStands0 cdStands0 ctStands0), slStands0⟩) (cStands0 : PySem.W.codeIn K cdStands0 "Stands.__init__" = true) (kStands0 : PySem.W.keepIn K (.ref fStands0) = true)
    (mk_Stands : PySem.W.makesIn K C_Stands = true) (kc_Stands : PySem.W.keepIn K (.ref C_Stands) = true)
    (aStands1 : PySem.W.findIn K (.ref C_Stands) "shown" = some (some (.ref fStands1))) (iStands1 : PySem.W.isFn K (.ref fStands1) = true) (lStands1 : K.lookup fStands1 = some ⟨ocStands1, odStands1, .func (PySem.W.fnOf "shown" "Stands.shown" (defArgs s_Stands_shown) (defBody s_Stands_shown) (defScope s_Stands_shown) .none kVStands1 dcStands1 pmStands1 anStands1 cdStands1 ctStands1), slStands1⟩) (cStands1 : PySem.W.codeIn K cdStands1 "Stands.shown" = true) (kStands1 : PySem.W.keepIn K (.ref fStands1) = true)
    (aStands2 : PySem.W.findIn K (.ref C_Stands) "judged" = some (some (.ref fStands2))) (iStands2 : PySem.W.isFn K (.ref fStands2) = true) (lStands2 : K.lookup fStands2 = some ⟨ocStands2, odStands2, .func (PySem.W.fnOf "judged" "Claim.judged" (defArgs s_Claim_judged) (defBody s_Claim_judged) (defScope s_Claim_judged) .none kVStands2 dcStands2 pmStands2 anStands2 cdStands2 ctStands2), slStands2⟩) (cStands2 : PySem.W.codeIn K cdStands2 "Claim.judged" = true) (kStands2 : PySem.W.keepIn K (.ref fStands2) = true)
    (g_Grows : PySem.W.nsIn K mainGlobals "Grows" = some (some (.ref C_Grows)))
    (pg_Grows : PySem.W.plainGet K C_Grows Str.empty = true)
    (hd_Grows : PySem.W.hasDictIn K C_Grows = true)
    (po_Grows : PySem.W.plainOver K C_Grows = true)
    (sa_Grows : PySem.W.findIn K (.ref C_Grows) "__setattr__" = some (some (.builtin "object.__setattr__")))
    (n_Grows_old : PySem.W.findIn K (.ref C_Grows) "old" = some none)
    (n_Grows_before : PySem.W.findIn K (.ref C_Grows) "before" = some none)
    (ia_Grows : PySem.W.findIn K (.ref C_Grows) "__class__" = some (some (.builtin "object.__class__")))
    (in_Grows : PySem.W.specialIn K (.builtin "object.__class__") "__get__" = some (some (.builtin "getset_descriptor.__get__")))
    (it_Grows : PySem.W.takesIn K (.builtin "object.__class__") = some true)
    (im_Grows : PySem.W.mroIn K C_Grows (.type "object") = some true)
    (aGrows0 : PySem.W.findIn K (.ref C_Grows) "__init__" = some (some (.ref fGrows0))) (iGrows0 : PySem.W.isFn K (.ref fGrows0) = true) (lGrows0 : K.lookup fGrows0 = some ⟨ocGrows0, odGrows0, .func (PySem.W.fnOf "__init__" "Grows.__init__" (defArgs s_Grows___init__) (defBody s_Grows___init__) (defScope s_Grows___init__) .none kVGrows0 dcGrows0 pmGrows0 anGrows0 cdGrows0 ctGrows0), slGrows0⟩) (cGrows0 : PySem.W.codeIn K cdGrows0 "Grows.__init__" = true) (kGrows0 : PySem.W.keepIn K (.ref fGrows0) = true)
    (mk_Grows : PySem.W.makesIn K C_Grows = true) (kc_Grows : PySem.W.keepIn K (.ref C_Grows) = true)
    (aGrows1 : PySem.W.findIn K (.ref C_Grows) "shown" = some (some (.ref fGrows1))) (iGrows1 : PySem.W.isFn K (.ref fGrows1) = true) (lGrows1 : K.lookup fGrows1 = some ⟨ocGrows1, odGrows1, .func (PySem.W.fnOf "shown" "Grows.shown" (defArgs s_Grows_shown) (defBody s_Grows_shown) (defScope s_Grows_shown) .none kVGrows1 dcGrows1 pmGrows1 anGrows1 cdGrows1 ctGrows1), slGrows1⟩) (cGrows1 : PySem.W.codeIn K cdGrows1 "Grows.shown" = true) (kGrows1 : PySem.W.keepIn K (.ref fGrows1) = true)
    (aGrows2 : PySem.W.findIn K (.ref C_Grows) "judged" = some (some (.ref fGrows2))) (iGrows2 : PySem.W.isFn K (.ref fGrows2) = true) (lGrows2 : K.lookup fGrows2 = some ⟨ocGrows2, odGrows2, .func (PySem.W.fnOf "judged" "Claim.judged" (defArgs s_Claim_judged) (defBody s_Claim_judged) (defScope s_Claim_judged) .none kVGrows2 dcGrows2 pmGrows2 anGrows2 cdGrows2 ctGrows2), slGrows2⟩) (cGrows2 : PySem.W.codeIn K cdGrows2 "Claim.judged" = true) (kGrows2 : PySem.W.keepIn K (.ref fGrows2) = true)
    (g_Holds : PySem.W.nsIn K mainGlobals "Holds" = some (some (.ref C_Holds)))
    (pg_Holds : PySem.W.plainGet K C_Holds Str.empty = true)
    (hd_Holds : PySem.W.hasDictIn K C_Holds = true)
    (po_Holds : PySem.W.plainOver K C_Holds = true)
    (sa_Holds : PySem.W.findIn K (.ref C_Holds) "__setattr__" = some (some (.builtin "object.__setattr__")))
    (n_Holds_place : PySem.W.findIn K (.ref C_Holds) "place" = some none)
    (n_Holds_key : PySem.W.findIn K (.ref C_Holds) "key" = some none)
    (n_Holds_depth : PySem.W.findIn K (.ref C_Holds) "depth" = some none)
    (n_Holds_said : PySem.W.findIn K (.ref C_Holds) "said" = some none)
    (ia_Holds : PySem.W.findIn K (.ref C_Holds) "__class__" = some (some (.builtin "object.__class__")))
    (in_Holds : PySem.W.specialIn K (.builtin "object.__class__") "__get__" = some (some (.builtin "getset_descriptor.__get__")))
    (it_Holds : PySem.W.takesIn K (.builtin "object.__class__") = some true)
    (im_Holds : PySem.W.mroIn K C_Holds (.type "object") = some true)
    (aHolds0 : PySem.W.findIn K (.ref C_Holds) "__init__" = some (some (.ref fHolds0))) (iHolds0 : PySem.W.isFn K (.ref fHolds0) = true) (lHolds0 : K.lookup fHolds0 = some ⟨ocHolds0, odHolds0, .func (PySem.W.fnOf "__init__" "Holds.__init__" (defArgs s_Holds___init__) (defBody s_Holds___init__) (defScope s_Holds___init__) .none kVHolds0 dcHolds0 pmHolds0 anHolds0 cdHolds0 ctHolds0), slHolds0⟩) (cHolds0 : PySem.W.codeIn K cdHolds0 "Holds.__init__" = true) (kHolds0 : PySem.W.keepIn K (.ref fHolds0) = true)
    (mk_Holds : PySem.W.makesIn K C_Holds = true) (kc_Holds : PySem.W.keepIn K (.ref C_Holds) = true)
    (aHolds1 : PySem.W.findIn K (.ref C_Holds) "ends" = some (some (.ref fHolds1))) (iHolds1 : PySem.W.isFn K (.ref fHolds1) = true) (lHolds1 : K.lookup fHolds1 = some ⟨ocHolds1, odHolds1, .func (PySem.W.fnOf "ends" "Holds.ends" (defArgs s_Holds_ends) (defBody s_Holds_ends) (defScope s_Holds_ends) .none kVHolds1 dcHolds1 pmHolds1 anHolds1 cdHolds1 ctHolds1), slHolds1⟩) (cHolds1 : PySem.W.codeIn K cdHolds1 "Holds.ends" = true) (kHolds1 : PySem.W.keepIn K (.ref fHolds1) = true)
    (aHolds2 : PySem.W.findIn K (.ref C_Holds) "shown" = some (some (.ref fHolds2))) (iHolds2 : PySem.W.isFn K (.ref fHolds2) = true) (lHolds2 : K.lookup fHolds2 = some ⟨ocHolds2, odHolds2, .func (PySem.W.fnOf "shown" "Behind.shown" (defArgs s_Behind_shown) (defBody s_Behind_shown) (defScope s_Behind_shown) .none kVHolds2 dcHolds2 pmHolds2 anHolds2 cdHolds2 ctHolds2), slHolds2⟩) (cHolds2 : PySem.W.codeIn K cdHolds2 "Behind.shown" = true) (kHolds2 : PySem.W.keepIn K (.ref fHolds2) = true)
    (aHolds3 : PySem.W.findIn K (.ref C_Holds) "judged" = some (some (.ref fHolds3))) (iHolds3 : PySem.W.isFn K (.ref fHolds3) = true) (lHolds3 : K.lookup fHolds3 = some ⟨ocHolds3, odHolds3, .func (PySem.W.fnOf "judged" "Claim.judged" (defArgs s_Claim_judged) (defBody s_Claim_judged) (defScope s_Claim_judged) .none kVHolds3 dcHolds3 pmHolds3 anHolds3 cdHolds3 ctHolds3), slHolds3⟩) (cHolds3 : PySem.W.codeIn K cdHolds3 "Claim.judged" = true) (kHolds3 : PySem.W.keepIn K (.ref fHolds3) = true)
    (g_Lacks : PySem.W.nsIn K mainGlobals "Lacks" = some (some (.ref C_Lacks)))
    (pg_Lacks : PySem.W.plainGet K C_Lacks Str.empty = true)
    (hd_Lacks : PySem.W.hasDictIn K C_Lacks = true)
    (po_Lacks : PySem.W.plainOver K C_Lacks = true)
    (sa_Lacks : PySem.W.findIn K (.ref C_Lacks) "__setattr__" = some (some (.builtin "object.__setattr__")))
    (n_Lacks_place : PySem.W.findIn K (.ref C_Lacks) "place" = some none)
    (n_Lacks_key : PySem.W.findIn K (.ref C_Lacks) "key" = some none)
    (n_Lacks_depth : PySem.W.findIn K (.ref C_Lacks) "depth" = some none)
    (ia_Lacks : PySem.W.findIn K (.ref C_Lacks) "__class__" = some (some (.builtin "object.__class__")))
    (in_Lacks : PySem.W.specialIn K (.builtin "object.__class__") "__get__" = some (some (.builtin "getset_descriptor.__get__")))
    (it_Lacks : PySem.W.takesIn K (.builtin "object.__class__") = some true)
    (im_Lacks : PySem.W.mroIn K C_Lacks (.type "object") = some true)
    (aLacks0 : PySem.W.findIn K (.ref C_Lacks) "ends" = some (some (.ref fLacks0))) (iLacks0 : PySem.W.isFn K (.ref fLacks0) = true) (lLacks0 : K.lookup fLacks0 = some ⟨ocLacks0, odLacks0, .func (PySem.W.fnOf "ends" "Lacks.ends" (defArgs s_Lacks_ends) (defBody s_Lacks_ends) (defScope s_Lacks_ends) .none kVLacks0 dcLacks0 pmLacks0 anLacks0 cdLacks0 ctLacks0), slLacks0⟩) (cLacks0 : PySem.W.codeIn K cdLacks0 "Lacks.ends" = true) (kLacks0 : PySem.W.keepIn K (.ref fLacks0) = true)
    (aLacks1 : PySem.W.findIn K (.ref C_Lacks) "__init__" = some (some (.ref fLacks1))) (iLacks1 : PySem.W.isFn K (.ref fLacks1) = true) (lLacks1 : K.lookup fLacks1 = some ⟨ocLacks1, odLacks1, .func (PySem.W.fnOf "__init__" "Behind.__init__" (defArgs s_Behind___init__) (defBody s_Behind___init__) (defScope s_Behind___init__) .none kVLacks1 dcLacks1 pmLacks1 anLacks1 cdLacks1 ctLacks1), slLacks1⟩) (cLacks1 : PySem.W.codeIn K cdLacks1 "Behind.__init__" = true) (kLacks1 : PySem.W.keepIn K (.ref fLacks1) = true)
    (mk_Lacks : PySem.W.makesIn K C_Lacks = true) (kc_Lacks : PySem.W.keepIn K (.ref C_Lacks) = true)
    (aLacks2 : PySem.W.findIn K (.ref C_Lacks) "shown" = some (some (.ref fLacks2))) (iLacks2 : PySem.W.isFn K (.ref fLacks2) = true) (lLacks2 : K.lookup fLacks2 = some ⟨ocLacks2, odLacks2, .func (PySem.W.fnOf "shown" "Behind.shown" (defArgs s_Behind_shown) (defBody s_Behind_shown) (defScope s_Behind_shown) .none kVLacks2 dcLacks2 pmLacks2 anLacks2 cdLacks2 ctLacks2), slLacks2⟩) (cLacks2 : PySem.W.codeIn K cdLacks2 "Behind.shown" = true) (kLacks2 : PySem.W.keepIn K (.ref fLacks2) = true)
    (aLacks3 : PySem.W.findIn K (.ref C_Lacks) "judged" = some (some (.ref fLacks3))) (iLacks3 : PySem.W.isFn K (.ref fLacks3) = true) (lLacks3 : K.lookup fLacks3 = some ⟨ocLacks3, odLacks3, .func (PySem.W.fnOf "judged" "Claim.judged" (defArgs s_Claim_judged) (defBody s_Claim_judged) (defScope s_Claim_judged) .none kVLacks3 dcLacks3 pmLacks3 anLacks3 cdLacks3 ctLacks3), slLacks3⟩) (cLacks3 : PySem.W.codeIn K cdLacks3 "Claim.judged" = true) (kLacks3 : PySem.W.keepIn K (.ref fLacks3) = true)
    (g_Frontier : PySem.W.nsIn K mainGlobals "Frontier" = some (some (.ref C_Frontier)))
    (pg_Frontier : PySem.W.plainGet K C_Frontier Str.empty = true)
    (hd_Frontier : PySem.W.hasDictIn K C_Frontier = true)
    (po_Frontier : PySem.W.plainOver K C_Frontier = true)
    (sa_Frontier : PySem.W.findIn K (.ref C_Frontier) "__setattr__" = some (some (.builtin "object.__setattr__")))
    (n_Frontier_seal : PySem.W.findIn K (.ref C_Frontier) "seal" = some none)
    (n_Frontier_many : PySem.W.findIn K (.ref C_Frontier) "many" = some none)
    (n_Frontier_tops : PySem.W.findIn K (.ref C_Frontier) "tops" = some none)
    (ia_Frontier : PySem.W.findIn K (.ref C_Frontier) "__class__" = some (some (.builtin "object.__class__")))
    (in_Frontier : PySem.W.specialIn K (.builtin "object.__class__") "__get__" = some (some (.builtin "getset_descriptor.__get__")))
    (it_Frontier : PySem.W.takesIn K (.builtin "object.__class__") = some true)
    (im_Frontier : PySem.W.mroIn K C_Frontier (.type "object") = some true)
    (aFrontier0 : PySem.W.findIn K (.ref C_Frontier) "__init__" = some (some (.ref fFrontier0))) (iFrontier0 : PySem.W.isFn K (.ref fFrontier0) = true) (lFrontier0 : K.lookup fFrontier0 = some ⟨ocFrontier0, odFrontier0, .func (PySem.W.fnOf "__init__" "Frontier.__init__" (defArgs s_Frontier___init__) (defBody s_Frontier___init__) (defScope s_Frontier___init__) .none kVFrontier0 dcFrontier0 pmFrontier0 anFrontier0 cdFrontier0 ctFrontier0), slFrontier0⟩) (cFrontier0 : PySem.W.codeIn K cdFrontier0 "Frontier.__init__" = true) (kFrontier0 : PySem.W.keepIn K (.ref fFrontier0) = true)
    (mk_Frontier : PySem.W.makesIn K C_Frontier = true) (kc_Frontier : PySem.W.keepIn K (.ref C_Frontier) = true)
    (aFrontier1 : PySem.W.findIn K (.ref C_Frontier) "add" = some (some (.ref fFrontier1))) (iFrontier1 : PySem.W.isFn K (.ref fFrontier1) = true) (lFrontier1 : K.lookup fFrontier1 = some ⟨ocFrontier1, odFrontier1, .func (PySem.W.fnOf "add" "Frontier.add" (defArgs s_Frontier_add) (defBody s_Frontier_add) (defScope s_Frontier_add) .none kVFrontier1 dcFrontier1 pmFrontier1 anFrontier1 cdFrontier1 ctFrontier1), slFrontier1⟩) (cFrontier1 : PySem.W.codeIn K cdFrontier1 "Frontier.add" = true) (kFrontier1 : PySem.W.keepIn K (.ref fFrontier1) = true)
    (aFrontier2 : PySem.W.findIn K (.ref C_Frontier) "size" = some (some (.ref fFrontier2))) (iFrontier2 : PySem.W.isFn K (.ref fFrontier2) = true) (lFrontier2 : K.lookup fFrontier2 = some ⟨ocFrontier2, odFrontier2, .func (PySem.W.fnOf "size" "Frontier.size" (defArgs s_Frontier_size) (defBody s_Frontier_size) (defScope s_Frontier_size) .none kVFrontier2 dcFrontier2 pmFrontier2 anFrontier2 cdFrontier2 ctFrontier2), slFrontier2⟩) (cFrontier2 : PySem.W.codeIn K cdFrontier2 "Frontier.size" = true) (kFrontier2 : PySem.W.keepIn K (.ref fFrontier2) = true)
    (aFrontier3 : PySem.W.findIn K (.ref C_Frontier) "kept" = some (some (.ref fFrontier3))) (iFrontier3 : PySem.W.isFn K (.ref fFrontier3) = true) (lFrontier3 : K.lookup fFrontier3 = some ⟨ocFrontier3, odFrontier3, .func (PySem.W.fnOf "kept" "Frontier.kept" (defArgs s_Frontier_kept) (defBody s_Frontier_kept) (defScope s_Frontier_kept) .none kVFrontier3 dcFrontier3 pmFrontier3 anFrontier3 cdFrontier3 ctFrontier3), slFrontier3⟩) (cFrontier3 : PySem.W.codeIn K cdFrontier3 "Frontier.kept" = true) (kFrontier3 : PySem.W.keepIn K (.ref fFrontier3) = true)
    (aFrontier4 : PySem.W.findIn K (.ref C_Frontier) "top" = some (some (.ref fFrontier4))) (iFrontier4 : PySem.W.isFn K (.ref fFrontier4) = true) (lFrontier4 : K.lookup fFrontier4 = some ⟨ocFrontier4, odFrontier4, .func (PySem.W.fnOf "top" "Frontier.top" (defArgs s_Frontier_top) (defBody s_Frontier_top) (defScope s_Frontier_top) .none kVFrontier4 dcFrontier4 pmFrontier4 anFrontier4 cdFrontier4 ctFrontier4), slFrontier4⟩) (cFrontier4 : PySem.W.codeIn K cdFrontier4 "Frontier.top" = true) (kFrontier4 : PySem.W.keepIn K (.ref fFrontier4) = true)
    : Txt K mg cc := by
  exact ⟨⟨⟨_, _, fun_mk (st := s__wall) l0 c0 k0, PySem.W.mg_of X G a0, fun us hl => match us, hl with | [_], _ => rfl⟩⟩,
    ⟨⟨_, _, fun_mk (st := s_split) l1 c1 k1, PySem.W.mg_of X G a1, fun us hl => match us, hl with | [_], _ => rfl⟩⟩,
    ⟨⟨_, _, fun_mk (st := s_none_seal) l2 c2 k2, PySem.W.mg_of X G a2, fun us hl => match us, hl with | [_], _ => rfl⟩⟩,
    ⟨⟨_, _, fun_mk (st := s_leaf_seal) l3 c3 k3, PySem.W.mg_of X G a3, fun us hl => match us, hl with | [_, _, _], _ => rfl⟩⟩,
    ⟨⟨_, _, fun_mk (st := s_pair_seal) l4 c4 k4, PySem.W.mg_of X G a4, fun us hl => match us, hl with | [_, _, _], _ => rfl⟩⟩,
    ⟨⟨_, _, fun_mk (st := s_book_seal) l5 c5 k5, PySem.W.mg_of X G a5, fun us hl => match us, hl with | [_, _, _], _ => rfl⟩⟩,
    ⟨⟨_, _, fun_mk (st := s_top_of) l6 c6 k6, PySem.W.mg_of X G a6, fun us hl => match us, hl with | [_, _], _ => rfl⟩⟩,
    ⟨⟨_, _, fun_mk (st := s_path_of) l7 c7 k7, PySem.W.mg_of X G a7, fun us hl => match us, hl with | [_, _, _], _ => rfl⟩⟩,
    ⟨⟨_, _, fun_mk (st := s_growth_of) l8 c8 k8, PySem.W.mg_of X G a8, fun us hl => match us, hl with | [_, _, _], _ => rfl⟩⟩,
    ⟨⟨_, _, fun_mk (st := s_last_of) l9 c9 k9, PySem.W.mg_of X G a9, fun us hl => match us, hl with | [_], _ => rfl⟩⟩,
    ⟨⟨_, _, fun_mk (st := s_risen) l10 c10 k10, PySem.W.mg_of X G a10, fun us hl => match us, hl with | [_, _, _, _, _], _ => rfl⟩⟩,
    ⟨⟨_, _, fun_mk (st := s_regrown) l11 c11 k11, PySem.W.mg_of X G a11, fun us hl => match us, hl with | [_, _, _, _], _ => rfl⟩⟩,
    ⟨⟨_, _, fun_mk (st := s_parted) l12 c12 k12, PySem.W.mg_of X G a12, fun us hl => match us, hl with | [_, _], _ => rfl⟩⟩,
    ⟨⟨_, _, fun_mk (st := s_part_top) l13 c13 k13, PySem.W.mg_of X G a13, fun us hl => match us, hl with | [_, _, _], _ => rfl⟩⟩,
    ⟨⟨_, _, fun_mk (st := s_table_seal) l14 c14 k14, PySem.W.mg_of X G a14, fun us hl => match us, hl with | [_, _, _], _ => rfl⟩⟩,
    ⟨⟨_, _, fun_mk (st := s_climbed) l15 c15 k15, PySem.W.mg_of X G a15, fun us hl => match us, hl with | [_, _, _, _], _ => rfl⟩⟩,
    ⟨⟨_, _, fun_mk (st := s_key_of) l16 c16 k16, PySem.W.mg_of X G a16, fun us hl => match us, hl with | [_, _], _ => rfl⟩⟩,
    ⟨⟨_, _, fun_mk (st := s_read_row) l17 c17 k17, PySem.W.mg_of X G a17, fun us hl => match us, hl with | [_, _], _ => rfl⟩⟩,
    ⟨⟨_, _, fun_mk (st := s_placed) l18 c18 k18, PySem.W.mg_of X G a18, fun us hl => match us, hl with | [_, _, _], _ => rfl⟩⟩,
    ⟨⟨_, _, fun_mk (st := s_changed) l19 c19 k19, PySem.W.mg_of X G a19, fun us hl => match us, hl with | [_, _, _], _ => rfl⟩⟩,
    ⟨⟨_, _, fun_mk (st := s__law_cell_at) l20 c20 k20, PySem.W.mg_of X G a20, fun us hl => match us, hl with | [_, _], _ => rfl⟩⟩,
    ⟨⟨_, _, _, _, _, _, _, _, _, l21, c21, k21, PySem.W.mg_of X G a21⟩⟩,
    ⟨⟨_, _, fun_mk (st := s__law_seal) l22 c22 k22, PySem.W.mg_of X G a22, fun us hl => match us, hl with | [_, _, _], _ => rfl⟩⟩,
    ⟨⟨_, _, fun_mk (st := s__law_top) l23 c23 k23, PySem.W.mg_of X G a23, fun us hl => match us, hl with | [_, _], _ => rfl⟩⟩,
    ⟨⟨_, _, fun_mk (st := s__law_path) l24 c24 k24, PySem.W.mg_of X G a24, fun us hl => match us, hl with | [_, _, _], _ => rfl⟩⟩,
    ⟨⟨_, _, fun_mk (st := s__law_growth) l25 c25 k25, PySem.W.mg_of X G a25, fun us hl => match us, hl with | [_, _, _], _ => rfl⟩⟩,
    ⟨⟨_, _, fun_mk (st := s__law_stretches_right) l26 c26 k26, PySem.W.mg_of X G a26, fun us hl => match us, hl with | [_, _, _], _ => rfl⟩⟩,
    ⟨⟨_, _, fun_mk (st := s__law_keeper_right) l27 c27 k27, PySem.W.mg_of X G a27, fun us hl => match us, hl with | [_, _], _ => rfl⟩⟩,
    ⟨⟨_, _, fun_mk (st := s__law_table_right) l28 c28 k28, PySem.W.mg_of X G a28, fun us hl => match us, hl with | [_, _], _ => rfl⟩⟩,
    ⟨⟨_, _, fun_mk (st := s__law_forms_right) l29 c29 k29, PySem.W.mg_of X G a29, fun us hl => match us, hl with | [_], _ => rfl⟩⟩,
    ⟨⟨_, _, fun_mk (st := s__law_paths_right) l30 c30 k30, PySem.W.mg_of X G a30, fun us hl => match us, hl with | [_, _, _, _], _ => rfl⟩⟩,
    ⟨⟨_, _, fun_mk (st := s_law) l31 c31 k31, PySem.W.mg_of X G a31, fun us hl => match us, hl with | [_], _ => rfl⟩⟩,
    ⟨C_BookError, PySem.W.mg_of X G g_BookError⟩,
    ⟨C_Claim, PySem.W.mg_of X G g_Claim⟩,
    ⟨⟨C_BadPaper, PySem.W.mg_of X G g_BadPaper, xP_BadPaper, kP_BadPaper, bP_BadPaper, tP_BadPaper, ⟨hg_BadPaper, hk_BadPaper, bP_BadPaper, hd_BadPaper, ha_BadPaper, hn_BadPaper, ht_BadPaper, hm_BadPaper⟩, ex_BadPaper⟩⟩,
    ⟨⟨C_NoPlace, PySem.W.mg_of X G g_NoPlace, xP_NoPlace, kP_NoPlace, bP_NoPlace, tP_NoPlace, ⟨hg_NoPlace, hk_NoPlace, bP_NoPlace, hd_NoPlace, ha_NoPlace, hn_NoPlace, ht_NoPlace, hm_NoPlace⟩, ex_NoPlace⟩⟩,
    ⟨C_BadRow, C_BookError, ⟨PySem.W.mg_of X G g_BadRow, ⟨⟨_, _, _, _, _, _, _, _, _, _, _, _, _, _, _, xL_BadRow, rfl⟩, sa_BadRow, eC_BadRow, tC_BadRow, kC_BadRow⟩, ⟨ga_BadRow, gg_BadRow, eC_BadRow, hC_BadRow⟩, nf_BadRow, ⟨_, _, fun_mk (st := s_BadRow___init__) li_BadRow ci_BadRow ki_BadRow, fi_BadRow, ti_BadRow, fun us hl => match us, hl with | [_, _], _ => rfl⟩, ⟨ga_BadRow, gg_BadRow, eC_BadRow, hC_BadRow, iac_BadRow, xn_BadRow, xt_BadRow, xm_BadRow⟩, xe_BadRow, PySem.W.mg_of X G g_BookError, bg_BadRow, br_BadRow, bf_BadRow⟩⟩,
    ⟨C_Behind, ⟨PySem.W.mg_of X G g_Behind, _, _, ⟨rdMBehind, gaMBehind⟩, fcMBehind, fun_mk (st := s_Behind___init__) lMBehind cMBehind kMBehind, kMBehind, fun us hl => match us, hl with | [_, _, _, _], _ => rfl⟩⟩,
    ⟨C_Table, ⟨PySem.W.mg_of X G g_Table,
      ⟨pg_Table, hd_Table, po_Table, sa_Table⟩,
      n_Table_seal,
      n_Table_depth,
      n_Table_held,
      ia_Table,
      in_Table,
      it_Table,
      im_Table,
      ⟨⟨_, _, ⟨⟨_, _, _, _, _, _, _, _, _, _, rfl, lTable0, cTable0, .inr ⟨by simp, dTTable0, _, _, _, rfl, dTable0, rfl, (.cons ⟨_, rfl⟩ .nil)⟩, .inl rfl⟩, kTable0⟩, ⟨mk_Table, aTable0, iTable0, kc_Table⟩⟩⟩,
      ⟨⟨_, _, fun_mk (st := s_Table_asked) lTable1 cTable1 kTable1, ⟨aTable1, iTable1, kTable1⟩, fun us hl => match us, hl with | [_, _], _ => rfl⟩⟩,
      ⟨⟨_, _, fun_mk (st := s_Table_put) lTable2 cTable2 kTable2, ⟨aTable2, iTable2, kTable2⟩, fun us hl => match us, hl with | [_, _, _], _ => rfl⟩⟩,
      ⟨⟨_, _, fun_mk (st := s_Table_cut) lTable3 cTable3 kTable3, ⟨aTable3, iTable3, kTable3⟩, fun us hl => match us, hl with | [_, _], _ => rfl⟩⟩,
      ⟨⟨_, _, fun_mk (st := s_Table_value) lTable4 cTable4 kTable4, ⟨aTable4, iTable4, kTable4⟩, fun us hl => match us, hl with | [_, _], _ => rfl⟩⟩,
      ⟨⟨_, _, fun_mk (st := s_Table_rows) lTable5 cTable5 kTable5, ⟨aTable5, iTable5, kTable5⟩, fun us hl => match us, hl with | [_], _ => rfl⟩⟩,
      ⟨⟨_, _, fun_mk (st := s_Table_head) lTable6 cTable6 kTable6, ⟨aTable6, iTable6, kTable6⟩, fun us hl => match us, hl with | [_], _ => rfl⟩⟩,
      ⟨⟨_, _, fun_mk (st := s_Table_way) lTable7 cTable7 kTable7, ⟨aTable7, iTable7, kTable7⟩, fun us hl => match us, hl with | [_, _], _ => rfl⟩⟩⟩⟩,
    ⟨C_Keeper, ⟨PySem.W.mg_of X G g_Keeper,
      ⟨pg_Keeper, hd_Keeper, po_Keeper, sa_Keeper⟩,
      n_Keeper_seal,
      n_Keeper_depth,
      n_Keeper_texts,
      n_Keeper_tables,
      n_Keeper_leaves,
      ia_Keeper,
      in_Keeper,
      it_Keeper,
      im_Keeper,
      ⟨⟨_, _, ⟨⟨_, _, _, _, _, _, _, _, _, _, rfl, lKeeper0, cKeeper0, .inr ⟨by simp, dTKeeper0, _, _, _, rfl, dKeeper0, rfl, (.cons ⟨_, rfl⟩ .nil)⟩, .inl rfl⟩, kKeeper0⟩, ⟨mk_Keeper, aKeeper0, iKeeper0, kc_Keeper⟩⟩⟩,
      ⟨⟨_, _, fun_mk (st := s_Keeper_add) lKeeper1 cKeeper1 kKeeper1, ⟨aKeeper1, iKeeper1, kKeeper1⟩, fun us hl => match us, hl with | [_, _], _ => rfl⟩⟩,
      ⟨⟨_, _, fun_mk (st := s_Keeper_size) lKeeper2 cKeeper2 kKeeper2, ⟨aKeeper2, iKeeper2, kKeeper2⟩, fun us hl => match us, hl with | [_], _ => rfl⟩⟩,
      ⟨⟨_, _, fun_mk (st := s_Keeper_first) lKeeper3 cKeeper3 kKeeper3, ⟨aKeeper3, iKeeper3, kKeeper3⟩, fun us hl => match us, hl with | [_, _], _ => rfl⟩⟩,
      ⟨⟨_, _, fun_mk (st := s_Keeper_within) lKeeper4 cKeeper4 kKeeper4, ⟨aKeeper4, iKeeper4, kKeeper4⟩, fun us hl => match us, hl with | [_, _, _], _ => rfl⟩⟩,
      ⟨⟨_, _, fun_mk (st := s_Keeper_text) lKeeper5 cKeeper5 kKeeper5, ⟨aKeeper5, iKeeper5, kKeeper5⟩, fun us hl => match us, hl with | [_, _], _ => rfl⟩⟩,
      ⟨⟨_, _, fun_mk (st := s_Keeper_table_head) lKeeper6 cKeeper6 kKeeper6, ⟨aKeeper6, iKeeper6, kKeeper6⟩, fun us hl => match us, hl with | [_, _], _ => rfl⟩⟩,
      ⟨⟨_, _, ⟨⟨_, _, _, _, _, _, _, _, _, _, rfl, lKeeper7, cKeeper7, .inr ⟨by simp, dTKeeper7, _, _, _, rfl, dKeeper7, rfl, (.cons rfl .nil)⟩, .inl rfl⟩, kKeeper7⟩, ⟨aKeeper7, iKeeper7, kKeeper7⟩⟩⟩,
      ⟨⟨_, _, ⟨⟨_, _, _, _, _, _, _, _, _, _, rfl, lKeeper8, cKeeper8, .inr ⟨by simp, dTKeeper8, _, _, _, rfl, dKeeper8, rfl, (.cons rfl .nil)⟩, .inl rfl⟩, kKeeper8⟩, ⟨aKeeper8, iKeeper8, kKeeper8⟩⟩⟩,
      ⟨⟨_, _, ⟨⟨_, _, _, _, _, _, _, _, _, _, rfl, lKeeper9, cKeeper9, .inr ⟨by simp, dTKeeper9, _, _, _, rfl, dKeeper9, rfl, (.cons rfl .nil)⟩, .inl rfl⟩, kKeeper9⟩, ⟨aKeeper9, iKeeper9, kKeeper9⟩⟩⟩,
      ⟨⟨_, _, fun_mk (st := s_Keeper_way) lKeeper10 cKeeper10 kKeeper10, ⟨aKeeper10, iKeeper10, kKeeper10⟩, fun us hl => match us, hl with | [_, _, _], _ => rfl⟩⟩,
      ⟨⟨_, _, ⟨⟨_, _, _, _, _, _, _, _, _, _, rfl, lKeeper11, cKeeper11, .inr ⟨by simp, dTKeeper11, _, _, _, rfl, dKeeper11, rfl, (.cons rfl .nil)⟩, .inl rfl⟩, kKeeper11⟩, ⟨aKeeper11, iKeeper11, kKeeper11⟩⟩⟩⟩⟩,
    ⟨C_Stands, ⟨PySem.W.mg_of X G g_Stands,
      ⟨pg_Stands, hd_Stands, po_Stands, sa_Stands⟩,
      n_Stands_place,
      n_Stands_words,
      n_Stands_table,
      ia_Stands,
      in_Stands,
      it_Stands,
      im_Stands,
      ⟨⟨_, _, fun_mk (st := s_Stands___init__) lStands0 cStands0 kStands0, ⟨mk_Stands, aStands0, iStands0, kc_Stands⟩, fun us hl => match us, hl with | [_, _, _, _], _ => rfl⟩⟩,
      ⟨⟨_, _, fun_mk (st := s_Stands_shown) lStands1 cStands1 kStands1, ⟨aStands1, iStands1, kStands1⟩, fun us hl => match us, hl with | [_, _, _, _, _], _ => rfl⟩⟩,
      ⟨⟨_, _, fun_mk (st := s_Claim_judged) lStands2 cStands2 kStands2, ⟨aStands2, iStands2, kStands2⟩, fun us hl => match us, hl with | [_, _, _, _, _], _ => rfl⟩⟩⟩⟩,
    ⟨C_Grows, ⟨PySem.W.mg_of X G g_Grows,
      ⟨pg_Grows, hd_Grows, po_Grows, sa_Grows⟩,
      n_Grows_old,
      n_Grows_before,
      ia_Grows,
      in_Grows,
      it_Grows,
      im_Grows,
      ⟨⟨_, _, fun_mk (st := s_Grows___init__) lGrows0 cGrows0 kGrows0, ⟨mk_Grows, aGrows0, iGrows0, kc_Grows⟩, fun us hl => match us, hl with | [_, _, _], _ => rfl⟩⟩,
      ⟨⟨_, _, fun_mk (st := s_Grows_shown) lGrows1 cGrows1 kGrows1, ⟨aGrows1, iGrows1, kGrows1⟩, fun us hl => match us, hl with | [_, _, _, _, _], _ => rfl⟩⟩,
      ⟨⟨_, _, fun_mk (st := s_Claim_judged) lGrows2 cGrows2 kGrows2, ⟨aGrows2, iGrows2, kGrows2⟩, fun us hl => match us, hl with | [_, _, _, _, _], _ => rfl⟩⟩⟩⟩,
    ⟨C_Holds, ⟨PySem.W.mg_of X G g_Holds,
      ⟨pg_Holds, hd_Holds, po_Holds, sa_Holds⟩,
      n_Holds_place,
      n_Holds_key,
      n_Holds_depth,
      n_Holds_said,
      ia_Holds,
      in_Holds,
      it_Holds,
      im_Holds,
      ⟨⟨_, _, fun_mk (st := s_Holds___init__) lHolds0 cHolds0 kHolds0, ⟨mk_Holds, aHolds0, iHolds0, kc_Holds⟩, fun us hl => match us, hl with | [_, _, _, _, _], _ => rfl⟩⟩,
      ⟨⟨_, _, fun_mk (st := s_Holds_ends) lHolds1 cHolds1 kHolds1, ⟨aHolds1, iHolds1, kHolds1⟩, fun us hl => match us, hl with | [_, _], _ => rfl⟩⟩,
      ⟨⟨_, _, fun_mk (st := s_Behind_shown) lHolds2 cHolds2 kHolds2, ⟨aHolds2, iHolds2, kHolds2⟩, fun us hl => match us, hl with | [_, _, _, _, _], _ => rfl⟩⟩,
      ⟨⟨_, _, fun_mk (st := s_Claim_judged) lHolds3 cHolds3 kHolds3, ⟨aHolds3, iHolds3, kHolds3⟩, fun us hl => match us, hl with | [_, _, _, _, _], _ => rfl⟩⟩⟩⟩,
    ⟨C_Lacks, ⟨PySem.W.mg_of X G g_Lacks,
      ⟨pg_Lacks, hd_Lacks, po_Lacks, sa_Lacks⟩,
      n_Lacks_place,
      n_Lacks_key,
      n_Lacks_depth,
      ia_Lacks,
      in_Lacks,
      it_Lacks,
      im_Lacks,
      ⟨⟨_, _, fun_mk (st := s_Lacks_ends) lLacks0 cLacks0 kLacks0, ⟨aLacks0, iLacks0, kLacks0⟩, fun us hl => match us, hl with | [_, _], _ => rfl⟩⟩,
      ⟨⟨_, _, fun_mk (st := s_Behind___init__) lLacks1 cLacks1 kLacks1, ⟨mk_Lacks, aLacks1, iLacks1, kc_Lacks⟩, fun us hl => match us, hl with | [_, _, _, _], _ => rfl⟩⟩,
      ⟨⟨_, _, fun_mk (st := s_Behind_shown) lLacks2 cLacks2 kLacks2, ⟨aLacks2, iLacks2, kLacks2⟩, fun us hl => match us, hl with | [_, _, _, _, _], _ => rfl⟩⟩,
      ⟨⟨_, _, fun_mk (st := s_Claim_judged) lLacks3 cLacks3 kLacks3, ⟨aLacks3, iLacks3, kLacks3⟩, fun us hl => match us, hl with | [_, _, _, _, _], _ => rfl⟩⟩⟩⟩,
    ⟨C_Frontier, ⟨PySem.W.mg_of X G g_Frontier,
      ⟨pg_Frontier, hd_Frontier, po_Frontier, sa_Frontier⟩,
      n_Frontier_seal,
      n_Frontier_many,
      n_Frontier_tops,
      ia_Frontier,
      in_Frontier,
      it_Frontier,
      im_Frontier,
      ⟨⟨_, _, fun_mk (st := s_Frontier___init__) lFrontier0 cFrontier0 kFrontier0, ⟨mk_Frontier, aFrontier0, iFrontier0, kc_Frontier⟩, fun us hl => match us, hl with | [_, _], _ => rfl⟩⟩,
      ⟨⟨_, _, fun_mk (st := s_Frontier_add) lFrontier1 cFrontier1 kFrontier1, ⟨aFrontier1, iFrontier1, kFrontier1⟩, fun us hl => match us, hl with | [_, _], _ => rfl⟩⟩,
      ⟨⟨_, _, fun_mk (st := s_Frontier_size) lFrontier2 cFrontier2 kFrontier2, ⟨aFrontier2, iFrontier2, kFrontier2⟩, fun us hl => match us, hl with | [_], _ => rfl⟩⟩,
      ⟨⟨_, _, fun_mk (st := s_Frontier_kept) lFrontier3 cFrontier3 kFrontier3, ⟨aFrontier3, iFrontier3, kFrontier3⟩, fun us hl => match us, hl with | [_], _ => rfl⟩⟩,
      ⟨⟨_, _, fun_mk (st := s_Frontier_top) lFrontier4 cFrontier4 kFrontier4, ⟨aFrontier4, iFrontier4, kFrontier4⟩, fun us hl => match us, hl with | [_], _ => rfl⟩⟩⟩⟩, ⟨PySem.W.mg_none_of X G z_len, PySem.W.mg_none_of X G z_isinstance, PySem.W.mg_none_of X G z_int, PySem.W.mg_none_of X G z_bool, PySem.W.mg_none_of X G z_list, PySem.W.mg_none_of X G z_dict, PySem.W.mg_none_of X G z_tuple, PySem.W.mg_none_of X G z_range, PySem.W.mg_none_of X G z_str, PySem.W.mg_none_of X G z_sorted, PySem.W.mg_none_of X G z_reversed, PySem.W.mg_none_of X G z_enumerate, PySem.W.mg_none_of X G z_abs, PySem.W.mg_none_of X G z_sum⟩⟩
open SX (S S_len S_inj S_cat)
/-! ### lambdas with parameters: made here, called later -/
section
variable {X : Cx} {pins : List (Addr × Obj)} {σ : L2.St} {H : Hp} {s : Shared}
/-- the object at f is the lambda with the body e -/
def LamO (f : Addr) (F : NdefX.NF) (e : Expr) : HO := .ext fun h => ∃ (od : Option Addr) (sl : Array (Option Value)) (pm ctv : Value), h.get? f = some (⟨.type "function", od, .func (PySem.W.kla_fn F.name F.qual F.params e F.scope F.cl pm (.ref F.c) ctv), sl⟩ : Obj)
theorem lamO_at {P : Program} {w : World} {H : Hp} {h : Heap} {f : Addr} {F : NdefX.NF} {e : Expr} (hok : HOk P w H h) (q : H f = some (LamO f F e)) : ∃ (od : Option Addr) (sl : Array (Option Value)) (pm ctv : Value), h.get? f = some (⟨.type "function", od, .func (PySem.W.kla_fn F.name F.qual F.params e F.scope F.cl pm (.ref F.c) ctv), sl⟩ : Obj) := by
  obtain ⟨z, _, _⟩ := hok f _ q
  exact z
theorem inv_lam {F : NdefX.NF} {e : Expr} {o : Obj} {t' : Nat} {pm ctv : Value} (I : Inv X pins σ H s) (ho : o = { cls := .type "function", data := .func (PySem.W.kla_fn F.name F.qual F.params e F.scope F.cl pm (.ref F.c) ctv) }) :
    Inv X pins σ (upd H s.heap.objs.size (LamO s.heap.objs.size F e)) { s with heap := s.heap.push o, toks := t' } := by
  subst ho
  refine I.laid (a := s.heap.objs.size) (fun b u e => Heap.get?_push_of_some _ e) (Nat.le_refl _) ?_
  have e1 : (s.heap.push ({ cls := .type "function", data := .func (PySem.W.kla_fn F.name F.qual F.params e F.scope F.cl pm (.ref F.c) ctv) } : Obj)).get? s.heap.objs.size = some ({ cls := .type "function", data := .func (PySem.W.kla_fn F.name F.qual F.params e F.scope F.cl pm (.ref F.c) ctv) } : Obj) := Heap.get?_push_size _ rfl
  exact ⟨⟨_, _, pm, ctv, e1⟩, ⟨_, e1⟩, fun h1 h2 ⟨od, sl, p, t, z⟩ st => ⟨od, sl, p, t, st _ z⟩⟩
theorem lam_make3 {T : List (Addr × Str)} {c P : Addr} {params : Arguments} {body : Expr} {scope : Scope} {pos : Pos} {E : Value → Shared → Prop} {Q : Value → Shared → Prop} (I : Inv X pins σ H s) (TB : LamX.TabB X.base X.mg c P) (hcode : X.env.code = .ref c)
    (hm : (P, X.env.qual ++ "<lambda>") ∈ T) (hu : ∀ p ∈ T, p.1 = P → p.2 = X.env.qual ++ "<lambda>") (hT : LamX.Tabs T H) (hdef : defaultsOf params X.env = ([], [])) (hfree : ∀ y ∈ scope.names, y.2 = .free → ∃ c, X.env.cells.lookup y.1 = some c)
    (h : ∀ (f c' : Addr) (H1 : Hp) (s' : Shared), Inv X pins σ H1 s' → LamX.ExtN H H1 → LamX.Tabs T H1 → H f = none → H1 f = some (LamO f ⟨"<lambda>", X.env.qual ++ "<lambda>", params, [], scope, cloFrom X.env.cells scope.names [], c'⟩ body) → H1 c' = some (LamX.CodeO c' (X.env.qual ++ "<lambda>")) → Q (.ref f) s') :
    wpAny (model X.prog X.w) X.A (eval (.Lambda params body scope pos) X.env) Q E s := by
  obtain ⟨ps, hP, ht, ha⟩ := (show LamX.TabS H P (X.env.qual ++ "<lambda>") from hT _ hm)
  refine PySem.W.kla_eval hdef ?_
  have bP : s.heap.BuiltinsAt X.mg P := TB.bm.keeps I.bk
  have hP' : s.heap.get? P = some { cls := .none, data := .fields ps } := I.hok P _ hP
  cases hc : codeAmong pos ps.toList with
  | none =>
    refine PySem.W.kla_makeFunction (mg := X.mg) (c := c) (P := P) (ps := ps) (closure_ok hfree) I.ok.glob (I.mod.glob.keeps I.bk) hcode (TB.code.keeps I.bk) hP' ht hc TB.gP bP fun c' ctv h' tk hx hge hlt hrec htb => ?_
    obtain ⟨c2, oc, vs, t, e2, hoc, hd, hv⟩ := hrec
    cases e2
    have nC : H c' = none := I.hok.fresh hge
    have I1 := LamX.inv_table (t' := tk) (more := #[rawInt pos.line, rawInt pos.col, .ref c']) (h' := h') I hP (fun b o hb e => hx b o hb e) htb hge ⟨oc, vs, t, hoc, hd, hv⟩
    have hE : LamX.ExtN H (upd (upd H P (.tbl (ps ++ #[rawInt pos.line, rawInt pos.col, .ref c']))) c' (LamX.CodeO c' (X.env.qual ++ "<lambda>"))) := fun b o e n => by
      rw [upd_ne (ne_of_none e nC), upd_ne (fun z => n ps (Option.some.inj (e.symm.trans (by rw [z]; exact hP))))]
      exact e
    have eL : (ps ++ #[rawInt pos.line, rawInt pos.col, .ref c']).toList = ps.toList ++ [rawInt pos.line, rawInt pos.col, .ref c'] := by simp
    have T1 : LamX.Tabs T (upd (upd H P (.tbl (ps ++ #[rawInt pos.line, rawInt pos.col, .ref c']))) c' (LamX.CodeO c' (X.env.qual ++ "<lambda>"))) := fun p hp => by
      by_cases hb : p.1 = P
      · rw [hu p hp hb, hb]
        refine ⟨_, by rw [upd_ne (ne_of_none hP nC), upd_same], by rw [eL]; exact PySem.TriplesOk_snoc _ _ _ _ ht, fun p' cv hcv => ?_⟩
        rw [eL] at hcv
        rcases LamX.among_app _ ht hcv with z | z
        · obtain ⟨c0, e1, e2⟩ := ha p' cv z
          exact ⟨c0, e1, hE _ _ e2 LamX.codeO_ne⟩
        · exact ⟨c', z, upd_same⟩
      · obtain ⟨ps', a1, a2, a3⟩ := hT p hp
        refine ⟨ps', by rw [upd_ne (ne_of_none a1 nC), upd_ne hb]; exact a1, a2, fun p' cv hcv => ?_⟩
        obtain ⟨c0, e1, e2⟩ := a3 p' cv hcv
        exact ⟨c0, e1, hE _ _ e2 LamX.codeO_ne⟩
    have nF := I1.hok.fresh (Nat.le_refl _)
    have I2 := inv_lam (F := ⟨"<lambda>", X.env.qual ++ "<lambda>", params, [], scope, cloFrom X.env.cells scope.names [], c'⟩) (e := body) (t' := tk) (pm := (X.mg "__name__").getD .none) (ctv := ctv) I1 rfl
    refine h h'.objs.size c' _ _ I2 (fun b o e n => ?_) (T1.ext fun b o e => ?_) (I.hok.fresh (Nat.le_trans hge (Nat.le_of_lt hlt))) upd_same ?_
    · have e1 := hE b o e n
      exact (upd_ne (ne_of_none e1 nF)).trans e1
    · exact (upd_ne (ne_of_none e nF)).trans e
    · exact (upd_ne (Nat.ne_of_lt hlt)).trans upd_same
  | some cv =>
    obtain ⟨c', e, hco⟩ := ha pos cv hc
    subst e
    refine PySem.W.kla_makeFunctionHit (mg := X.mg) (c := c) (P := P) (ps := ps) (closure_ok hfree) I.ok.glob (I.mod.glob.keeps I.bk) hcode (TB.code.keeps I.bk) hP' ht hc bP fun ctv h' tk hx hsz => ?_
    have I1 : Inv X pins σ H { s with heap := h', toks := tk } := I.kept hx
    have nF : H h'.objs.size = none := I1.hok.fresh (Nat.le_refl _)
    have I2 := inv_lam (F := ⟨"<lambda>", X.env.qual ++ "<lambda>", params, [], scope, cloFrom X.env.cells scope.names [], c'⟩) (e := body) (t' := tk) (pm := (X.mg "__name__").getD .none) (ctv := ctv) I1 rfl
    refine h h'.objs.size c' _ _ I2 (fun b o e n => ?_) (hT.ext fun b o e => ?_) nF upd_same ?_
    · exact (upd_ne (ne_of_none e nF)).trans e
    · exact (upd_ne (ne_of_none e nF)).trans e
    · exact (upd_ne (ne_of_none hco nF)).trans hco
/-- lambda .. -/
def tLamM (T : List (Addr × Str)) (mk : Addr → NdefX.NF) (e : Expr) : TE := fun _ H Q => LamX.Tabs T H ∧ ∀ (f c' : Addr) (H1 : Hp), LamX.ExtN H H1 → LamX.Tabs T H1 → H f = none → H1 f = some (LamO f (mk c') e) → H1 c' = some (LamX.CodeO c' (mk c').qual) → Q (.ref f) H1
theorem pe_lamM {T : List (Addr × Str)} {c P : Addr} {params : Arguments} {body : Expr} {scope : Scope} {pos : Pos} (TB : LamX.TabB X.base X.mg c P) (hcode : X.env.code = .ref c) (hm : (P, X.env.qual ++ "<lambda>") ∈ T) (hu : ∀ p ∈ T, p.1 = P → p.2 = X.env.qual ++ "<lambda>")
    (hdef : defaultsOf params X.env = ([], [])) (hfree : ∀ y ∈ scope.names, y.2 = .free → X.env.scope.names.lookup y.1 = some .cell ∨ X.env.scope.names.lookup y.1 = some .free) :
    PE X (.Lambda params body scope pos) (tLamM T (fun c' => ⟨"<lambda>", X.env.qual ++ "<lambda>", params, [], scope, cloFrom X.env.cells scope.names [], c'⟩) body) := by
  refine ⟨fun pins s σ H Q I h => ?_⟩
  obtain ⟨hT, h⟩ := h
  have hfr : ∀ y ∈ scope.names, y.2 = .free → ∃ c, X.env.cells.lookup y.1 = some c := fun y hy e => (hfree y hy e).elim (fun z => I.ok.has _ (.inl z)) fun z => I.ok.has _ (.inr z)
  exact lam_make3 I TB hcode hm hu hT hdef hfr fun f c' H1 s' I1 eN T1 f0 f1 c1 => ⟨.ref f, H1, I1, rfl, h f c' H1 eN T1 f0 f1 c1⟩
end
/-- the promise of the lambda F at f with the body e: sp ws, ws what its captured cells hold at the call -/
structure LOk (P : Program) (w : World) (K : PySem.W.Frag) (mg : Str → Option Value) (base : Heap) (k : Nat) (f : Addr) (F : NdefX.NF) (e : Expr) (ps fr : List Str) (sp : List (Option V) → Sp) : Prop where
  len : ∀ ws vs H Q E, sp ws vs H Q E → vs.length = ps.length
  run : ∀ (A : Around) (outer : List Env) (s : Shared) (H : Hp) (us : List Value) (vs : List V) (ws : List (Option V)) (Q : VK) (E : XK), Room k A → Env0 P w K mg base A outer s H → H f = some (LamO f F e) → H F.c = some (LamX.CodeO F.c F.qual) →
    NdefX.CellsAt F.cl fr ws s.heap H → Vals vs us → sp ws vs H Q E → codeAny (model P w) A (.call (.ref f) ⟨us, []⟩) (CR L2.CX0 outer P w H s Q E) s
section
variable {P : Program} {w : World} {K : PySem.W.Frag} {mg : Str → Option Value} {base : Heap} {N ps fr : List Str} {F : NdefX.NF} {e : Expr} {f : Addr} {k : Nat} {sp : List (Option V) → Sp}
theorem lok_of (S : NdefX.NScope N ps fr F.scope) (hb : ∀ (pm ctv : Value) (us : List Value), us.length = ps.length → bindArgs (PySem.W.kla_fn F.name F.qual F.params e F.scope F.cl pm (.ref F.c) ctv) ⟨us, []⟩ = pure (ps.zip us)) (len : ∀ ws vs H Q E, sp ws vs H Q E → vs.length = ps.length)
    (hbody : ∀ (A : Around) (outer : List Env) (s : Shared) (H : Hp) (vs : List V) (ws : List (Option V)) (Q : VK) (E : XK), Room k (A.deeper (NdefX.envF F f s.heap.objs.size)) → ws.length = fr.length → sp ws vs H Q E →
      ∃ t, PE (NdefX.ncx L2.CX0 P w K mg base N F f A outer s H E) e t ∧ t (NdefX.startF N vs ws) H Q) :
    LOk P w K mg base (k + 1) f F e ps fr sp := by
  refine ⟨len, fun A outer s H us vs ws Q E hr e0 hf hc C r hsp => ?_⟩
  have hl := len _ _ _ _ _ hsp
  have lim : s.heap.NoLimit := e0.mod.nolimit.keeps fun b o e => (e0.bs b o e).1
  obtain ⟨od, sl, pm, ctv, ho⟩ := lamO_at e0.hok hf
  refine PySem.W.kla_callFunE hr.depth ho rfl S.co S.gen rfl (NdefX.codeO_at e0.hok hc) ?_
  rw [hb pm ctv us (by rw [← r.length]; exact hl)]
  refine wpAny_pure (wpAny_newFunctionEnv S.nocell (fun ⟨n, _⟩ hy => S.par n (List.of_mem_zip hy).1) (fun h₁ hns hsb => ⟨lim.fresh _ hsb, ?_⟩) S.kind)
  show codeAny _ _ (.expr e (NdefX.envF F f s.heap.objs.size)) _ _
  have kp : ∀ b o, s.heap.get? b = some o → h₁.get? b = some o := fun b o e => hsb.extBut b o (Nat.ne_of_lt (Heap.lt_size e)) (Heap.get?_push_of_some _ e)
  obtain ⟨t, ht, hq⟩ := hbody A outer s H vs ws Q E (hr.deeper _) C.len hsp
  have I : Inv (NdefX.ncx L2.CX0 P w K mg base N F f A outer s H E) [] (NdefX.startF N vs ws) H { s with heap := h₁, toks := s.toks + (ps.zip us).length } := NdefX.inv_startN S hr.hd e0 hl r C hns kp
  refine PySem.W.kla_codeExpr (wpAny_mono (ht.run [] _ (NdefX.startF N vs ws) H Q I hq) (fun u s' hs => ?_) fun e s' hs => hs)
  obtain ⟨v, H', J, rv, q⟩ := hs
  exact ⟨v, H', J.os, J.bare, J.base, J.hok, rv, q⟩
end
/-- d.setdefault(y, z), d keyed by tuples -/
def tDSetdT (td ty tx : TE) : TE := fun σ H Q => td σ H fun x H1 => ∃ a, x = .ref a ∧ IsD H1 a ∧ ty σ H1 fun y H2 => tx σ H2 fun z H3 => ∃ (kvs : List (List Key × V)) (k : List Key) (b : Addr), H3 a = some (.dT kvs) ∧ y = .ref b ∧ H3 b = some (.tup (k.map kV)) ∧ kvs.length < sizeLine ∧
  (∀ v, valV kvs k = some v → Q v H3) ∧ (valV kvs k = none → Q z (upd H3 a (.dT (putK kvs k z))))
section
variable {X : Cx} {o e f : Expr} {td ty tx : TE} {apos cpos : Pos}
theorem pe_dsetdT (hu : X.A.units + 1 < cLine) (ho : PE X o td) (he : PE X e ty) (hf : PE X f tx) (m : M2 X o "setdefault" apos e f cpos) : PE X (.Call (.Attribute o "setdefault" apos) [e, f] [] cpos) (tDSetdT td ty tx) := by
  refine ⟨fun pins s σ H Q I h => ?_⟩
  refine wpAny_Call_method m.base m.few m.line PySem.F.plainAttrs_dict PySem.F.slot_dict_setdefault PySem.F.type_dict_setdefault (thn (ho.run pins s σ H _ I h) fun u s1 ⟨x, H1, I1, rx, a, ex, d, q1⟩ => ?_)
  subst ex
  obtain rfl : u = Value.ref a := rx
  obtain ⟨t1, t2, _⟩ := isD_at I1 d
  refine ⟨t1, t2, ?_⟩
  rw [m.trees]
  refine Calls.callWith_builtin rfl (Calls.evalArgs_plain (Calls.spliced_cons (thn (he.run pins s1 σ H1 _ I1 q1) fun iv s2 ⟨y, H2, I2, ry, q2⟩ =>
    Calls.spliced_cons (thn (hf.run pins s2 σ H2 _ I2 q2) fun fv s3 ⟨z, H3, I3, rz, kvs, k, b, ea, ey, eb, hl, q3, q4⟩ => Calls.spliced_nil ?_))))
  subst ey
  obtain rfl : iv = Value.ref b := ry
  obtain ⟨zl, hd, xs, rel, dd⟩ := dt_of I3.hok ea
  have hz : xs.length ≤ sizeLine := by rw [← Paired.length rel]; exact zl
  refine call_setdefault_heap (hsz := hz) (tupleKind_room_in1 hu) (key_of I3.hok eb) hd dd (fun p hp => ?_) (fun hn h' dd' hs => ?_)
  · have r := rel.val k
    rw [hp] at r
    obtain ⟨v0, ev, rv⟩ : ∃ v0, valV kvs k = some v0 ∧ RelV v0 p.2 := by
      cases ev : valV kvs k with
      | none =>
        rw [ev] at r
        exact (show False from r).elim
      | some v0 =>
        rw [ev] at r
        exact ⟨v0, rfl, r⟩
    exact ⟨v0, H3, I3.tok _, rv, q3 v0 ev⟩
  · have r := rel.val k
    rw [hn] at r
    have ev : valV kvs k = none := by
      cases ev : valV kvs k with
      | none => rfl
      | some v0 =>
        rw [ev] at r
        exact (show False from r).elim
    have hl2 : (putK kvs k z).length ≤ sizeLine := by have := length_putK kvs k z; omega
    obtain ⟨q, es, ep, hq, h2, h3, h4, _, h5⟩ := dd'
    refine ⟨z, upd H3 a (.dT (putK kvs k z)), d_write I3 (ob := .dT (putK kvs k z)) (by rw [ea]; exact True.intro) hs ⟨q, hq⟩ ⟨hl2, hd, _, (rel.put k eb rz).keeps fun c ys ec => ?_, q, es, ep, hq, h2, h3, h4, h5⟩, rz, q4 ev⟩
    rw [upd_ne (ne_of ec ea (fun z => nomatch z))]
    exact ec
end

/-! ### seals that make a tuple of their three things; None may be told, too -/
/-- the term of None: a text that no value is -/
def badX : Str := ⟨#[0x110000]⟩
theorem badX_no : txtOk badX = false := by decide +kernel
inductive DenP (tf : Str → V → V → List V) (H : Hp) : V → Tm → Prop
  | int (i : Int) : DenP tf H (.int i) (.int i)
  | str (x : Str) (h : txtOk x = true) : DenP tf H (.str x) (.str x)
  | non : DenP tf H .non (.str badX)
  | sl {p : Addr} {m : Str} {va vb : V} {a b : Tm} (hm : txtOk m = true) (h : H p = some (.tup (tf m va vb))) (ha : DenP tf H va a) (hb : DenP tf H vb b) : DenP tf H (.ref p) (.sl m a b)
theorem DenP.mono {tf : Str → V → V → List V} {H H' : Hp} (e : Gr H H') {v : V} {t : Tm} (h : DenP tf H v t) : DenP tf H' v t := by
  induction h with
  | int i => exact .int i
  | str x h => exact .str x h
  | non => exact .non
  | sl hm h _ _ iha ihb => exact .sl hm (e.keep _ _ h True.intro fun _ z => nomatch z) iha ihb
def tfP (m : Str) (a b : V) : List V := [.str m, a, b]
def datP : Tm → PyData
  | .int i => .int i
  | .str x => if txtOk x = true then .str x else .none
  | .sl m a b => .tuple [.str m, datP a, datP b]
theorem DenP.dp {K : PySem.W.Frag} {H : Hp} {v : V} {t : Tm} (h : DenP tfP H v t) : Dp K H v (datP t) ∧ (datP t).canLay0 = true ∧ (datP t).depth ≤ t.dep := by
  induction h with
  | int i => exact ⟨.int i, rfl, Nat.le_refl _⟩
  | str x h =>
    have e : datP (.str x) = .str x := if_pos h
    rw [e]
    exact ⟨.str x, h, Nat.le_refl _⟩
  | non =>
    have e : datP (.str badX) = .none := if_neg (by rw [badX_no]; decide)
    rw [e]
    exact ⟨.non, rfl, Nat.le_refl _⟩
  | @sl p m va vb a b hm h _ _ iha ihb =>
    obtain ⟨a1, a2, a3⟩ := iha
    obtain ⟨b1, b2, b3⟩ := ihb
    refine ⟨.tup (SqT.of h) (.cons (.str m) (.cons a1 (.cons b1 .nil))), ?_, ?_⟩
    · show (PySem.PyData.strOk m && ((datP a).canLay0 && ((datP b).canLay0 && true))) = true
      rw [show PySem.PyData.strOk m = true from hm, a2, b2]
      rfl
    · show max 0 (max (datP a).depth (max (datP b).depth 0)) + 1 ≤ max a.dep b.dep + 1
      omega
/-- terms of which None alone is no text -/
def GT : Tm → Prop
  | .int _ => True
  | .str x => txtOk x = true ∨ x = badX
  | .sl m a b => GT a ∧ GT b
theorem DenP.gt {tf : Str → V → V → List V} {H : Hp} {v : V} {t : Tm} (h : DenP tf H v t) : GT t := by
  induction h with
  | int i => exact True.intro
  | str x h => exact .inl h
  | non => exact .inr rfl
  | sl _ _ _ _ iha ihb => exact ⟨iha, ihb⟩
def plainSys (tf : Str → V → V → List V) (f : Addr) : Sys := ⟨f, fun H v t => DenP tf H v t, fun _ _ => True⟩
theorem goodP {K : PySem.W.Frag} (f : Addr) : (plainSys tfP f).Good K :=
  ⟨fun e h => h.mono e, fun _ _ => trivial, fun _ _ => trivial, fun i _ => .int i, fun x _ h => .str x h, fun h h' => ⟨_, DenP.dp h |>.1, DenP.dp h' |>.1, (DenP.dp (K := K) h).2.1, (DenP.dp (K := K) h).2.2⟩⟩
section
variable {P : Program} {w : World} {K : PySem.W.Frag} {mg : Str → Option Value} {base : Heap}
theorem fnAt_fun {x qual : Str} {st : Stmt} {f : Addr} {fd : FuncData} (F : L2.Fun K x qual st f fd) {h : Heap} (X : K.In h) : PySem.W.FnAt f h := by
  obtain ⟨oc, od, kV, doc, pm, an, cdv, ct, osl, rfl, lk, _⟩ := F.ex
  exact ⟨_, _, _, _, X _ _ lk⟩
def spTup (tf : Str → V → V → List V) : Sp := fun vs H Q _ => ∃ m a b, vs = [.str m, a, b] ∧ ∀ p, H p = none → Q (.ref p) (upd H p (.tup (tf m a b)))
theorem held_plain {tf : Str → V → V → List V} {x : Str} {st : Stmt} {ps : List Str} {f : Addr} {fd : FuncData} (F : L2.Fun K x x st f fd) (b : ∀ us : List Value, us.length = ps.length → bindArgs fd ⟨us, []⟩ = pure (ps.zip us)) (G : FnOk P w K mg base L2.CX0 1 f fd ps (spTup tf)) :
    HeldSl P w K mg base 1 (plainSys tf f) := by
  refine ⟨fun H h r X _ _ => fnAt_fun F X, fun A outer s H us vs Q E hr e0 rv h => ?_⟩
  obtain ⟨r, m, a, b', va, vb, rfl, hm, _, ha, hb, q⟩ := h
  have hsp : spTup tf [.str m, va, vb] H Q E := ⟨m, va, vb, rfl, fun p hp => q _ _ (Ext.new hp) True.intro (.sl hm upd_same (ha.mono (Kp.new hp).gr) (hb.mono (Kp.new hp).gr))⟩
  have hl : us.length = ps.length := by rw [← rv.length]; exact G.len _ _ _ _ hsp
  exact G.run A outer s H ⟨us, []⟩ us _ Q E hr e0 (.of_eq (b us hl)) rv hsp

/-! ### a seal that numbers its threes -/
def tab (ks : List (List Key)) : List (List Key × V) := ks.zipIdx.map fun p => (p.1, V.int ((1000 + p.2 : Nat) : Int))
theorem tab_snoc (ks : List (List Key)) (k : List Key) : tab (ks ++ [k]) = tab ks ++ [(k, V.int ((1000 + ks.length : Nat) : Int))] := by
  unfold tab
  rw [List.zipIdx_append, List.map_append]
  simp
theorem tab_len (ks : List (List Key)) : (tab ks).length = ks.length := by
  unfold tab
  rw [List.length_map, List.length_zipIdx]
theorem valV_app {κ : Type} [DecidableEq κ] (k : κ) : ∀ (l r : List (κ × V)) {v : V}, valV l k = some v → valV (l ++ r) k = some v
  | [], _, _, h => by cases h
  | p :: l, r, v, h => by
    by_cases e : p.1 = k
    · rw [valV_pos e] at h
      rw [List.cons_append, valV_pos e]
      exact h
    · rw [valV_neg e] at h
      rw [List.cons_append, valV_neg e]
      exact valV_app k l r h
theorem tab_at {ks : List (List Key)} {k : List Key} {v : V} (h : valV (tab ks) k = some v) : ∃ n : Nat, v = .int ((1000 + n : Nat) : Int) ∧ ks[n]? = some k := by
  unfold valV at h
  obtain ⟨p, hp, rfl⟩ := Option.map_eq_some_iff.mp h
  have h1 := List.mem_of_find?_eq_some hp
  have h2 : decide (p.1 = k) = true := List.find?_some (p := fun kv : List Key × V => decide (kv.1 = k)) hp
  obtain ⟨q, hq, rfl⟩ := List.mem_map.mp h1
  refine ⟨q.2, rfl, ?_⟩
  have h3 : q.1 = k := of_decide_eq_true h2
  have h4 := List.mk_mem_zipIdx_iff_getElem?.mp (show (q.1, q.2) ∈ ks.zipIdx from hq)
  rw [h4, h3]
inductive DenN (kvs : List (List Key × V)) : Key → Tm → Prop
  | int (i : Int) : DenN kvs (.inl i) (.int i)
  | str (x : Str) (h : txtOk x = true) : DenN kvs (.inr x) (.str x)
  | sl {m : Str} {ka kb : Key} {a b : Tm} {n : Int} (ha : DenN kvs ka a) (hb : DenN kvs kb b) (h : valV kvs [.inr m, ka, kb] = some (.int n)) : DenN kvs (.inl n) (.sl m a b)
theorem DenN.app {kvs more : List (List Key × V)} {k : Key} {t : Tm} (h : DenN kvs k t) : DenN (kvs ++ more) k t := by
  induction h with
  | int i => exact .int i
  | str x h => exact .str x h
  | sl _ _ h iha ihb => exact .sl iha ihb (valV_app _ _ _ h)
theorem DenN.fn {kvs : List (List Key × V)} {k : Key} {t : Tm} (h : DenN kvs k t) : ∀ {k'}, DenN kvs k' t → k = k' := by
  induction h with
  | int i => intro k' h'; cases h'; rfl
  | str x h => intro k' h'; cases h'; rfl
  | sl _ _ h iha ihb =>
    intro k' h'
    cases h' with
    | sl ha' hb' h' =>
      rw [← iha ha', ← ihb hb', h] at h'
      cases h'
      rfl
theorem DenN.lay {kvs : List (List Key × V)} {k : Key} {t : Tm} (h : DenN kvs k t) (K : PySem.W.Frag) (H : Hp) : ∃ d, Dp K H (kV k) d ∧ d.canLay0 = true ∧ d.depth = 0 := by
  cases h with
  | int i => exact ⟨.int i, .int i, rfl, rfl⟩
  | str x h => exact ⟨.str x, .str x, h, rfl⟩
  | sl _ _ _ => exact ⟨.int _, .int _, rfl, rfl⟩
/-- the cell at c holds the dict at d -/
def CellO (c d : Addr) : HO := .ext fun h => h.IsCell c (some (.ref d))
theorem cellO_at {H : Hp} {h : Heap} {c d : Addr} (hok : HOk P w H h) (e : H c = some (CellO c d)) : h.IsCell c (some (.ref d)) := (hok c _ e).1
theorem cellO_ok {H : Hp} {h : Heap} {c d : Addr} (e : h.IsCell c (some (.ref d))) : ObjOk P w H h c (CellO c d) := by
  obtain ⟨o, ho, hd⟩ := id e
  exact ⟨e, ⟨o, ho⟩, fun h1 h2 ⟨o', ho', hd'⟩ st => ⟨o', st _ ho', hd'⟩⟩
structure NumD where
  f : Addr
  q : Str
  c : Addr
  c0 : Addr
  d : Addr
abbrev lamX : Expr := match (defBody s__law_numbers).getD 1 (.Pass ⟨0, 0, 0, 0⟩) with | .Return (some e) _ => e | _ => .Name "" ⟨0, 0, 0, 0⟩
abbrev lamP : Arguments := match lamX with | .Lambda p _ _ _ => p | _ => defArgs s__law_numbers
abbrev lamB : Expr := match lamX with | .Lambda _ b _ _ => b | e => e
abbrev lamS : Scope := match lamX with | .Lambda _ _ sc _ => sc | _ => defScope s__law_numbers
abbrev lamN : List Str := ["_law_mark", "_law_one", "_law_two", "_law_known"]
abbrev lamA : List Str := ["_law_mark", "_law_one", "_law_two"]
abbrev NumD.F (N : NumD) : NdefX.NF := ⟨"<lambda>", N.q, lamP, [], lamS, [("_law_known", N.c0)], N.c⟩
structure NumOk (N : NumD) (H : Hp) (r : Nat) : Prop where
  dict : ∃ ks, H N.d = some (.dT (tab ks)) ∧ ks.length + r ≤ sizeLine
  fn : H N.f = some (LamO N.f N.F lamB)
  code : H N.c = some (LamX.CodeO N.c N.q)
  cell : H N.c0 = some (CellO N.c0 N.d)
def numSys (N : NumD) : Sys := ⟨N.f, fun H v t => ∃ kvs k, H N.d = some (.dT kvs) ∧ DenN kvs k t ∧ v = kV k, fun H r => NumOk N H r⟩
theorem goodN (N : NumD) : (numSys N).Good K := by
  refine ⟨?_, ?_, ?_, ?_, ?_, ?_⟩
  · rintro H H' v t e ⟨kvs, k, hd, hk, rfl⟩
    obtain ⟨more, e1⟩ := e.grow _ _ hd
    exact ⟨_, k, e1, hk.app, rfl⟩
  · rintro H H' r e ⟨⟨ks, h1, h2⟩, h3, h4, h5⟩
    exact ⟨⟨ks, e _ _ h1 True.intro, h2⟩, e _ _ h3 True.intro, e _ _ h4 True.intro, e _ _ h5 True.intro⟩
  · rintro H r r' ⟨⟨ks, h1, h2⟩, h3, h4, h5⟩ hr
    exact ⟨⟨ks, h1, by omega⟩, h3, h4, h5⟩
  · rintro H r i ⟨⟨ks, h1, h2⟩, _⟩
    exact ⟨_, .inl i, h1, .int i, rfl⟩
  · rintro H r x ⟨⟨ks, h1, h2⟩, _⟩ hx
    exact ⟨_, .inr x, h1, .str x hx, rfl⟩
  · rintro H v v' t ⟨kvs, k, h1, h2, rfl⟩ ⟨kvs', k', h1', h2', rfl⟩
    rw [h1] at h1'
    cases h1'
    have e := h2.fn h2'
    subst e
    obtain ⟨d, a, b, c⟩ := h2.lay K H
    exact ⟨d, a, a, b, by omega⟩
/-- its own promise: ws, what its cell holds -/
def spNumd (ws : List (Option V)) : Sp := fun vs H Q _ => ∃ (d : Addr) (ks : List (List Key)) (m : Str) (ka kb : Key), ws = [some (.ref d)] ∧ vs = [.str m, kV ka, kV kb] ∧ H d = some (.dT (tab ks)) ∧ ks.length < sizeLine ∧
  ∀ (n : Int) (H' : Hp) (more : List (List Key)), Ext H H' → H' d = some (.dT (tab (ks ++ more))) → more.length ≤ 1 → valV (tab (ks ++ more)) [.inr m, ka, kb] = some (.int n) → Q (.int n) H'
theorem scL : NdefX.NScope lamN lamA ["_law_known"] lamS := NdefX.nscope_by (by decide +kernel)
theorem lok_num (mlen : mg "len" = none) (N : NumD) : LOk P w K mg base 1 N.f N.F lamB lamA ["_law_known"] spNumd := by
  refine lok_of (N := lamN) scL (fun _ _ us hl => match us, hl with | [_, _, _], _ => rfl) (fun ws vs H Q E h => ?_) (fun A outer s H vs ws Q E hr hw h => ?_)
  · obtain ⟨d, ks, m, ka, kb, _, rfl, _⟩ := h
    rfl
  obtain ⟨d, ks, m, ka, kb, rfl, rfl, hd, hl, q⟩ := h
  have hu : (NdefX.ncx L2.CX0 P w K mg base lamN N.F N.f A outer s H E).A.units + 1 < cLine := hu_of hr
  refine ⟨_, pe_dsetdT hu (pv 3) (pe_tup (pa_cons (pv 0) (pa_cons (pv 1) (pa_cons (pv 2) pa_nil)))) (pe_op op_add pe_int (pe_callB call_len_dT rfl mlen PySem.boot_len (pa_cons (pv 3) pa_nil))) ⟨rfl, rfl, rfl, rfl⟩, ?_⟩
  have hp0 : ∀ p : Addr, H p = none → d ≠ p := fun p hp => ne_of_none hd hp
  refine ⟨_, rfl, d, rfl, .inr ⟨_, .inl hd⟩, _, rfl, _, rfl, _, rfl, (by show 3 ≤ sizeLine; decide), fun p hp => ?_⟩
  have d1 : upd H p (.tup [.str m, kV ka, kV kb]) d = some (.dT (tab ks)) := by
    rw [upd_ne (hp0 p hp)]
    exact hd
  refine ⟨_, rfl, d, _, rfl, d1, _, _, rfl, rfl, tab ks, [.inr m, ka, kb], p, d1, rfl, upd_same, by rw [tab_len]; exact hl, fun v hv => ?_, fun hv => ?_⟩
  · obtain ⟨n, rfl, _⟩ := tab_at hv
    exact q _ _ [] (Ext.new hp) (by rw [List.append_nil]; exact d1) (Nat.zero_le _) (by rw [List.append_nil]; exact hv)
  · rw [tab_len]
    show Q (V.int (1000 + (ks.length : Int))) (upd (upd H p (.tup [.str m, kV ka, kV kb])) d (.dT (putK (tab ks) [.inr m, ka, kb] (V.int (1000 + (ks.length : Int))))))
    rw [show (1000 : Int) + (ks.length : Int) = ((1000 + ks.length : Nat) : Int) by omega, putK_new _ hv, ← tab_snoc]
    have x2 : Ext H (upd H p (.tup [.str m, kV ka, kV kb])) := Ext.new hp
    have x3 : Ext H (upd (upd H p (.tup [.str m, kV ka, kV kb])) d (.dT (tab (ks ++ [[.inr m, ka, kb]])))) := by
      refine ⟨fun a o ha hn => ?_, fun a kvs ha => ?_⟩
      · rw [upd_ne (show a ≠ d from fun z => by rw [z, hd] at ha; exact hn _ (Option.some.inj ha).symm)]
        exact x2.keep a o ha hn
      · by_cases e : a = d
        · subst e
          rw [hd] at ha
          cases ha
          exact ⟨[(_, _)], by rw [upd_same, tab_snoc]⟩
        · rw [upd_ne e]
          exact x2.grow a kvs ha
    have hv3 : valV (tab (ks ++ [[.inr m, ka, kb]])) [.inr m, ka, kb] = some (.int ((1000 + ks.length : Nat) : Int)) := by
      rw [tab_snoc, valV_snoc _ _ _ _ hv, if_pos rfl]
    exact q _ _ _ x3 upd_same (Nat.le_refl _) hv3
/-- its cell set aside for the call -/
def er (H : Hp) (c : Addr) : Hp := fun b => if b = c then none else H b
theorem er_ne {H : Hp} {c b : Addr} (h : b ≠ c) : er H c b = H b := if_neg h
theorem er_same {H : Hp} {c : Addr} : er H c c = none := if_pos rfl
theorem er_some {H : Hp} {c b : Addr} {o : HO} (h : er H c b = some o) : b ≠ c ∧ H b = some o := by
  by_cases e : b = c
  · rw [e, er_same] at h
    cases h
  · rw [er_ne e] at h
    exact ⟨e, h⟩
theorem cell_ne_own {H : Hp} {c d a b : Addr} (e : H c = some (CellO c d)) (h : H b = some (.own a)) : b ≠ c := fun z => by
  rw [z, e] at h
  have h : HO.ext _ = HO.own a := Option.some.inj h
  cases h
theorem cell_ne_tup {H : Hp} {c d b : Addr} {xs : List V} (e : H c = some (CellO c d)) (h : H b = some (.tup xs)) : b ≠ c := fun z => by
  rw [z, e] at h
  have h : HO.ext _ = HO.tup xs := Option.some.inj h
  cases h
theorem er_hok {H : Hp} {h : Heap} {c d : Addr} (e : H c = some (CellO c d)) (ok : HOk P w H h) : HOk P w (er H c) h := fun a o ha => by
  obtain ⟨n, ha'⟩ := er_some ha
  exact (ok a o ha').stay (fun _ _ _ q => q) (fun b hb => by rw [er_ne (cell_ne_own e hb)]; exact hb) fun b xs hb => by rw [er_ne (cell_ne_tup e hb)]; exact hb
theorem held_num (mlen : mg "len" = none) (N : NumD) : HeldSl P w K mg base 1 (numSys N) := by
  refine ⟨fun H h r X ok h1 => ?_, fun A outer s H us vs Q E hr e0 rv h => ?_⟩
  · obtain ⟨od, sl, pm, ctv, e⟩ := lamO_at ok h1.fn
    exact ⟨_, _, _, _, e⟩
  obtain ⟨r, m, a, b, va, vb, rfl, hm, ok, ha, hb, q⟩ := h
  obtain ⟨⟨ks, hd, hl⟩, hf, hc, hcell⟩ := id ok
  obtain ⟨kvs, ka, hd1, hka, rfl⟩ := ha
  obtain ⟨kvs', kb, hd2, hkb, rfl⟩ := hb
  rw [hd] at hd1 hd2
  cases hd1
  cases hd2
  have isC := cellO_at e0.hok hcell
  have nf : N.f ≠ N.c0 := fun z => by
    obtain ⟨od, sl, pm, ctv, e⟩ := lamO_at e0.hok hf
    obtain ⟨o, e', d'⟩ := id isC
    rw [z, e'] at e
    cases e
    cases d'
  have nc : N.c ≠ N.c0 := fun z => by
    obtain ⟨c, oc, us, t, e1, e2, e3, e4⟩ := NdefX.codeO_at e0.hok hc
    cases e1
    obtain ⟨o, e', d'⟩ := id isC
    rw [z, e'] at e2
    cases e2
    rw [d'] at e3
    cases e3
  have nd : N.d ≠ N.c0 := fun z => by
    rw [z, hcell] at hd
    have hd : HO.ext _ = HO.dT _ := Option.some.inj hd
    cases hd
  have e1 : Env0 P w K mg base A outer s (er H N.c0) := by
    refine ⟨e0.frames, e0.mod, fun b o hb => ⟨(e0.bs b o hb).1, ?_⟩, e0.bsz, e0.funs, fun b hb => ?_, er_hok hcell e0.hok, e0.bare⟩
    · by_cases z : b = N.c0
      · rw [z, er_same]
      · rw [er_ne z]
        exact (e0.bs b o hb).2
    · by_cases z : b = N.c0
      · rw [z, er_same]
      · rw [er_ne z]
        exact e0.frf b hb
  have lk : ∀ {y : Str} {c : Addr}, List.lookup y N.F.cl = some c → y = "_law_known" ∧ c = N.c0 := fun {y c} h => by
    have h : List.lookup y [(("_law_known" : Str), N.c0)] = some c := h
    by_cases z : y = "_law_known"
    · subst z
      simp at h
      exact ⟨rfl, h.symm⟩
    · have z' : (y == ("_law_known" : Str)) = false := beq_eq_false_iff_ne.mpr z
      unfold List.lookup at h
      rw [z'] at h
      cases h
  have CA : NdefX.CellsAt N.F.cl ["_law_known"] [some (.ref N.d)] s.heap (er H N.c0) := by
    refine ⟨rfl, fun y c h => ?_, fun x y c h1 h2 => (lk h1).1.trans (lk h2).1.symm, fun i y h => ?_⟩
    · rw [(lk h).2]
      exact ⟨er_same, _, isC⟩
    · cases i with
      | zero =>
        cases h
        refine ⟨N.c0, by simp [List.lookup], fun v hv => ?_⟩
        cases hv
        exact ⟨_, rfl, isC⟩
      | succ i => simp at h
  have nfr : N.c0 ∉ frs outer := fun z => by
    have := e0.frf _ z
    rw [hcell] at this
    cases this
  refine codeAny_mono ((lok_num mlen N).run A outer s (er H N.c0) us _ [some (.ref N.d)] (fun v H' => Q v (upd H' N.c0 (CellO N.c0 N.d))) E hr e1 (by rw [er_ne nf]; exact hf) (by rw [show N.F.c = N.c from rfl, er_ne nc]; exact hc) CA rv
    ⟨N.d, ks, m, ka, kb, rfl, rfl, by rw [er_ne nd]; exact hd, by omega, fun n H' more x hd' hmore hv => ?_⟩) fun res s' hq => ?_
  · have kp : ∀ b o, H b = some o → b ≠ N.c0 → (∀ kvs, o ≠ .dT kvs) → H' b = some o := fun b o hb hn hn2 => x.keep b o (by rw [er_ne hn]; exact hb) hn2
    refine q _ _ ⟨fun b o hb hn => ?_, fun b kvs hb => ?_⟩ ⟨⟨ks ++ more, ?_, ?_⟩, ?_, ?_, upd_same⟩ ⟨_, .inl n, by rw [upd_ne nd]; exact hd', ?_, rfl⟩
    · by_cases z : b = N.c0
      · rw [z, upd_same]
        rw [z, hcell] at hb
        exact hb
      · rw [upd_ne z]
        exact kp b o hb z hn
    · have z : b ≠ N.c0 := fun z => by
        rw [z, hcell] at hb
        have hb : HO.ext _ = HO.dT _ := Option.some.inj hb
        cases hb
      rw [upd_ne z]
      exact x.grow b kvs (by rw [er_ne z]; exact hb)
    · rw [upd_ne nd]
      exact hd'
    · rw [List.length_append]
      omega
    · rw [upd_ne nf]
      exact kp _ _ hf nf fun _ z => HO.noConfusion z
    · rw [upd_ne nc]
      exact kp _ _ hc nc fun _ z => HO.noConfusion z
    · have t : ∀ {k t}, DenN (tab ks) k t → DenN (tab (ks ++ more)) k t := fun {k t} h => by
        obtain ⟨m2, e2⟩ := x.grow N.d (tab ks) (by rw [er_ne nd]; exact hd)
        rw [hd'] at e2
        have e3 : tab (ks ++ more) = tab ks ++ m2 := by
          have e2 := Option.some.inj e2
          injection e2
        rw [e3]
        exact h.app
      exact .sl (t hka) (t hkb) hv
  · cases res with
    | error e => exact hq
    | ok fl =>
      cases fl with
      | next => exact hq
      | brk => exact hq
      | cont => exact hq
      | ret u =>
        obtain ⟨v, H', os, bare, un, hok, rvu, q'⟩ := hq
        have nH : ∀ b, H b = none → b ≠ N.c0 := fun b hb z => by
          rw [z, hcell] at hb
          cases hb
        have ern : ∀ b, H b = none → er H N.c0 b = none := fun b hb => by
          rw [er_ne (nH b hb)]
          exact hb
        obtain ⟨oc, hoc, hod⟩ := id isC
        have hH' : H' N.c0 = none := un.free _ oc hoc er_same (by simp)
        have hcs : s'.heap.get? N.c0 = some oc := un.keep _ oc hoc er_same nfr (by simp)
        refine ⟨v, upd H' N.c0 (CellO N.c0 N.d), os, bare, ⟨fun b o e n hb hx => un.keep b o e (ern b n) hb hx, fun b o e n hb hx => un.slot b o e (ern b n) hb hx, fun b o e n hx => ?_, un.there, fun b xs e => ?_, fun b o u e => ?_, fun b ps e => ?_⟩, fun b u e => ?_, rvu, q'⟩
        · rw [upd_ne (nH b n)]
          exact un.free b o e (ern b n) hx
        · have z := cell_ne_tup hcell e
          rw [upd_ne z]
          exact un.tups b xs (by rw [er_ne z]; exact e)
        · have z : b ≠ N.c0 := fun z => by
            rw [z, hcell] at e
            have e : HO.ext _ = HO.frz _ _ := Option.some.inj e
            cases e
          rw [upd_ne z]
          exact un.frzs b o u (by rw [er_ne z]; exact e)
        · have z : b ≠ N.c0 := fun z => by
            rw [z, hcell] at e
            have e : HO.ext _ = HO.tbl _ := Option.some.inj e
            cases e
          obtain ⟨more, hm⟩ := un.tbls b ps (by rw [er_ne z]; exact e)
          exact ⟨more, by rw [upd_ne z]; exact hm⟩
        · by_cases z : b = N.c0
          · rw [z, upd_same] at e
            cases e
            rw [z]
            exact cellO_ok ⟨oc, hcs, hod⟩
          · rw [upd_ne z] at e
            exact (hok b u e).stay (fun _ _ _ q => q) (fun b hb => by rw [upd_ne (ne_of_none hb hH')]; exact hb) fun b xs hb => by rw [upd_ne (ne_of_none hb hH')]; exact hb
end

/-! ### its making: the table at PT tells no other names -/
section
variable {P : Program} {w : World} {K : PySem.W.Frag} {mg : Str → Option Value} {base : Heap}
def qL : Str := (envOfC "_law_numbers" (defScope s__law_numbers) 0 0 .none).qual ++ "<lambda>"
def spNumg (PT : Addr) : Sp := fun vs H Q _ => vs = [] ∧ LamX.TabS H PT qL ∧ ∀ (N : NumD) (H' : Hp), LamX.ExtN H H' → LamX.TabS H' PT qL → NumOk N H' sizeLine → Q (.ref N.f) H'
theorem fn_numbers {f c PT : Addr} {kV doc pm ct oc : Value} {an od : Option Addr} {osl : Array (Option Value)} (TB : LamX.TabB base mg c PT)
    (lk : K.lookup f = some ⟨oc, od, .func (PySem.W.fnOf "_law_numbers" "_law_numbers" (defArgs s__law_numbers) (defBody s__law_numbers) (defScope s__law_numbers) .none kV doc pm an (.ref c) ct), osl⟩) (hcd : PySem.W.codeIn K (.ref c) "_law_numbers" = true) :
    FnOk P w K mg base L2.CX0 1 f (PySem.W.fnOf "_law_numbers" "_law_numbers" (defArgs s__law_numbers) (defBody s__law_numbers) (defScope s__law_numbers) .none kV doc pm an (.ref c) ct) [] (spNumg PT) := by
  refine ⟨fun vs H Q E h => by rw [h.1] <;> rfl, fun A outer s H args us vs Q E hr e0 hb r hsp => ?_⟩
  obtain ⟨rfl, hPT, q⟩ := hsp
  have KX : K.In s.heap := e0.mod.kin.keeps fun b o e => (e0.bs b o e).1
  have lim : s.heap.NoLimit := e0.mod.nolimit.keeps fun b o e => (e0.bs b o e).1
  refine codeAny_call_function hr.depth (KX _ _ lk) rfl sc__law_numbers.co sc__law_numbers.gen rfl (PySem.W.codeRec_of KX hcd) (hb _ _ _ _ ?_)
  refine wpAny_newFunctionEnv_cells sc__law_numbers.kind (fun ⟨n, v⟩ hy => by simp at hy) fun env he s1 x => ?_
  subst he
  refine ⟨lim.keeps x.toInCall.keep, codeAny_func ?_⟩
  have I : Inv (cxOf L2.CX0 P w K mg base N__law_numbers "_law_numbers" (defScope s__law_numbers) f (.ref c) A outer s H E) [] (start N__law_numbers []) H s1 := inv_start sc__law_numbers hr.hd e0 rfl r x
  have b3 : defBody s__law_numbers = [(defBody s__law_numbers).getD 0 (.Pass ⟨0, 0, 0, 0⟩), (defBody s__law_numbers).getD 1 (.Pass ⟨0, 0, 0, 0⟩)] := rfl
  refine wpAny_mono (Q := fun fl s' => ∃ u, fl = .ret u ∧ CE outer P w H s Q u s') ?_ (fun fl s' hs => ?_) fun e s' hs => hs
  · rw [b3]
    have e1 : PS (cxOf L2.CX0 P w K mg base N__law_numbers "_law_numbers" (defScope s__law_numbers) f (.ref c) A outer s H E) ((defBody s__law_numbers).getD 0 (.Pass ⟨0, 0, 0, 0⟩)) (tAsg tDNewT (gName 0)) := ps_set (i := 0) sc__law_numbers.nd rfl (Or.inr rfl) pe_dnewT
    have hfree : NdefX.ndefB (defScope s__law_numbers) lamS ["_law_known"] = true := by decide +kernel
    have e3 : PE (cxOf L2.CX0 P w K mg base N__law_numbers "_law_numbers" (defScope s__law_numbers) f (.ref c) A outer s H E) lamX (tLamM [(PT, qL)] (fun c' => ⟨"<lambda>", qL, lamP, [], lamS, cloFrom (cxOf L2.CX0 P w K mg base N__law_numbers "_law_numbers" (defScope s__law_numbers) f (.ref c) A outer s H E).env.cells lamS.names [], c'⟩) lamB) :=
      pe_lamM (X := cxOf L2.CX0 P w K mg base N__law_numbers "_law_numbers" (defScope s__law_numbers) f (.ref c) A outer s H E) (T := [(PT, qL)]) (P := PT) (c := c) TB rfl List.mem_cons_self (fun p hp _ => by rw [List.mem_singleton.mp hp] <;> rfl) rfl (NdefX.ndef_free hfree)
    have b4 : ∃ pos : Pos, (defBody s__law_numbers).getD 1 (.Pass ⟨0, 0, 0, 0⟩) = .Return (some lamX) pos := ⟨_, rfl⟩
    obtain ⟨pos, b4⟩ := b4
    refine wpAny_execs_cons (thn (e1.run [] s1 _ H ⟨fun σ H' => ∃ d, H d = none ∧ σ = [some (.ref d)] ∧ H' = upd H d (.dT []), fun _ _ => False, fun _ _ => False, fun _ _ => False⟩ I fun d nd => ⟨d, nd, rfl, rfl⟩) fun fl s2 h2 => ?_)
    cases fl with
    | ret v => obtain ⟨_, _, _, _, _, z⟩ := h2; exact z.elim
    | brk => obtain ⟨_, _, _, z⟩ := h2; exact z.elim
    | cont => obtain ⟨_, _, _, z⟩ := h2; exact z.elim
    | next =>
    obtain ⟨σ2, H2, I2, d, nd, rfl, rfl⟩ := h2
    have tb : LamX.Tabs [(PT, qL)] (upd H d (.dT [])) := fun p hp => by
      rw [List.mem_singleton.mp hp]
      exact hPT.ext fun b o e => by rw [upd_ne (ne_of_none e nd)]; exact e
    rw [b4]
    refine wpAny_execs_cons (wpAny_Return_some (thn (e3.run [] s2 _ _ (fun v H' => ∃ f2 c2, v = .ref f2 ∧ LamX.ExtN (upd H d (.dT [])) H' ∧ LamX.Tabs [(PT, qL)] H' ∧ H' f2 = some (LamO f2 ⟨"<lambda>", qL, lamP, [], lamS, [("_law_known", s.heap.objs.size + 1)], c2⟩ lamB) ∧ H' c2 = some (LamX.CodeO c2 qL)) I2
      ⟨tb, fun f2 c2 H3 x3 t3 _ hf2 hc2 => ⟨f2, c2, rfl, x3, t3, hf2, hc2⟩⟩) fun u s4 h4 => ?_))
    obtain ⟨v, H4, I4, ru, f2, c2, rfl, x3, t3, hf2, hc2⟩ := h4
    refine ⟨u, rfl, ?_⟩
    -- the cell
    have hce : (cxOf L2.CX0 P w K mg base N__law_numbers "_law_numbers" (defScope s__law_numbers) f (.ref c) A outer s H E).env.cells.lookup ("_law_known" : Str) = some (s.heap.objs.size + 1) := rfl
    have isC : s4.heap.IsCell (s.heap.objs.size + 1) (some (.ref d)) := by
      obtain ⟨m, hn, hl⟩ := I4.loc
      obtain ⟨u2, r2, l2⟩ := hl 0 "_law_known" (.ref d) rfl rfl (.inr (.inl rfl))
      have e2 : u2 = .ref d := r2
      subst e2
      rcases l2 with ⟨k, _⟩ | ⟨_, c3, hc3, z⟩
      · cases (show some NameKind.cell = some NameKind.local from k)
      · rw [hce] at hc3
        cases hc3
        exact z
    have fc := I4.freeC _ _ hce
    have hs0 : H (s.heap.objs.size + 1) = none := e0.hok.fresh (Nat.le_succ _)
    have un := I4.base
    have xn : LamX.ExtN H (upd H4 (s.heap.objs.size + 1) (CellO (s.heap.objs.size + 1) d)) := fun b o hb hn => by
      rw [upd_ne (ne_of_none hb hs0)]
      exact x3 b o (by rw [upd_ne (ne_of_none hb nd)]; exact hb) hn
    have hd4 : H4 d = some (.dT []) := x3 d _ upd_same fun ps z => by cases z
    have t4 : LamX.TabS (upd H4 (s.heap.objs.size + 1) (CellO (s.heap.objs.size + 1) d)) PT qL := (t3 (PT, qL) List.mem_cons_self).ext fun b o e => by rw [upd_ne (ne_of_none e fc)]; exact e
    refine ⟨.ref f2, upd H4 (s.heap.objs.size + 1) (CellO (s.heap.objs.size + 1) d), I4.os, I4.bare, ⟨un.keep, un.slot, fun b o e n hx => ?_, un.there, fun b xs e => ?_, fun b o u e => ?_, fun b ps e => ?_⟩, fun b u e => ?_, ru, ?_⟩
    · rw [upd_ne (Nat.ne_of_lt (Nat.lt_succ_of_lt (Heap.lt_size e)))]
      exact un.free b o e n hx
    · rw [upd_ne (ne_of_none e hs0)]
      exact un.tups b xs e
    · rw [upd_ne (ne_of_none e hs0)]
      exact un.frzs b o u e
    · obtain ⟨more, hm⟩ := un.tbls b ps e
      exact ⟨more, by rw [upd_ne (ne_of_none e hs0)]; exact hm⟩
    · by_cases z : b = s.heap.objs.size + 1
      · rw [z, upd_same] at e
        cases e
        rw [z]
        exact cellO_ok isC
      · rw [upd_ne z] at e
        exact (I4.hok b u e).stay (fun _ _ _ q => q) (fun b hb => by rw [upd_ne (ne_of_none hb fc)]; exact hb) fun b xs hb => by rw [upd_ne (ne_of_none hb fc)]; exact hb
    · refine q ⟨f2, qL, c2, s.heap.objs.size + 1, d⟩ _ xn t4 ⟨⟨[], ?_, ?_⟩, ?_, ?_, upd_same⟩
      · rw [upd_ne (ne_of_none hd4 fc)]
        exact hd4
      · exact Nat.le_of_eq (Nat.zero_add _)
      · rw [upd_ne (ne_of_none hf2 fc)]
        exact hf2
      · rw [upd_ne (ne_of_none hc2 fc)]
        exact hc2
  · obtain ⟨u, rfl, h⟩ := hs
    exact h
theorem cal_numbers {c PT : Addr} (D : DefM K mg "_law_numbers" s__law_numbers c) (TB : LamX.TabB base mg c PT) : Cal P w K mg base 1 "_law_numbers" (spNumg PT) [] := by
  obtain ⟨f, oc, od, kV, doc, pm, an, ct, osl, lk, hc, kp, m⟩ := D.ex
  exact ⟨f, _, [], [], fn_numbers TB lk hc, m, kp, .all fun us hl => match us, hl with | [], _ => rfl, .nil⟩
end

/-! ### what is told apart -/
/-- alike in kind, so that equal values tell equal terms -/
def cmpT : Tm → Tm → Prop
  | .int _, .sl _ _ _ => False
  | .sl _ _ _, .int _ => False
  | .sl m a b, .sl m' a' b' => m ≠ m' ∨ (cmpT a a' ∧ cmpT b b')
  | _, _ => True
theorem cmp_sl {m : Str} {i j : Int} {a b : Tm} (h : cmpT a b) : cmpT (.sl m (.int i) a) (.sl m (.int j) b) := .inr ⟨True.intro, h⟩

structure Sys.Inj (K : PySem.W.Frag) (S : Sys) : Prop where
  inj : ∀ {H : Hp} {r : Nat} {v v' : V} {t t' : Tm}, S.ok H r → S.den H v t → S.den H v' t' → cmpT t t' → ∃ d d', Dp K H v d ∧ Dp K H v' d' ∧ d.canLay0 = true ∧ d'.canLay0 = true ∧ d.depth ≤ t.dep ∧ d'.depth ≤ t'.dep ∧ PyData.eqv d d' = decide (t = t')
theorem eqv_int (i j : Int) : PyData.eqv (.int i) (.int j) = decide (i = j) := by
  rw [PyData.eqv]
  first | rfl | simp [BEq.beq]
theorem eqv_str (x y : Str) : PyData.eqv (.str x) (.str y) = decide (x = y) := by
  rw [PyData.eqv]
  first | rfl | simp [BEq.beq]
theorem dat_str {x : Str} (h : txtOk x = true) : datP (.str x) = .str x := if_pos h
theorem dat_non : datP (.str badX) = .none := if_neg (by rw [badX_no]; decide)
theorem eqvP : ∀ t t' : Tm, GT t → GT t' → PyData.eqv (datP t) (datP t') = decide (t = t')
  | .int i, .int j, _, _ => by
    show PyData.eqv (.int i) (.int j) = _
    rw [eqv_int]
    by_cases h : i = j
    · rw [h]; simp
    · rw [decide_eq_false h, decide_eq_false (fun z => h (Tm.int.inj z))]
  | .str i, .str j, hi, hj => by
    rcases hi with hi | rfl
    · rcases hj with hj | rfl
      · rw [dat_str hi, dat_str hj, eqv_str]
        by_cases h : i = j
        · rw [h]; simp
        · rw [decide_eq_false h, decide_eq_false (fun z => h (Tm.str.inj z))]
      · rw [dat_str hi, dat_non, decide_eq_false (fun z => by rw [Tm.str.inj z, badX_no] at hi; cases hi)]
        rfl
    · rcases hj with hj | rfl
      · rw [dat_str hj, dat_non, decide_eq_false (fun z => by rw [← Tm.str.inj z, badX_no] at hj; cases hj)]
        rfl
      · rw [dat_non, decide_eq_true rfl]
        rfl
  | .sl m a b, .sl m' a' b', hi, hj => by
    show PyData.eqv (.tuple [.str m, datP a, datP b]) (.tuple [.str m', datP a', datP b']) = _
    rw [PyData.eqv, PyData.eqvAll, PyData.eqvAll, PyData.eqvAll, PyData.eqvAll, eqv_str, eqvP a a' hi.1 hj.1, eqvP b b' hi.2 hj.2]
    by_cases h1 : m = m' <;> by_cases h2 : a = a' <;> by_cases h3 : b = b' <;> simp [h1, h2, h3]
  | .int _, .str j, _, hj => by
    rw [decide_eq_false (fun z => nomatch z)]
    rcases hj with hj | rfl
    · rw [dat_str hj]; rfl
    · rw [dat_non]; rfl
  | .str i, .int _, hi, _ => by
    rw [decide_eq_false (fun z => nomatch z)]
    rcases hi with hi | rfl
    · rw [dat_str hi]; rfl
    · rw [dat_non]; rfl
  | .int _, .sl _ _ _, _, _ => rfl
  | .sl _ _ _, .int _, _, _ => rfl
  | .str i, .sl _ _ _, hi, _ => by
    rw [decide_eq_false (fun z => nomatch z)]
    rcases hi with hi | rfl
    · rw [dat_str hi]; rfl
    · rw [dat_non]; rfl
  | .sl _ _ _, .str j, _, hj => by
    rw [decide_eq_false (fun z => nomatch z)]
    rcases hj with hj | rfl
    · rw [dat_str hj]; rfl
    · rw [dat_non]; rfl
theorem DenN.inj {ks : List (List Key)} {k : Key} {t : Tm} (h : DenN (tab ks) k t) : ∀ {t'}, DenN (tab ks) k t' → cmpT t t' → t = t' := by
  induction h with
  | int i =>
    intro t' h' c
    cases h' with
    | int => rfl
    | sl _ _ _ => exact c.elim
  | str x h =>
    intro t' h' c
    cases h'
    rfl
  | @sl m ka kb a b n ha hb hv iha ihb =>
    intro t' h' c
    cases h' with
    | int => exact c.elim
    | @sl m' ka' kb' a' b' _ ha' hb' hv' =>
      obtain ⟨i, e1, g1⟩ := tab_at hv
      obtain ⟨j, e2, g2⟩ := tab_at hv'
      have e3 := V.int.inj (e1.symm.trans e2)
      have e4 : i = j := by omega
      subst e4
      rw [g1] at g2
      have g3 := Option.some.inj g2
      have g4 : m = m' := by
        have := (List.cons.inj g3).1
        exact Sum.inr.inj this
      have g5 : ka = ka' := (List.cons.inj (List.cons.inj g3).2).1
      have g6 : kb = kb' := (List.cons.inj (List.cons.inj (List.cons.inj g3).2).2).1
      subst g4 g5 g6
      rcases c with c | ⟨c1, c2⟩
      · exact absurd rfl c
      · rw [iha ha' c1, ihb hb' c2]
theorem DenN.apart {ks : List (List Key)} {K : PySem.W.Frag} {H : Hp} {k k' : Key} {t t' : Tm} (h : DenN (tab ks) k t) (h' : DenN (tab ks) k' t') (c : cmpT t t') : ∃ d d', Dp K H (kV k) d ∧ Dp K H (kV k') d' ∧ d.canLay0 = true ∧ d'.canLay0 = true ∧ d.depth ≤ t.dep ∧ d'.depth ≤ t'.dep ∧ PyData.eqv d d' = decide (t = t') := by
  have key : decide (k = k') = decide (t = t') := by
    by_cases e : k = k'
    · subst e
      rw [h.inj h' c]
      simp
    · rw [decide_eq_false e, decide_eq_false]
      rintro rfl
      exact e (h.fn h')
  rw [← key]
  cases h with
  | int i =>
    cases h' with
    | int j => exact ⟨_, _, .int _, .int _, rfl, rfl, Nat.zero_le _, Nat.zero_le _, by rw [eqv_int]; by_cases e : i = j <;> simp [e]⟩
    | str y hy => exact ⟨_, _, .int _, .str _, rfl, hy, Nat.zero_le _, Nat.zero_le _, by rw [decide_eq_false (fun z => nomatch z)]; rfl⟩
    | sl _ _ _ => exact c.elim
  | str x hx =>
    cases h' with
    | int j => exact ⟨_, _, .str _, .int _, hx, rfl, Nat.zero_le _, Nat.zero_le _, by rw [decide_eq_false (fun z => nomatch z)]; rfl⟩
    | str y hy => exact ⟨_, _, .str _, .str _, hx, hy, Nat.zero_le _, Nat.zero_le _, by rw [eqv_str]; by_cases e : x = y <;> simp [e]⟩
    | sl _ _ _ => exact ⟨_, _, .str _, .int _, hx, rfl, Nat.zero_le _, Nat.zero_le _, by rw [decide_eq_false (fun z => nomatch z)]; rfl⟩
  | @sl _ _ _ _ _ n _ _ _ =>
    cases h' with
    | int j => exact c.elim
    | str y hy => exact ⟨_, _, .int _, .str _, rfl, hy, Nat.zero_le _, Nat.zero_le _, by rw [decide_eq_false (fun z => nomatch z)]; rfl⟩
    | @sl _ _ _ _ _ n' _ _ _ => exact ⟨_, _, .int _, .int _, rfl, rfl, Nat.zero_le _, Nat.zero_le _, by rw [eqv_int]; by_cases e : n = n' <;> simp [e]⟩
section
variable {P : Program} {w : World} {K : PySem.W.Frag} {mg : Str → Option Value} {base : Heap}
theorem fn_lseal {f : Addr} {fd : FuncData} (F : L2.Fun K "_law_seal" "_law_seal" s__law_seal f fd) : FnOk P w K mg base L2.CX0 1 f fd ["_law_mark", "_law_one", "_law_two"] (spTup tfP) := by
  refine F.ok sc__law_seal (fun vs H Q E h => ?_) (fun cdv A outer s H vs Q E hr h => ?_)
  · obtain ⟨m, a, b, rfl, _⟩ := h
    rfl
  obtain ⟨m, a, b, rfl, q⟩ := h
  refine ⟨_, (pss_one (ps_ret (pe_tup (pa_cons (pv 0) (pa_cons (pv 1) (pa_cons (pv 2) pa_nil)))))), ?_⟩
  exact ⟨_, rfl, _, rfl, _, rfl, (by show 3 ≤ sizeLine; decide), fun p hp => q p hp⟩
/-- a seal of numbers, or the plain one -/
def Fam16 (mg : Str → Option Value) : Sys → Prop := fun S => (∃ f, mg "_law_seal" = some (.ref f) ∧ S = plainSys tfP f) ∨ ∃ N : NumD, S = numSys N
theorem sla16 {cc : Addr} (T : Txt K mg cc) : SlA P w K mg base (Fam16 mg) := by
  obtain ⟨fP, fdP, FP, mP, bP⟩ := T.d__law_seal.ex
  refine ⟨fun {S} h => ?_, fun S h => ?_⟩
  · rcases h with ⟨f, _, rfl⟩ | ⟨N, rfl⟩
    · exact goodP f
    · exact goodN N
  · rcases h with ⟨f, m, rfl⟩ | ⟨N, rfl⟩
    · rw [mP] at m
      cases m
      exact held_plain FP bP (fn_lseal FP)
    · exact held_num T.Z.len N
end
theorem inj16 {K : PySem.W.Frag} {mg : Str → Option Value} {S : Sys} (h : Fam16 mg S) : S.Inj K := by
  rcases h with ⟨f, _, rfl⟩ | ⟨N, rfl⟩
  · exact ⟨fun _ h h' _ => ⟨_, _, h.dp.1, h'.dp.1, (DenP.dp (K := K) h).2.1, (DenP.dp (K := K) h').2.1, (DenP.dp (K := K) h).2.2, (DenP.dp (K := K) h').2.2, eqvP _ _ (DenP.gt h) (DenP.gt h')⟩⟩
  · refine ⟨fun ok h h' c => ?_⟩
    obtain ⟨ks, hd, _⟩ := ok.dict
    obtain ⟨kvs, k, e1, g, rfl⟩ := h
    obtain ⟨kvs', k', e1', g', rfl⟩ := h'
    rw [hd] at e1 e1'
    cases e1
    cases e1'
    exact g.apart g' c

/-- rows told apart -/
theorem DenL.apart {K : PySem.W.Frag} {S : Sys} (I : S.Inj K) {H : Hp} {r n : Nat} (ok : S.ok H r) : ∀ {vs us : List V} {ts rs : List Tm}, DenL S H vs ts → DenL S H us rs → (∀ t ∈ ts, ∀ u ∈ rs, cmpT t u) → (∀ t ∈ ts, t.dep ≤ n) → (∀ t ∈ rs, t.dep ≤ n) →
    (∀ t ∈ ts, cmpT t t) → (∀ t ∈ rs, cmpT t t) → ∃ ds es, DpAll K H vs ds ∧ DpAll K H us es ∧ PyData.canLayAll0 ds = true ∧ PyData.canLayAll0 es = true ∧ PyData.depthAll ds ≤ n ∧ PyData.depthAll es ≤ n ∧ PyData.eqvAll ds es = decide (ts = rs)
  | vs, us, [], [], h, h', _, _, _, _, _ => by
    have e1 : vs = [] := List.eq_nil_of_length_eq_zero h.len
    have e2 : us = [] := List.eq_nil_of_length_eq_zero h'.len
    subst e1 e2
    exact ⟨[], [], .nil, .nil, rfl, rfl, Nat.zero_le _, Nat.zero_le _, by rw [PyData.eqvAll]; rfl⟩
  | [], _, t :: ts, _, h, _, _, _, _, _, _ => absurd h.len (by simp)
  | _, [], _, u :: rs, _, h', _, _, _, _, _ => absurd h'.len (by simp)
  | v :: vs, us, t :: ts, [], h, h', c, hd, hd', ct, cu => by
    have e2 : us = [] := List.eq_nil_of_length_eq_zero h'.len
    subst e2
    have t1 : DenL S H vs ts := h.drop 1
    obtain ⟨d, _, a1, _, a3, _, a4, _, _⟩ := I.inj ok (h.at_ 0 v t rfl rfl) (h.at_ 0 v t rfl rfl) (ct t List.mem_cons_self)
    obtain ⟨ds, es, b1, b2, b3, b4, b5, b6, b7⟩ := DenL.apart I ok t1 h' (fun t ht u hu => c t (List.mem_cons_of_mem _ ht) u hu) (fun t ht => hd t (List.mem_cons_of_mem _ ht)) hd' (fun t ht => ct t (List.mem_cons_of_mem _ ht)) cu
    cases b2
    refine ⟨d :: ds, [], .cons a1 b1, .nil, by rw [PyData.canLayAll0, a3, b3]; rfl, rfl, ?_, Nat.zero_le _, by rw [PyData.eqvAll]; first | rfl | simp⟩
    have := hd t List.mem_cons_self
    show max d.depth (PyData.depthAll ds) ≤ n
    omega
  | vs, u :: us, [], w :: rs, h, h', c, hd, hd', ct, cu => by
    have e2 : vs = [] := List.eq_nil_of_length_eq_zero h.len
    subst e2
    have t1 : DenL S H us rs := h'.drop 1
    obtain ⟨d, _, a1, _, a3, _, a4, _, _⟩ := I.inj ok (h'.at_ 0 u w rfl rfl) (h'.at_ 0 u w rfl rfl) (cu w List.mem_cons_self)
    obtain ⟨ds, es, b1, b2, b3, b4, b5, b6, b7⟩ := DenL.apart I ok h t1 (fun t ht u hu => c t ht u (List.mem_cons_of_mem _ hu)) hd (fun t ht => hd' t (List.mem_cons_of_mem _ ht)) ct (fun t ht => cu t (List.mem_cons_of_mem _ ht))
    cases b1
    refine ⟨[], d :: es, .nil, .cons a1 b2, rfl, by rw [PyData.canLayAll0, a3, b4]; rfl, Nat.zero_le _, ?_, by rw [PyData.eqvAll]; first | rfl | simp⟩
    have := hd' w List.mem_cons_self
    show max d.depth (PyData.depthAll es) ≤ n
    omega
  | v :: vs, u :: us, t :: ts, w :: rs, h, h', c, hd, hd', ct, cu => by
    have t1 : DenL S H vs ts := h.drop 1
    have t2 : DenL S H us rs := h'.drop 1
    obtain ⟨d, e, a1, a2, a3, a4, a5, a6, a7⟩ := I.inj ok (h.at_ 0 v t rfl rfl) (h'.at_ 0 u w rfl rfl) (c t List.mem_cons_self w List.mem_cons_self)
    obtain ⟨ds, es, b1, b2, b3, b4, b5, b6, b7⟩ := DenL.apart I ok t1 t2 (fun t ht u hu => c t (List.mem_cons_of_mem _ ht) u (List.mem_cons_of_mem _ hu)) (fun t ht => hd t (List.mem_cons_of_mem _ ht)) (fun t ht => hd' t (List.mem_cons_of_mem _ ht)) (fun t ht => ct t (List.mem_cons_of_mem _ ht)) (fun t ht => cu t (List.mem_cons_of_mem _ ht))
    refine ⟨d :: ds, e :: es, .cons a1 b1, .cons a2 b2, by rw [PyData.canLayAll0, a3, b3]; rfl, by rw [PyData.canLayAll0, a4, b4]; rfl, ?_, ?_, ?_⟩
    · have := hd t List.mem_cons_self
      show max d.depth (PyData.depthAll ds) ≤ n
      omega
    · have := hd' w List.mem_cons_self
      show max e.depth (PyData.depthAll es) ≤ n
      omega
    · rw [PyData.eqvAll, a7, b7]
      by_cases h1 : t = w <;> by_cases h2 : ts = rs <;> simp [h1, h2]
termination_by vs us ts rs => ts.length + rs.length
decreasing_by
  all_goals (simp; try omega)

/-! ### the greatest power of two below a number -/
def splitN (n : Nat) : Nat := 2 ^ (n - 1).log2
theorem splitN_pos (n : Nat) : 0 < splitN n := Nat.two_pow_pos _
theorem splitN_lt {n : Nat} (h : 2 ≤ n) : splitN n < n := by
  have q := Nat.log2_self_le (show n - 1 ≠ 0 by omega)
  unfold splitN
  omega
theorem splitN_ge {n : Nat} (h : 2 ≤ n) : n ≤ 2 * splitN n := by
  have q : n - 1 < 2 ^ ((n - 1).log2 + 1) := Nat.lt_log2_self
  rw [Nat.pow_succ] at q
  unfold splitN
  omega
theorem splitN_of {n i : Nat} (h1 : 2 ^ i < n) (h2 : n ≤ 2 * 2 ^ i) : splitN n = 2 ^ i := by
  have h0 : n - 1 ≠ 0 := by
    have := Nat.two_pow_pos i
    omega
  have a : i ≤ (n - 1).log2 := (Nat.le_log2 h0).mpr (by omega)
  have b : (n - 1).log2 < i + 1 := (Nat.log2_lt h0).mpr (by rw [Nat.pow_succ]; omega)
  unfold splitN
  rw [show (n - 1).log2 = i by omega]
theorem splitN_le_pow {n k : Nat} (h : 2 ≤ n) (hk : n ≤ 2 ^ (k + 1)) : splitN n ≤ 2 ^ k ∧ n - splitN n ≤ 2 ^ k := by
  have h0 : n - 1 ≠ 0 := by omega
  have a : (n - 1).log2 < k + 1 := (Nat.log2_lt h0).mpr (by omega)
  have b : splitN n ≤ 2 ^ k := Nat.pow_le_pow_right (by decide) (by omega)
  have c := splitN_ge h
  exact ⟨b, by omega⟩
/-! ### the top of a row -/
def nonT : Tm := .sl "none" (.int 0) (.int 0)
def pairT (a b : Tm) : Tm := .sl "pair" a b
def topT (ts : List Tm) : Tm :=
  if h : ts.length < 2 then ts.headD nonT else pairT (topT (ts.take (splitN ts.length))) (topT (ts.drop (splitN ts.length)))
termination_by ts.length
decreasing_by
  · rw [List.length_take]
    have := splitN_lt (n := ts.length) (by omega)
    omega
  · rw [List.length_drop]
    have := splitN_pos ts.length
    omega
theorem topT_nil : topT [] = nonT := by rw [topT]; rfl
theorem topT_one (t : Tm) : topT [t] = t := by rw [topT]; rfl
theorem topT_single {ts : List Tm} (h : ts.length = 1) : topT ts = ts.getD 0 nonT := by
  match ts, h with
  | [t], _ => exact topT_one t
theorem topT_more {ts : List Tm} (h : 2 ≤ ts.length) : topT ts = pairT (topT (ts.take (splitN ts.length))) (topT (ts.drop (splitN ts.length))) := by
  rw [topT, dif_neg (by omega)]
theorem topT_dep {d : Nat} : ∀ (k : Nat) (ts : List Tm), ts.length ≤ 2 ^ k → (∀ t ∈ ts, t.dep ≤ d) → (topT ts).dep ≤ d + k + 1
  | 0, [], _, _ => by rw [topT_nil]; show 0 + 1 ≤ _; omega
  | 0, [t], _, h => by rw [topT_one]; have := h t List.mem_cons_self; omega
  | 0, t :: u :: r, h, _ => by simp at h
  | k + 1, ts, hl, h => by
    by_cases h2 : 2 ≤ ts.length
    · rw [topT_more h2]
      obtain ⟨a, b⟩ := splitN_le_pow h2 hl
      have e1 := topT_dep k (ts.take (splitN ts.length)) (by rw [List.length_take]; omega) fun t ht => h t (List.mem_of_mem_take ht)
      have e2 := topT_dep k (ts.drop (splitN ts.length)) (by rw [List.length_drop]; omega) fun t ht => h t (List.mem_of_mem_drop ht)
      show max _ _ + 1 ≤ _
      omega
    · match ts, h2 with
      | [], _ => rw [topT_nil]; show 0 + 1 ≤ _; omega
      | [t], _ => rw [topT_one]; have := h t List.mem_cons_self; omega
      | t :: u :: r, h2 => exact absurd (show 2 ≤ (t :: u :: r).length by simp) h2
/-- how many tellings a top wants -/
def costT (n : Nat) : Nat := if n = 0 then 1 else n - 1
theorem costT_split {n : Nat} (h : 2 ≤ n) : costT (splitN n) + costT (n - splitN n) + 1 ≤ costT n := by
  have a := splitN_pos n
  have b := splitN_lt h
  unfold costT
  rw [if_neg (by omega), if_neg (by omega), if_neg (by omega)]
  omega
theorem costT_le (n : Nat) : costT n ≤ n + 1 := by
  unfold costT
  split <;> omega

/-! ### well-made things -/
inductive WS : Tm → Prop
  | leaf (x : Str) {a : Tm} (ha : WS a) : WS (.sl "leaf" (.str x) a)
  | tab (i : Int) {a : Tm} (ha : WS a) : WS (.sl "table" (.int i) a)
  | row (i : Int) (x : Str) : WS (.sl "row" (.int i) (.str x))
  | fork {a b : Tm} (ha : WS a) (hb : WS b) : WS (.sl "fork" a b)
  | non : WS nonT
  | pair {a b : Tm} (ha : WS a) (hb : WS b) : WS (pairT a b)
  | book (i : Int) {a : Tm} (ha : WS a) : WS (.sl "book" (.int i) a)
  | str (x : Str) : WS (.str x)
theorem WS.cmp {a : Tm} (h : WS a) : ∀ {b}, WS b → cmpT a b := by
  induction h with
  | leaf x ha iha =>
    intro b hb
    cases hb with
    | leaf y hb' => exact .inr ⟨True.intro, iha hb'⟩
    | tab _ _ => exact .inl (by decide +kernel)
    | row _ _ => exact .inl (by decide +kernel)
    | fork _ _ => exact .inl (by decide +kernel)
    | non => exact .inl (by decide +kernel)
    | pair _ _ => exact .inl (by decide +kernel)
    | book _ _ => exact .inl (by decide +kernel)
    | str _ => exact True.intro
  | tab i ha iha =>
    intro b hb
    cases hb with
    | leaf _ _ => exact .inl (by decide +kernel)
    | tab j hb' => exact .inr ⟨True.intro, iha hb'⟩
    | row _ _ => exact .inl (by decide +kernel)
    | fork _ _ => exact .inl (by decide +kernel)
    | non => exact .inl (by decide +kernel)
    | pair _ _ => exact .inl (by decide +kernel)
    | book _ _ => exact .inl (by decide +kernel)
    | str _ => exact True.intro
  | row i x =>
    intro b hb
    cases hb with
    | leaf _ _ => exact .inl (by decide +kernel)
    | tab _ _ => exact .inl (by decide +kernel)
    | row _ _ => exact .inr ⟨True.intro, True.intro⟩
    | fork _ _ => exact .inl (by decide +kernel)
    | non => exact .inl (by decide +kernel)
    | pair _ _ => exact .inl (by decide +kernel)
    | book _ _ => exact .inl (by decide +kernel)
    | str _ => exact True.intro
  | fork ha hb iha ihb =>
    intro b hb
    cases hb with
    | leaf _ _ => exact .inl (by decide +kernel)
    | tab _ _ => exact .inl (by decide +kernel)
    | row _ _ => exact .inl (by decide +kernel)
    | fork ha' hb' => exact .inr ⟨iha ha', ihb hb'⟩
    | non => exact .inl (by decide +kernel)
    | pair _ _ => exact .inl (by decide +kernel)
    | book _ _ => exact .inl (by decide +kernel)
    | str _ => exact True.intro
  | non =>
    intro b hb
    cases hb with
    | leaf _ _ => exact .inl (by decide +kernel)
    | tab _ _ => exact .inl (by decide +kernel)
    | row _ _ => exact .inl (by decide +kernel)
    | fork _ _ => exact .inl (by decide +kernel)
    | non => exact .inr ⟨True.intro, True.intro⟩
    | pair _ _ => exact .inl (by decide +kernel)
    | book _ _ => exact .inl (by decide +kernel)
    | str _ => exact True.intro
  | pair ha hb iha ihb =>
    intro b hb
    cases hb with
    | leaf _ _ => exact .inl (by decide +kernel)
    | tab _ _ => exact .inl (by decide +kernel)
    | row _ _ => exact .inl (by decide +kernel)
    | fork _ _ => exact .inl (by decide +kernel)
    | non => exact .inl (by decide +kernel)
    | pair ha' hb' => exact .inr ⟨iha ha', ihb hb'⟩
    | book _ _ => exact .inl (by decide +kernel)
    | str _ => exact True.intro
  | book i ha iha =>
    intro b hb
    cases hb with
    | leaf _ _ => exact .inl (by decide +kernel)
    | tab _ _ => exact .inl (by decide +kernel)
    | row _ _ => exact .inl (by decide +kernel)
    | fork _ _ => exact .inl (by decide +kernel)
    | non => exact .inl (by decide +kernel)
    | pair _ _ => exact .inl (by decide +kernel)
    | book j hb' => exact .inr ⟨True.intro, iha hb'⟩
    | str _ => exact True.intro
  | str x =>
    intro b hb
    cases hb <;> exact True.intro
theorem topT_ws {ts : List Tm} (h : ∀ t ∈ ts, WS t) : WS (topT ts) := by
  by_cases h2 : ts.length < 2
  · match ts, h2 with
    | [], _ => rw [topT_nil]; exact .non
    | [t], _ => rw [topT_one]; exact h t List.mem_cons_self
    | t :: u :: r, h2 => exact absurd h2 (by simp)
  · have hs := splitN_lt (n := ts.length) (by omega)
    have hs0 := splitN_pos ts.length
    rw [topT_more (by omega)]
    exact .pair (topT_ws fun t ht => h t (List.mem_of_mem_take ht)) (topT_ws fun t ht => h t (List.mem_of_mem_drop ht))
termination_by ts.length
decreasing_by
  · rw [List.length_take]; omega
  · rw [List.length_drop]; omega

/-! ### split and the top, by the law's own defs -/
section
variable {P : Program} {w : World} {K : PySem.W.Frag} {mg : Str → Option Value} {base : Heap} {Fam : Sys → Prop}
/-- a def of which nothing is asked -/
def spNo : Sp := fun _ _ _ _ => False
theorem cal_no {x : Str} {st : Stmt} {ps : List Str} (D : DefX K mg x st ps) (k : Nat) : Cal P w K mg base k x spNo [] := by
  obtain ⟨f, fd, F, m, b⟩ := D.ex
  exact ⟨f, fd, ps, [], ⟨fun _ _ _ _ h => h.elim, fun _ _ _ _ _ _ _ _ _ _ _ _ _ h => h.elim⟩, m, F.kp, .all b, .nil⟩
theorem cal_mono {x : Str} {j k : Nat} {sp : Sp} {dvs : List V} (c : Cal P w K mg base j x sp dvs) (h : j ≤ k) : Cal P w K mg base k x sp dvs := by
  obtain ⟨f, fd, ps, ds, F, m, kp, b, v⟩ := c.ex
  exact ⟨f, fd, ps, ds, F.mono h, m, kp, b, v⟩
def spSplit : Sp := fun vs H Q _ => ∃ n : Nat, vs = [.int (n : Int)] ∧ 2 ≤ n ∧ n.log2 ≤ 100000 ∧ Q (.int ((splitN n : Nat) : Int)) H
theorem pow_cast (i : Nat) : (((2 ^ i : Nat) : Nat) : Int) = 2 ^ i := by
  rw [Int.natCast_pow]
  rfl

/-- the top of a row of leaves: two to the k of them at most -/
def spTop (K : PySem.W.Frag) (Fam : Sys → Prop) (k : Nat) : Sp := fun vs H Q _ => ∃ (S : Sys) (a : Addr) (xs : List V) (ts : List Tm) (r : Nat), Fam S ∧ vs = [.ref S.f, .ref a] ∧ SqL K H a xs ∧ DenL S H xs ts ∧ k ≠ 0 ∧ ts.length ≤ 2 ^ (k - 1) ∧ ts.length ≤ 1000 ∧ S.ok H (r + costT ts.length) ∧
  ∀ v H', Ext H H' → S.ok H' r → S.den H' v (topT ts) → Q v H'
theorem atI_den {S : Sys} {H : Hp} {xs : List V} {ts : List Tm} (h : DenL S H xs ts) {i : Int} (h0 : 0 ≤ i) (h1 : i < (ts.length : Int)) : ∃ v, atI xs i = some v ∧ S.den H v (ts.getD i.toNat nonT) := by
  have hi : i.toNat < ts.length := by omega
  obtain ⟨v, e, d⟩ := h.get hi
  refine ⟨v, at_of (j := i.toNat) (by omega) e, ?_⟩
  rw [List.getD_eq_getElem?_getD, List.getElem?_eq_getElem hi]
  exact d

end
/-! ### for the law: equal things are seen equal; the head -/
section
variable {K : PySem.W.Frag} {H : Hp} {S : Sys}
theorem shaped_of {d : PyData} (h : d.canLay0 = true) (hd : d.depth ≤ 64) : SeqAt.shaped d = true := by
  unfold SeqAt.shaped
  rw [h, decide_eq_true hd]
  rfl
theorem eqv_self {d : PyData} (h : d.canLay0 = true) : PyData.eqv d d = true := SeqAt.eqv_refl d h
theorem eq_rows (G : S.Good K) {p p' : Addr} {xs ys : List V} {ts : List Tm} (hp : SqL K H p xs) (hp' : SqL K H p' ys) (h : DenL S H xs ts) (h' : DenL S H ys ts) (hd : ∀ t ∈ ts, t.dep ≤ 60) :
    ∃ d, Dp K H (.ref p) d ∧ Dp K H (.ref p') d ∧ SeqAt.shaped d = true ∧ PyData.eqv d d = true := by
  obtain ⟨ds, a, b, c, e⟩ := DenL.same G h h' hd
  have c' : (PyData.list ds).canLay0 = true := c
  exact ⟨.list ds, .lst hp a, .lst hp' b, shaped_of c' (by show PyData.depthAll ds + 1 ≤ 64; omega), eqv_self c'⟩
theorem eq_tm (G : S.Good K) {v v' : V} {t : Tm} (h : S.den H v t) (h' : S.den H v' t) (hd : t.dep ≤ 60) :
    ∃ d, Dp K H v d ∧ Dp K H v' d ∧ SeqAt.shaped d = true ∧ PyData.eqv d d = true := by
  obtain ⟨d, a, b, c, e⟩ := G.same h h'
  exact ⟨d, a, b, shaped_of c (by omega), eqv_self c⟩
theorem ext_seq {K : PySem.W.Frag} {H H' : Hp} {a : Addr} {xs : List V} (e : LamX.ExtN H H') (h : SqL K H a xs) : SqL K H' a xs := by
  rcases h with (h | ⟨o, h⟩) | h
  · exact .inl (.inl (e _ _ h fun _ z => nomatch z))
  · exact .inl (.inr ⟨o, e _ _ h fun _ z => nomatch z⟩)
  · exact .inr h
end
/-- a row's places -/
theorem map_int_mem {l : List Int} {x : V} (h : x ∈ l.map V.int) : ∃ z ∈ l, x = .int z := by
  obtain ⟨z, hz, e⟩ := List.mem_map.mp h
  exact ⟨z, hz, e.symm⟩
/-- the law's promise; a table of code objects at PT -/
def spLaw (K : PySem.W.Frag) (PT : Addr) : Sp := fun vs H Q _ => ∃ (a : Addr) (ns : List Int), vs = [.ref a] ∧ SqL K H a (ns.map V.int) ∧ ns.length ≤ 63 ∧ H PT = some (.tbl #[]) ∧ ∀ H', Q (.bl true) H'
theorem law_end {l : PySem.W.OpenLaw} {w : World} {K : PySem.W.Frag} {h : Heap} {mg : Str → Option Value} {fa c PT : Addr} {k : Nat} (X : K.In h) (hP : ∀ Q ∈ [PT], h.get? Q = some (PySem.W.tabObj #[])) (nP : K.lookup PT = none) (hc : PySem.W.codeHdIn K c PT = true)
    (F : ∃ fd : FuncData, (∀ (s : Shared) (v : Value), BindsTo s fd ⟨[v], []⟩ [("_law_script", v)]) ∧ ∀ base : Heap, K.In base → base.Ns mainGlobals mg → LamX.TabB base mg c PT → FnOk l.prog w K mg base L2.CX0 k fa fd ["_law_script"] (spLaw K PT)) :
    LamX.LawAtS l w K L2.CX0 k 63 "_law_script" mg fa h := by
  obtain ⟨fd, hb, hF⟩ := F
  refine ⟨fd, [(c, PT)], spLaw K PT, fun p hp => ?_, fun p hp => ?_, fun p hp => ?_, hb, fun H a ns hl _ hT hS => ⟨a, ns, rfl, hS, hl, hT _ (List.mem_singleton.mpr rfl), fun _ => rfl⟩, fun base KB NB TB => hF base KB NB (TB _ (List.mem_singleton.mpr rfl))⟩
  · rw [List.mem_singleton.mp hp]
    exact hP PT (List.mem_singleton.mpr rfl)
  · rw [List.mem_singleton.mp hp]
    exact nP
  · rw [List.mem_singleton.mp hp]
    exact PySem.W.codeHd_of_K X hc
theorem law_fnT {P : Program} {w : World} {K : PySem.W.Frag} {mg : Str → Option Value} {x p : Str} {st : Stmt} {N : List Str} {k : Nat} {sp : Sp} {fa c PT : Addr} (D : DefX K mg x st [p]) (hfa : mg x = some (.ref fa)) (S : FnScope N [p] (defScope st)) (len : ∀ vs H Q E, sp vs H Q E → vs.length = 1)
    (hbody : ∀ (base : Heap), LamX.TabB base mg c PT → ∀ (f : Addr) (cdv : Value) (A : Around) (outer : List Env) (s : Shared) (H : Hp) (vs : List V) (Q : VK) (E : XK), Room k (A.deeper (envOfC x (defScope st) s.heap.objs.size f cdv)) → sp vs H Q E →
      ∃ t, PSs (cxOf L2.CX0 P w K mg base N x (defScope st) f cdv A outer s H E).nox (defBody st) t ∧ t { nx := fun _ H' => Q .non H', rt := Q } (start N vs) H) :
    ∃ fd : FuncData, (∀ (s : Shared) (v : Value), BindsTo s fd ⟨[v], []⟩ [(p, v)]) ∧ ∀ base : Heap, K.In base → base.Ns mainGlobals mg → LamX.TabB base mg c PT → FnOk P w K mg base L2.CX0 (k + 1) fa fd [p] sp := by
  obtain ⟨f, fd, F, m, b⟩ := D.ex
  have e := hfa.symm.trans m
  cases e
  exact ⟨fd, fun s v => .of_eq (b [v] rfl), fun base _ _ TB => F.ok S len (hbody base TB fa)⟩

/-! ### methods that may raise -/
structure MetR (P : Program) (w : World) (K : PySem.W.Frag) (mg : Str → Option Value) (base : Heap) (k : Nat) (C : Addr) (m : Str) (sp : Sp) : Prop where
  ex : ∃ (f : Addr) (fd : FuncData) (ps : List Str), Cls K C ∧ Meth K C m f ∧ FnOk P w K mg base (L2.CX P w) k f fd ps sp ∧ Binds K fd ps []
theorem metR_of {P : Program} {w : World} {K : PySem.W.Frag} {mg : Str → Option Value} {base : Heap} {C : Addr} {m qual : Str} {st : Stmt} {N ps : List Str} {k : Nat} {sp : Sp} (c : Cls K C) (D : MetX K C m qual st ps) (S : FnScope N ps (defScope st)) (len : ∀ vs H Q E, sp vs H Q E → vs.length = ps.length)
    (hbody : ∀ (f : Addr) (cdv : Value) (A : Around) (outer : List Env) (s : Shared) (H : Hp) (vs : List V) (Q : VK) (E : XK), Room k (A.deeper (envOfC qual (defScope st) s.heap.objs.size f cdv)) → sp vs H Q E →
      ∃ t, PSs (cxOf (L2.CX P w) P w K mg base N qual (defScope st) f cdv A outer s H E) (defBody st) t ∧ t { nx := fun _ H' => Q .non H', rt := Q } (start N vs) H) : MetR P w K mg base (k + 1) C m sp := by
  obtain ⟨f, fd, F, me, b⟩ := D.ex
  exact ⟨f, fd, ps, c, me, F.okX S len (hbody f), .all b⟩
def tMethX (C : Addr) (m : Str) (sp : Sp) (E : L2.St → XK) (ta : TE) (t : TA) : TE := fun σ H Q => ta σ H fun x H1 => ∃ a dx fs, x = .ref a ∧ H1 a = some (.ins C dx fs) ∧ fs.lookup m = none ∧ t σ H1 fun vs H2 => sp (x :: vs) H2 Q (E σ)
section
variable {X : Cx} {k j : Nat} {C : Addr} {m : Str} {sp : Sp} {pos apos : Pos} {e o : Expr} {es : List Expr} {ta : TE} {t : TA} {W : WX}
theorem pe_mtx {pl : Sem Bool} (c : MetR X.prog X.w X.K X.mg X.base k C m sp) (tk : Takes X W) (hr : Room j X.A) (hk : k ≤ j) (he : PE X o ta) (ha : PA X (e :: es) t)
    (hst : starEach (e :: es) X.env = (false, eval e X.env) :: starEach es X.env := by rfl) (hpl : (backTo pos (starEach es X.env)).any (·.1) = false := by rfl)
    (ht : eval (.Call (.Attribute o m apos) (e :: es) [] pos) X.env = (do
      let ov ← eval o X.env
      standAt apos.atName
      let (f, first) ← holding [ov] (getMethod ov m pl)
      callWith pos f first (backTo pos (starEach (e :: es) X.env)) (backToKw pos (keywordEach [] X.env))) := by rfl) :
    PE X (.Call (.Attribute o m apos) (e :: es) [] pos) (tMethX C m sp (WE W) ta t) := by
  obtain ⟨f, fd, ps, hc, hm, F, b⟩ := c.ex
  refine ⟨fun pins s σ H Q I h => ?_⟩
  refine PySem.W.methodCall_KW (pl := pl) (thn (he.run pins s σ H _ I h) fun u s1 ⟨x, H1, I1, rx, a, dx, fs, ex, ea, l, q⟩ => ?_) ht
  subst ex
  obtain rfl : u = Value.ref a := rx
  refine getmeth_ok I1 ea hc hm l ?_
  refine PySem.W.callWith_K (first := [.ref a]) (h₀ := X.base) I.ok.mod.kin hm.kp (thn (ha.run pos pins s1 σ H1 _ I1 q) fun us s2 ⟨vs, H2, I2, r, q2⟩ => ⟨I2.kIn, ?_⟩) hst hpl
  exact run_fnS (us := .ref a :: us) (vs := .ref a :: vs) F (hr.mono hk) b (passAt tk σ) I2 (.cons rfl r) q2
end

/-! ### methods that may raise, called with defaults -/
structure MetRD (P : Program) (w : World) (K : PySem.W.Frag) (mg : Str → Option Value) (base : Heap) (k : Nat) (C : Addr) (m : Str) (sp : Sp) (dvs : List V) : Prop where
  ex : ∃ (f : Addr) (fd : FuncData) (ps : List Str) (ds : List Value), Cls K C ∧ Meth K C m f ∧ FnOk P w K mg base (L2.CX P w) k f fd ps sp ∧ Binds K fd ps ds ∧ Vals dvs ds
theorem MetR.d {P : Program} {w : World} {K : PySem.W.Frag} {mg : Str → Option Value} {base : Heap} {C : Addr} {m : Str} {k : Nat} {sp : Sp} (c : MetR P w K mg base k C m sp) : MetRD P w K mg base k C m sp [] := by
  obtain ⟨f, fd, ps, hc, hm, F, b⟩ := c.ex
  exact ⟨f, fd, ps, [], hc, hm, F, b, .nil⟩
theorem metRD_of {P : Program} {w : World} {K : PySem.W.Frag} {mg : Str → Option Value} {base : Heap} {C : Addr} {m qual : Str} {st : Stmt} {N ps : List Str} {dvs : List V} {k : Nat} {sp : Sp} (n j : Nat) (c : Cls K C) (D : MetD K C m qual st ps dvs) (hd : dvs ≠ []) (hn : n + (dvs.length - j) = ps.length)
    (hb : ∀ (T : Addr) (kV doc pm : Value) (an : Option Addr) (cdv ct : Value) (us its : List Value), us.length = n → its.length = dvs.length →
      ∃ k, bindArgs (PySem.W.fnOf m qual (defArgs st) (defBody st) (defScope st) (.ref T) kV doc pm an cdv ct) ⟨us, []⟩ = seqItems? (.ref T) >>= k ∧ k (some its.toArray) = pure (ps.zip (us ++ its.drop j)))
    (S : FnScope N ps (defScope st)) (len : ∀ vs H Q E, sp vs H Q E → vs.length = ps.length)
    (hbody : ∀ (f : Addr) (cdv : Value) (A : Around) (outer : List Env) (s : Shared) (H : Hp) (vs : List V) (Q : VK) (E : XK), Room k (A.deeper (envOfC qual (defScope st) s.heap.objs.size f cdv)) → sp vs H Q E →
      ∃ t, PSs (cxOf (L2.CX P w) P w K mg base N qual (defScope st) f cdv A outer s H E) (defBody st) t ∧ t { nx := fun _ H' => Q .non H', rt := Q } (start N vs) H) : MetRD P w K mg base (k + 1) C m sp (dvs.drop j) := by
  obtain ⟨f, fd, F, me⟩ := D.ex
  obtain ⟨ds, d, b⟩ := F.binds1 n j hd hn hb
  exact ⟨f, fd, ps, ds, c, me, F.ok S len (hbody f), b, d⟩
def tMethXD (C : Addr) (m : Str) (sp : Sp) (dvs : List V) (E : L2.St → XK) (ta : TE) (t : TA) : TE := fun σ H Q => ta σ H fun x H1 => ∃ a dx fs, x = .ref a ∧ H1 a = some (.ins C dx fs) ∧ fs.lookup m = none ∧ t σ H1 fun vs H2 => sp ((x :: vs) ++ dvs) H2 Q (E σ)
section
variable {X : Cx} {k j : Nat} {C : Addr} {m : Str} {sp : Sp} {dvs : List V} {pos apos : Pos} {e o : Expr} {es : List Expr} {ta : TE} {t : TA} {W : WX}
theorem pe_mtd {pl : Sem Bool} (c : MetRD X.prog X.w X.K X.mg X.base k C m sp dvs) (tk : Takes X W) (hr : Room j X.A) (hk : k ≤ j) (he : PE X o ta) (ha : PA X (e :: es) t)
    (hst : starEach (e :: es) X.env = (false, eval e X.env) :: starEach es X.env := by rfl) (hpl : (backTo pos (starEach es X.env)).any (·.1) = false := by rfl)
    (ht : eval (.Call (.Attribute o m apos) (e :: es) [] pos) X.env = (do
      let ov ← eval o X.env
      standAt apos.atName
      let (f, first) ← holding [ov] (getMethod ov m pl)
      callWith pos f first (backTo pos (starEach (e :: es) X.env)) (backToKw pos (keywordEach [] X.env))) := by rfl) :
    PE X (.Call (.Attribute o m apos) (e :: es) [] pos) (tMethXD C m sp dvs (WE W) ta t) := by
  obtain ⟨f, fd, ps, ds, hc, hm, F, b, d⟩ := c.ex
  refine ⟨fun pins s σ H Q I h => ?_⟩
  refine PySem.W.methodCall_KW (pl := pl) (thn (he.run pins s σ H _ I h) fun u s1 ⟨x, H1, I1, rx, a, dx, fs, ex, ea, l, q⟩ => ?_) ht
  subst ex
  obtain rfl : u = Value.ref a := rx
  refine getmeth_ok I1 ea hc hm l ?_
  refine PySem.W.callWith_K (first := [.ref a]) (h₀ := X.base) I.ok.mod.kin hm.kp (thn (ha.run pos pins s1 σ H1 _ I1 q) fun us s2 ⟨vs, H2, I2, r, q2⟩ => ⟨I2.kIn, ?_⟩) hst hpl
  exact run_fnSD (us := .ref a :: us) (vs := .ref a :: vs) F (hr.mono hk) b d (passAt tk σ) I2 (.cons rfl r) q2
theorem pe_mtd0 {pl : Sem Bool} (c : MetRD X.prog X.w X.K X.mg X.base k C m sp dvs) (tk : Takes X W) (hr : Room j X.A) (hk : k ≤ j) (he : PE X o ta)
    (ht : eval (.Call (.Attribute o m apos) [] [] pos) X.env = (do
      let ov ← eval o X.env
      standAt apos.atName
      let (f, first) ← holding [ov] (getMethod ov m pl)
      callWith pos f first (backTo pos (starEach [] X.env)) (backToKw pos (keywordEach [] X.env))) := by rfl) :
    PE X (.Call (.Attribute o m apos) [] [] pos) (tMethXD C m sp dvs (WE W) ta tNil) := by
  obtain ⟨f, fd, ps, ds, hc, hm, F, b, d⟩ := c.ex
  refine ⟨fun pins s σ H Q I h => ?_⟩
  refine PySem.W.methodCall_KW (pl := pl) (thn (he.run pins s σ H _ I h) fun u s1 ⟨x, H1, I1, rx, a, dx, fs, ex, ea, l, q⟩ => ?_) ht
  subst ex
  obtain rfl : u = Value.ref a := rx
  refine getmeth_ok I1 ea hc hm l ?_
  exact PySem.W.callWith_K0 (first := [.ref a]) I1.kIn hm.kp (run_fnSD (us := [.ref a]) (vs := [.ref a]) F (hr.mono hk) b d (passAt tk σ) I1 (.cons rfl .nil) q)
end

/-! ### C.m(self, ..) -/
structure CalM (P : Program) (w : World) (K : PySem.W.Frag) (mg : Str → Option Value) (base : Heap) (k : Nat) (C : Addr) (m : Str) (sp : Sp) : Prop where
  ex : ∃ (f : Addr) (fd : FuncData) (ps : List Str), ClX.CRead K C (.type "type") ∧ PySem.W.findCls K (.ref C) (.type "type") m = some (.val (.ref f)) ∧ PySem.W.keepIn K (.ref f) = true ∧ FnOk P w K mg base (L2.CX P w) k f fd ps sp ∧ Binds K fd ps []
theorem calM_of {P : Program} {w : World} {K : PySem.W.Frag} {mg : Str → Option Value} {base : Heap} {C : Addr} {x m qual : Str} {st : Stmt} {N ps : List Str} {k : Nat} {sp : Sp} (D : ClsM K mg C x m qual st ps) (S : FnScope N ps (defScope st)) (len : ∀ vs H Q E, sp vs H Q E → vs.length = ps.length)
    (hbody : ∀ (f : Addr) (cdv : Value) (A : Around) (outer : List Env) (s : Shared) (H : Hp) (vs : List V) (Q : VK) (E : XK), Room k (A.deeper (envOfC qual (defScope st) s.heap.objs.size f cdv)) → sp vs H Q E →
      ∃ t, PSs (cxOf (L2.CX P w) P w K mg base N qual (defScope st) f cdv A outer s H E) (defBody st) t ∧ t { nx := fun _ H' => Q .non H', rt := Q } (start N vs) H) : CalM P w K mg base (k + 1) C m sp := by
  obtain ⟨f, fd, r, a, F, kp, b⟩ := D.ex
  exact ⟨f, fd, ps, r, a, kp, F.okX S len (hbody f), .all b⟩
def tClsM (C : Addr) (sp : Sp) (E : L2.St → XK) (ta : TE) (t : TA) : TE := fun σ H Q => ta σ H fun x H1 => x = .ref C ∧ t σ H1 fun vs H2 => sp vs H2 Q (E σ)
/-- o.m(..), o of one of a few classes -/
def tMethA (cs : Addr → Sp → Prop) (m : Str) (E : L2.St → XK) (ta : TE) (t : TA) : TE := fun σ H Q => ta σ H fun x H1 => ∃ C sp a dx fs, cs C sp ∧ x = .ref a ∧ H1 a = some (.ins C dx fs) ∧ fs.lookup m = none ∧ t σ H1 fun vs H2 => sp (x :: vs) H2 Q (E σ)
section
variable {X : Cx} {k j : Nat} {C : Addr} {m : Str} {sp : Sp} {cs : Addr → Sp → Prop} {pos apos : Pos} {e o : Expr} {es : List Expr} {ta : TE} {t : TA} {W : WX}
theorem pe_clm {pl : Sem Bool} (c : CalM X.prog X.w X.K X.mg X.base k C m sp) (tk : Takes X W) (hr : Room j X.A) (hk : k ≤ j) (he : PE X o ta) (ha : PA X (e :: es) t)
    (hst : starEach (e :: es) X.env = (false, eval e X.env) :: starEach es X.env := by rfl) (hpl : (backTo pos (starEach es X.env)).any (·.1) = false := by rfl)
    (ht : eval (.Call (.Attribute o m apos) (e :: es) [] pos) X.env = (do
      let ov ← eval o X.env
      standAt apos.atName
      let (f, first) ← holding [ov] (getMethod ov m pl)
      callWith pos f first (backTo pos (starEach (e :: es) X.env)) (backToKw pos (keywordEach [] X.env))) := by rfl) :
    PE X (.Call (.Attribute o m apos) (e :: es) [] pos) (tClsM C sp (WE W) ta t) := by
  obtain ⟨f, fd, ps, r, at_, kp, F, b⟩ := c.ex
  refine ⟨fun pins s σ H Q I h => ?_⟩
  refine PySem.W.methodCall_KW (pl := pl) (thn (he.run pins s σ H _ I h) fun u s1 ⟨x, H1, I1, rx, ex, q⟩ => ?_) ht
  subst ex
  obtain rfl : u = Value.ref C := rx
  refine PySem.W.method_cls I1.kIn r.ga (PySem.W.cls_value I1.kIn r.rd at_ rfl ?_)
  have I2 := I1.tok (s1.toks + 1)
  refine PySem.W.callWith_K (first := []) (h₀ := X.base) I2.ok.mod.kin kp (thn (ha.run pos pins _ σ H1 _ I2 q) fun us s2 ⟨vs, H2, I3, r2, q2⟩ => ⟨I3.kIn, ?_⟩) hst hpl
  exact run_fnS (us := us) (vs := vs) F (hr.mono hk) b (passAt tk σ) I3 r2 q2
theorem pe_mta {pl : Sem Bool} (c : ∀ C sp, cs C sp → MetR X.prog X.w X.K X.mg X.base k C m sp) (tk : Takes X W) (hr : Room j X.A) (hk : k ≤ j) (he : PE X o ta) (ha : PA X (e :: es) t)
    (hst : starEach (e :: es) X.env = (false, eval e X.env) :: starEach es X.env := by rfl) (hpl : (backTo pos (starEach es X.env)).any (·.1) = false := by rfl)
    (ht : eval (.Call (.Attribute o m apos) (e :: es) [] pos) X.env = (do
      let ov ← eval o X.env
      standAt apos.atName
      let (f, first) ← holding [ov] (getMethod ov m pl)
      callWith pos f first (backTo pos (starEach (e :: es) X.env)) (backToKw pos (keywordEach [] X.env))) := by rfl) :
    PE X (.Call (.Attribute o m apos) (e :: es) [] pos) (tMethA cs m (WE W) ta t) := by
  refine ⟨fun pins s σ H Q I h => ?_⟩
  refine PySem.W.methodCall_KW (pl := pl) (thn (he.run pins s σ H _ I h) fun u s1 ⟨x, H1, I1, rx, C, sp, a, dx, fs, hc0, ex, ea, l, q⟩ => ?_) ht
  obtain ⟨f, fd, ps, hc, hm, F, b⟩ := (c C sp hc0).ex
  subst ex
  obtain rfl : u = Value.ref a := rx
  refine getmeth_ok I1 ea hc hm l ?_
  refine PySem.W.callWith_K (first := [.ref a]) (h₀ := X.base) I.ok.mod.kin hm.kp (thn (ha.run pos pins s1 σ H1 _ I1 q) fun us s2 ⟨vs, H2, I2, r, q2⟩ => ⟨I2.kIn, ?_⟩) hst hpl
  exact run_fnS (us := .ref a :: us) (vs := .ref a :: vs) F (hr.mono hk) b (passAt tk σ) I2 (.cons rfl r) q2
end

/-! ### raising where nothing is handled, its context told; raising and calls while an exception is handled -/
section
variable {P : Program} {w : World} {K : PySem.W.Frag} {mg : Str → Option Value} {base : Heap}
theorem pmk_ownN {X : Cx} {C : Addr} {bmB : List Value} {B newId initId : String} {x m : Str} {j : Nat} {p p2 pos : Pos} (F : ExcBaseFacts B newId initId bmB) (hq : PySem.W.excIn X.K C bmB newId = true) (gC : X.mg x = some (.ref C)) (kC : PySem.W.keepIn X.K (.ref C) = true)
    (r : Raises X (.ref C)) (hg : Gl X x) (hdb : (x == ("__debug__" : Str)) = false := by decide) : L2N.PMk X (.Call (.Name x p) [.Constant (.str m) j p2] [] pos) (fun _ H Q => Q (.ref C) none H) := fun pins s σ H Q I h =>
  wpAny_Call_Name_kw (ld_glob I hg gC (PySem.W.callWith_K (h₀ := X.base) I.ok.mod.kin kC (thn ((pa_cons (pe_str (X := X) (x := m)) pa_nil).run pos pins s σ H (fun vs H1 => vs = [V.str m] ∧ H = H1) I ⟨rfl, rfl⟩) fun us s1 ⟨vs, H1, I1, r1, ev, eH⟩ => by
    subst ev eH
    refine ⟨I1.kIn, ?_⟩
    rcases r1 with _ | ⟨ru, rn⟩
    rcases rn with _ | _
    obtain ⟨_, _, _, _, _, _, _, _, _, _, _, _, _, _, _, _, mN, hC, hN, hni, T⟩ := exc_obj I1.kIn hq
    exact wpAny_call_exc_subT F T hC hN hni (fun h' e hm => L2N.mk_of I1 hm r h (I1.hok.gone hm.new)) (by show 1 ≤ sizeLine; rw [sizeLine_eq]; omega))) hdb)
/-- a method that may raise, cold; what it raises has no context -/
structure MetN (P : Program) (w : World) (K : PySem.W.Frag) (mg : Str → Option Value) (base : Heap) (k : Nat) (C : Addr) (m : Str) (sp : Sp) : Prop where
  ex : ∃ (f : Addr) (fd : FuncData) (ps : List Str), Cls K C ∧ Meth K C m f ∧ FnOk P w K mg base (L2N.CX P w) k f fd ps sp ∧ Binds K fd ps []
theorem metN_of {C : Addr} {m qual : Str} {st : Stmt} {N ps : List Str} {k : Nat} {sp : Sp} (c : Cls K C) (D : MetX K C m qual st ps) (S : FnScope N ps (defScope st)) (len : ∀ vs H Q E, sp vs H Q E → vs.length = ps.length)
    (hbody : ∀ (f : Addr) (cdv : Value) (A : Around) (outer : List Env) (s : Shared) (H : Hp) (vs : List V) (Q : VK) (E : XK), Room k (A.deeper (envOfC qual (defScope st) s.heap.objs.size f cdv)) → sp vs H Q E →
      ∃ t, PSs (cxOf (L2N.CX P w) P w K mg base N qual (defScope st) f cdv A outer s H E) (defBody st) t ∧ t { nx := fun _ H' => Q .non H', rt := Q } (start N vs) H) : MetN P w K mg base (k + 1) C m sp := by
  obtain ⟨f, fd, F, me, b⟩ := D.ex
  obtain ⟨oc, od, kV, doc, pm, an, cdv, ct, osl, rfl, lk, hcd⟩ := F.ex
  exact ⟨f, _, ps, c, me, fn_of lk hcd S len (hbody f cdv), .all b⟩
theorem MetN.weak {C : Addr} {m : Str} {k : Nat} {sp : Sp} (c : MetN P w K mg base k C m sp) : MetR P w K mg base k C m sp := by
  obtain ⟨f, fd, ps, hc, hm, F, b⟩ := c.ex
  refine ⟨f, fd, ps, hc, hm, ⟨F.len, fun A outer s H args us vs Q E hr e0 hb hv hsp => codeAny_mono (F.run A outer s H args us vs Q E hr e0 hb hv hsp) fun r s' q => ?_⟩, b⟩
  cases r with
  | ok fl =>
    cases fl <;> exact q
  | error e =>
    obtain ⟨a, B, H', cls, d, rfl, fl, more⟩ := q
    exact ⟨a, B, H', cls, d, rfl, L2H.flyingZ_imp (fun _ z => z.zc) fl, more⟩
theorem passAtN {X : Cx} {W : WX} (tk : L2N.Takes X W) (σ : L2.St) : PassesAt (L2N.CX X.prog X.w) X σ (WE W σ) := fun _ _ _ e s' I c => tk e s' (L2N.XE.of_call I (fun _ _ _ h => h) c)
section
variable {X : Cx} {k j : Nat} {C : Addr} {x m : Str} {sp : Sp} {p pos apos : Pos} {e o : Expr} {es : List Expr} {ta : TE} {t : TA} {W : WX}
theorem pe_mtn {pl : Sem Bool} (c : MetN X.prog X.w X.K X.mg X.base k C m sp) (tk : L2N.Takes X W) (hr : Room j X.A) (hk : k ≤ j) (he : PE X o ta) (ha : PA X (e :: es) t)
    (hst : starEach (e :: es) X.env = (false, eval e X.env) :: starEach es X.env := by rfl) (hpl : (backTo pos (starEach es X.env)).any (·.1) = false := by rfl)
    (ht : eval (.Call (.Attribute o m apos) (e :: es) [] pos) X.env = (do
      let ov ← eval o X.env
      standAt apos.atName
      let (f, first) ← holding [ov] (getMethod ov m pl)
      callWith pos f first (backTo pos (starEach (e :: es) X.env)) (backToKw pos (keywordEach [] X.env))) := by rfl) :
    PE X (.Call (.Attribute o m apos) (e :: es) [] pos) (tMethX C m sp (WE W) ta t) := by
  obtain ⟨f, fd, ps, hc, hm, F, b⟩ := c.ex
  refine ⟨fun pins s σ H Q I h => PySem.W.methodCall_KW (pl := pl) (thn (he.run pins s σ H _ I h) fun u s1 ⟨x, H1, I1, rx, a, dx, fs, ex, ea, l, q⟩ => ?_) ht⟩
  subst ex
  obtain rfl : u = Value.ref a := rx
  exact getmeth_ok I1 ea hc hm l (PySem.W.callWith_K (first := [.ref a]) (h₀ := X.base) I.ok.mod.kin hm.kp (thn (ha.run pos pins s1 σ H1 _ I1 q) fun us s2 ⟨vs, H2, I2, r, q2⟩ => ⟨I2.kIn, run_fnS (us := .ref a :: us) (vs := .ref a :: vs) F (hr.mono hk) b (passAtN tk σ) I2 (.cons rfl r) q2⟩) hst hpl)
theorem ps_raiseXN {j : Nat} {p2 p3 : Pos} (F : ExcF X.K C) (gC : X.mg x = some (.ref C)) (hc : X.calm = true) (tk : L2N.Takes X W) (hg : Gl X x) (hdb : (x == ("__debug__" : Str)) = false := by decide) :
    PS X (.Raise (some (.Call (.Name x p) [.Constant (.str m) j p2] [] p3)) none pos) (fun _ σ H => W (.ref C) none σ H) :=
  L2N.ps_raise hc tk (pmk_ownN PySem.F.excBase_ValueError F.xP gC F.kP (raises_own F.bP F.tP) hg hdb)
theorem ps_raiseXH {j : Nat} {p2 p3 : Pos} (F : ExcF X.K C) (gC : X.mg x = some (.ref C)) (hot : L2H.HotC X) (tk : Takes X W) (hg : Gl X x) (hdb : (x == ("__debug__" : Str)) = false := by decide) :
    PS X (.Raise (some (.Call (.Name x p) [.Constant (.str m) j p2] [] p3)) none pos) (fun _ σ H => W (.ref C) none σ H) :=
  L2H.ps_raiseH hot tk (pmk_ownN PySem.F.excBase_ValueError F.xP gC F.kP (raises_own F.bP F.tP) hg hdb)
theorem hot_tr {pn : List (Addr × Obj)} {xe : Value → Shared → Prop} (h : L2H.HotC X) (hq : ∀ q ∈ X.pn, q ∈ pn) : L2H.HotC (X.tr pn xe) := by
  obtain ⟨q, a, b⟩ := h
  exact ⟨q, a, hq q b⟩
theorem hot_suite {a : Addr} {oe : Obj} {cls : Value} {d : Option Addr} {pn : List (Addr × Obj)} (hz : L2N.Zn cls d oe) (hf : ∃ vs, oe.data = .fields vs) : L2H.HotC (X.suite a ((a, oe) :: pn)) := by
  obtain ⟨vs, e⟩ := hf
  exact ⟨(a, oe), ⟨rfl, vs, e, hz.2.2 vs e⟩, List.mem_cons_self⟩
end
/-- a method called while an exception is handled -/
structure MetH (P : Program) (w : World) (K : PySem.W.Frag) (mg : Str → Option Value) (base : Heap) (k : Nat) (C : Addr) (m : Str) (sp : Sp) : Prop where
  ex : ∃ (f : Addr) (fd : FuncData) (ps : List Str), Cls K C ∧ Meth K C m f ∧ L2H.FnH P w K mg base (L2.CX P w) k f fd ps sp ∧ Binds K fd ps []
theorem metH_of {C : Addr} {m qual : Str} {st : Stmt} {N ps : List Str} {k : Nat} {sp : Sp} (c : Cls K C) (D : MetX K C m qual st ps) (S : FnScope N ps (defScope st)) (len : ∀ vs H Q E, sp vs H Q E → vs.length = ps.length)
    (hbody : ∀ (f : Addr) (cdv : Value) (A : Around) (outer : List Env) (s : Shared) (H : Hp) (vs : List V) (Q : VK) (E : XK) (p : Addr × Obj), L2H.Hot1 A p → L2H.RoomH k (A.deeper (envOfC qual (defScope st) s.heap.objs.size f cdv)) → sp vs H Q E →
      ∃ t, PSs (L2H.cxH (L2.CX P w) P w K mg base N qual (defScope st) f cdv A outer s H E p) (defBody st) t ∧ t { nx := fun _ H' => Q .non H', rt := Q } (start N vs) H) : MetH P w K mg base (k + 1) C m sp := by
  obtain ⟨f, fd, F, me, b⟩ := D.ex
  obtain ⟨oc, od, kV, doc, pm, an, cdv, ct, osl, rfl, lk, hcd⟩ := F.ex
  exact ⟨f, _, ps, c, me, L2H.fn_ofH lk hcd S len (hbody f cdv), .all b⟩
/-- a def called while an exception is handled -/
structure CalH (P : Program) (w : World) (K : PySem.W.Frag) (mg : Str → Option Value) (base : Heap) (k : Nat) (x : Str) (sp : Sp) : Prop where
  ex : ∃ (f : Addr) (fd : FuncData) (ps : List Str), L2H.FnH P w K mg base L2.CX0 k f fd ps sp ∧ mg x = some (.ref f) ∧ PySem.W.keepIn K (.ref f) = true ∧ Binds K fd ps []
theorem calH_of {x : Str} {st : Stmt} {N ps : List Str} {k : Nat} {sp : Sp} (D : DefX K mg x st ps) (S : FnScope N ps (defScope st)) (len : ∀ vs H Q E, sp vs H Q E → vs.length = ps.length)
    (hbody : ∀ (f : Addr) (cdv : Value) (A : Around) (outer : List Env) (s : Shared) (H : Hp) (vs : List V) (Q : VK) (E : XK) (p : Addr × Obj), L2H.Hot1 A p → L2H.RoomH k (A.deeper (envOfC x (defScope st) s.heap.objs.size f cdv)) → sp vs H Q E →
      ∃ t, PSs (L2H.cxH L2.CX0 P w K mg base N x (defScope st) f cdv A outer s H E p).nox (defBody st) t ∧ t { nx := fun _ H' => Q .non H', rt := Q } (start N vs) H) : CalH P w K mg base (k + 1) x sp := by
  obtain ⟨f, fd, F, me, b⟩ := D.ex
  have kp := F.kp
  obtain ⟨oc, od, kV, doc, pm, an, cdv, ct, osl, rfl, lk, hcd⟩ := F.ex
  refine ⟨f, _, ps, L2H.fn_ofH lk hcd S len (fun A outer s H vs Q E p h1 hr hsp => ?_), me, kp, .all b⟩
  obtain ⟨t, g1, g2⟩ := hbody f cdv A outer s H vs Q E p h1 hr hsp
  exact ⟨t, g1.nox, g2⟩
section
variable {X : Cx} {k j : Nat} {C : Addr} {x m : Str} {sp : Sp} {p pos apos : Pos} {e o : Expr} {es : List Expr} {ta : TE} {t : TA} {W : WX}
theorem pe_mth {pl : Sem Bool} (c : MetH X.prog X.w X.K X.mg X.base k C m sp) (hot : L2H.HotC X) (tk : Takes X W) (hr : L2H.RoomH j X.A) (hk : k ≤ j) (he : PE X o ta) (ha : PA X (e :: es) t)
    (hst : starEach (e :: es) X.env = (false, eval e X.env) :: starEach es X.env := by rfl) (hpl : (backTo pos (starEach es X.env)).any (·.1) = false := by rfl)
    (ht : eval (.Call (.Attribute o m apos) (e :: es) [] pos) X.env = (do
      let ov ← eval o X.env
      standAt apos.atName
      let (f, first) ← holding [ov] (getMethod ov m pl)
      callWith pos f first (backTo pos (starEach (e :: es) X.env)) (backToKw pos (keywordEach [] X.env))) := by rfl) :
    PE X (.Call (.Attribute o m apos) (e :: es) [] pos) (L2H.tMethH C m sp (WE W) ta t) := by
  obtain ⟨f, fd, ps, hc, hm, F, b⟩ := c.ex
  exact L2H.pe_methH (pl := pl) he hc hm F (hr.mono hk) hot b (fun σ => passAt tk σ) ha hst hpl ht
theorem pe_cH (c : CalH X.prog X.w X.K X.mg X.base k x sp) (hot : L2H.HotC X) (hr : L2H.RoomH j X.A) (hk : k ≤ j) (hg : Gl X x) (ha : PA X (e :: es) t)
    (hdb : (x == ("__debug__" : Str)) = false := by decide) (he : starEach (e :: es) X.env = (false, eval e X.env) :: starEach es X.env := by rfl) (hpl : (backTo pos (starEach es X.env)).any (·.1) = false := by rfl) :
    PE X (.Call (.Name x p) (e :: es) [] pos) (tCallS sp (fun _ => L2.E0) t) := by
  obtain ⟨f, fd, ps, F, m, kp, b⟩ := c.ex
  exact L2H.pe_callH F (hr.mono hk) hot hg m kp b (fun σ _ _ _ _ _ _ z => False.elim z) ha hdb he hpl
end
end
theorem takesN0 {X : Cx} : L2N.Takes X (fun _ _ _ _ => False) := fun _ _ ⟨_, _, _, _, _, _, _, _, _, _, _, _, _, _, _, _, z⟩ => z.elim
theorem roomH_suite {X : Cx} {k : Nat} {a : Addr} {pn : List (Addr × Obj)} (h : Room k X.A) : L2H.RoomH k (X.suite a pn).A := ⟨h.dp, h.un⟩

section
variable {P : Program} {w : World} {K : PySem.W.Frag} {mg : Str → Option Value} {base : Heap}
theorem ps_imp {X : Cx} {st : Stmt} {t t' : TS} (h : PS X st t) (i : ∀ D σ H, t' D σ H → t D σ H) : PS X st t' := ⟨fun pins s σ H D I q => h.run pins s σ H D I (i D σ H q)⟩
section
variable {X : Cx} {C : Addr} {x : Str} {e : Expr} {es : List Expr} {te : TE} {ta : TA} {p p1 p2 pos : Pos}
/-- B.__init__(self, ..) of such a class B -/
theorem pe_beinit {pl : Sem Bool} (hg : Gl X x) (gC : X.mg x = some (.ref C)) (b1 : PySem.W.specialIn X.K (.ref C) "__getattribute__" = some (some (.builtin "type.__getattribute__"))) (b2 : PySem.W.readsIn X.K C (.type "type") = true)
    (b3 : PySem.W.findCls X.K (.ref C) (.type "type") "__init__" = some (.val (.builtin "ValueError.__init__"))) (ha : PA X (e :: es) ta) (hdb : (x == ("__debug__" : Str)) = false := by decide)
    (hc : eval (.Call (.Attribute (.Name x p1) "__init__" p2) (e :: es) [] pos) X.env = (do
      let ov ← eval (.Name x p1) X.env
      standAt p2.atName
      let (f, first) ← holding [ov] (getMethod ov "__init__" pl)
      callWith pos f first (backTo pos (starEach (e :: es) X.env)) (backToKw pos (keywordEach [] X.env))) := by rfl)
    (he : starEach (e :: es) X.env = (false, eval e X.env) :: starEach es X.env := by rfl) (hpl : (backTo pos (starEach es X.env)).any (·.1) = false := by rfl) :
    PE X (.Call (.Attribute (.Name x p1) "__init__" p2) (e :: es) [] pos) (tVeI X.K ta) := by
  refine ⟨fun pins s σ H Q I h => PySem.W.methodCall_KW (ld_glob I hg gC (PySem.W.method_cls I.kIn b1 (PySem.W.cls_value I.kIn b2 b3 (by decide +kernel) ?_)) hdb) hc⟩
  show wpAny _ _ (callWith pos (Value.builtin "ValueError.__init__") [] (backTo pos (starEach (e :: es) X.env)) []) _ _ _
  refine PyProof.Rows.callWith_method1 (thn (ha.run pos pins _ σ H _ (I.tok _) h) fun us s1 ⟨vs, H1, I1, r1, a, D, ws, ev, hl, T, ea, q⟩ => ?_) he hpl
  subst ev
  rcases r1 with _ | ⟨ra, rw'⟩
  obtain rfl := ra
  exact oinit_ok T I1 ea (by rw [← Paired.length rw', sizeLine_eq]; omega) fun s' J => ⟨.non, H1, J, rfl, q⟩
end
/-- C(e) cold, its context told -/
theorem pmk_oexN {X : Cx} {CX : CXT} {x : Str} {e : Expr} {es : List Expr} {ta : TA} {p pos : Pos} {C fI : Addr} {k : Nat} {fd : FuncData} {ps : List Str} {sp : Sp} (T : OexC X.K C) (iC : PySem.W.findIn X.K (.ref C) "__init__" = some (some (.ref fI))) (tI : PySem.W.typeIn X.K (.ref fI) = some (.type "function"))
    (F1 : FnOk X.prog X.w X.K X.mg X.base CX k fI fd ps sp) (hr : Room (k + 1) X.A) (hb : Binds X.K fd ps []) (hx : Passes CX X (fun _ _ _ => False)) (hg : Gl X x) (hm : X.mg x = some (.ref C)) (ha : PA X (e :: es) ta)
    (hdb : (x == ("__debug__" : Str)) = false := by decide) (he : starEach (e :: es) X.env = (false, eval e X.env) :: starEach es X.env := by rfl) (hpl : (backTo pos (starEach es X.env)).any (·.1) = false := by rfl) :
    L2N.PMk X (.Call (.Name x p) (e :: es) [] pos) (tMkO C sp [] ta) := by
  intro pins s σ H Q I h
  obtain ⟨_, _, _, _, bm, _, _, _, _, _, _, _, _, _, _, lC, rbm⟩ := T.cls
  refine wpAny_Call_Name_kw (ld_glob I hg hm (PySem.W.callWith_K (h₀ := X.base) I.ok.mod.kin T.kC (thn (ha.run pos pins s σ H _ I h) fun us s1 ⟨vs, H1, I1, r1, hz, q1⟩ => ⟨I1.kIn, ?_⟩) he hpl) hdb)
  obtain ⟨hp, g, dr, tk, os⟩ := s1
  have big : hp.objs.size ≤ hp.objs.size + 1 := Nat.le_succ _
  have hq := q1 (hp.objs.size + 1) (I1.hok.fresh big)
  rw [List.append_nil] at hq
  have keep : ∀ b o, hp.get? b = some o → ((hp.push (PySem.W.kdv_tup us)).push (PySem.HandSPX.excO C hp.objs.size)).get? b = some o := fun b o z => Heap.get?_push_of_some _ (Heap.get?_push_of_some _ z)
  have at1 : ((hp.push (PySem.W.kdv_tup us)).push (PySem.HandSPX.excO C hp.objs.size)).get? (hp.objs.size + 1) = some (PySem.HandSPX.excO C hp.objs.size) := by heap_get
  have I2 : Inv X pins σ (upd H1 (hp.objs.size + 1) (exo (hp.objs.size + 1) C none)) ⟨((hp.push (PySem.W.kdv_tup us)).push (PySem.HandSPX.excO C hp.objs.size)), g, dr, tk, os⟩ := I1.laid (t' := tk) (a := hp.objs.size + 1) (o := exo (hp.objs.size + 1) C none) (h' := ((hp.push (PySem.W.kdv_tup us)).push (PySem.HandSPX.excO C hp.objs.size))) keep big (exo_ok at1)
  have rv2 : Vals (V.ref (hp.objs.size + 1) :: vs) (Value.ref (hp.objs.size + 1) :: us) := .cons rfl r1
  have len2 : (Value.ref (hp.objs.size + 1) :: us ++ []).length = ps.length := by
    rw [List.append_nil, ← F1.len _ _ _ _ hq]
    exact rv2.length.symm
  have few : us.length ≤ sizeLine := by
    rw [← Paired.length r1, sizeLine_eq]
    omega
  have bnd := hb _ (Value.ref (hp.objs.size + 1) :: us) I2.kIn len2
  rw [List.append_nil] at bnd
  refine wpAny_call (PySem.HandSPX.call_own F.excBase_ValueError (fun Y => PySem.HandSPX.refsVE_contains Y bm rbm) (I1.kIn _ _ lC) (PySem.W.looks_findIn I1.kIn iC) (fun self => PySem.W.bind_fn I1.kIn self tI) few
    (codeAny_mono (F1.run _ X.stack _ _ ⟨Value.ref (hp.objs.size + 1) :: us, []⟩ (Value.ref (hp.objs.size + 1) :: us) _ _ (fun _ _ _ => False) (hr.make C us []) (I2.env0.make C us []) bnd rv2 hq) fun r sE done => ?_))
  rcases r with er | fl
  · exact hx pins σ _ _ er sE I2 done
  cases fl with
  | next => exact False.elim done
  | brk => exact False.elim done
  | cont => exact False.elim done
  | ret u =>
    obtain ⟨v, H2, os2, bare2, un2, hok2, rv, ev, d, fs, ea, ed, hd1, q2⟩ := done
    subst ev
    obtain ⟨h2, g2, d2, t2, os'⟩ := sE
    obtain ⟨t0, G, J, kG, ge, hoe, na⟩ := mk_end0 (d2 := d2) (t2 := t2) I1 big keep un2 hok2 os2 bare2 ea ed hd1
    exact ⟨rv, hp.objs.size + 1, _, _, ⟨G, g2, d2, t2, os'⟩, _, .ref C, some d, rfl, J, kG, ge, hoe, ⟨rfl, rfl, fun vs hv => by cases hv; rfl⟩, rfl, rfl, na, rfl, bare2, raises_own T.exC T.tyC, q2⟩
/-! ### the error's __init__, and raising it -/
def spExI (C : Addr) (fld : Str) : Sp := fun vs H Q _ => ∃ (a : Addr) (i : Int), vs = [.ref a, .int i] ∧ 0 ≤ i ∧ i < 1000000 ∧ H a = some (exo a C none) ∧ ∀ dx, H dx = none → dx ≠ a → Q .non (upd (upd H dx (exd dx [(fld, .int i)])) a (exo a C (some dx)))
/-- what raise C(e) asks -/
def tRzI (W : WX) (C : Addr) (fld : Str) (te : TE) : TS := fun _ σ H => te σ H fun v H1 => ∃ i : Int, v = .int i ∧ 0 ≤ i ∧ i < 1000000 ∧ ∀ dx, H1 dx = none → W (.ref C) (some dx) σ (upd H1 dx (.xd [(fld, .int i)]))
theorem rz_of {W : WX} {C : Addr} {fld : Str} {te : TE} (hte : ∀ σ H (Q Q' : VK), (∀ v H', Q v H' → Q' v H') → te σ H Q → te σ H Q') {D : Ends} {σ : L2.St} {H : Hp} (h : tRzI W C fld te D σ H) : tMkO C (spExI C fld) [] (tCons te tNil) σ H (fun cls d H' => W cls d σ H') := by
  refine hte σ H _ _ (fun v H1 q => ?_) h
  obtain ⟨i, rfl, h0, h1, q⟩ := q
  refine ⟨by show 1 ≤ 1000; decide, fun a na => ⟨a, i, rfl, h0, h1, upd_same, fun dx ndx hne => ?_⟩⟩
  have nd1 : H1 dx = none := by rwa [upd_ne hne] at ndx
  refine ⟨rfl, dx, _, upd_same, by rw [upd_ne hne]; exact upd_same, nd1, ?_⟩
  have e : upd (del (upd (upd (upd H1 a (exo a C none)) dx (exd dx [(fld, .int i)])) a (exo a C (some dx))) a) dx (.xd [(fld, .int i)]) = upd H1 dx (.xd [(fld, .int i)]) := by
    funext b
    by_cases c1 : b = dx
    · rw [c1, upd_same, upd_same]
    · rw [upd_ne c1, upd_ne c1]
      by_cases c2 : b = a
      · rw [c2, del_same, na]
      · rw [del_ne c2, upd_ne c2, upd_ne c1, upd_ne c2]
  rw [e]
  exact q dx nd1
section
variable {X : Cx} {x bx fld qual : Str} {st : Stmt} {ps : List Str} {C B : Addr} {e : Expr} {te : TE} {p p2 pos pos' : Pos} {W : WX}
theorem ps_raiseIN {j : Nat} (EI : ExcI X.K X.mg x bx fld qual st ps C B) (F : ∀ fI fd, L2.Fun X.K "__init__" qual st fI fd → FnOk X.prog X.w X.K X.mg X.base L2.CX0 1 fI fd ps (spExI C fld)) (hr : Room j X.A) (hj : 2 ≤ j) (hcl : X.calm = true) (tk : L2N.Takes X W) (hg : Gl X x) (he : PE X e te)
    (hte : ∀ σ H (Q Q' : VK), (∀ v H', Q v H' → Q' v H') → te σ H Q → te σ H Q') (hdb : (x == ("__debug__" : Str)) = false := by decide) (hst : starEach [e] X.env = (false, eval e X.env) :: starEach [] X.env := by rfl) (hpl : (backTo pos (starEach [] X.env)).any (·.1) = false := by rfl) :
    PS X (.Raise (some (.Call (.Name x p) [e] [] pos)) none pos') (tRzI W C fld te) := by
  obtain ⟨fI, fd, Fu, iC, tI, b⟩ := EI.ini
  exact ps_imp (L2N.ps_raise hcl tk (pmk_oexN EI.T iC tI (F fI fd Fu) (hr.mono hj) (.all b) (fun _ _ _ _ _ _ _ z => z.elim) hg EI.gC (pa_cons he pa_nil hst) hdb hst hpl)) fun D σ H q => rz_of hte q
theorem ps_raiseIH {j : Nat} (EI : ExcI X.K X.mg x bx fld qual st ps C B) (F : ∀ fI fd, L2.Fun X.K "__init__" qual st fI fd → L2H.FnH X.prog X.w X.K X.mg X.base L2.CX0 1 fI fd ps (spExI C fld)) (hr : L2H.RoomH j X.A) (hj : 2 ≤ j) (hot : L2H.HotC X) (tk : Takes X W) (hg : Gl X x) (he : PE X e te)
    (hte : ∀ σ H (Q Q' : VK), (∀ v H', Q v H' → Q' v H') → te σ H Q → te σ H Q') (hdb : (x == ("__debug__" : Str)) = false := by decide) (hst : starEach [e] X.env = (false, eval e X.env) :: starEach [] X.env := by rfl) (hpl : (backTo pos (starEach [] X.env)).any (·.1) = false := by rfl) :
    PS X (.Raise (some (.Call (.Name x p) [e] [] pos)) none pos') (tRzI W C fld te) := by
  obtain ⟨fI, fd, Fu, iC, tI, b⟩ := EI.ini
  exact ps_imp (L2H.ps_raiseH hot tk (L2H.pmk5_oexH EI.T iC tI (F fI fd Fu) (hr.mono hj) hot (.all b) (fun _ _ _ _ _ _ _ z => z.elim) hg EI.gC (pa_cons he pa_nil hst) hdb hst hpl).pmk) fun D σ H q => rz_of hte q
end
end

/-- a def that may raise, cold; what it raises has no context -/
structure CalN (P : Program) (w : World) (K : PySem.W.Frag) (mg : Str → Option Value) (base : Heap) (k : Nat) (x : Str) (sp : Sp) : Prop where
  ex : ∃ (f : Addr) (fd : FuncData) (ps : List Str), FnOk P w K mg base (L2N.CX P w) k f fd ps sp ∧ mg x = some (.ref f) ∧ PySem.W.keepIn K (.ref f) = true ∧ Binds K fd ps []
theorem calN_of {P : Program} {w : World} {K : PySem.W.Frag} {mg : Str → Option Value} {base : Heap} {x : Str} {st : Stmt} {N ps : List Str} {k : Nat} {sp : Sp} (D : DefX K mg x st ps) (S : FnScope N ps (defScope st)) (len : ∀ vs H Q E, sp vs H Q E → vs.length = ps.length)
    (hbody : ∀ (f : Addr) (cdv : Value) (A : Around) (outer : List Env) (s : Shared) (H : Hp) (vs : List V) (Q : VK) (E : XK), Room k (A.deeper (envOfC x (defScope st) s.heap.objs.size f cdv)) → sp vs H Q E →
      ∃ t, PSs (cxOf (L2N.CX P w) P w K mg base N x (defScope st) f cdv A outer s H E) (defBody st) t ∧ t { nx := fun _ H' => Q .non H', rt := Q } (start N vs) H) : CalN P w K mg base (k + 1) x sp := by
  obtain ⟨f, fd, F, m, b⟩ := D.ex
  have kp := F.kp
  obtain ⟨oc, od, kV, doc, pm, an, cdv, ct, osl, rfl, lk, hcd⟩ := F.ex
  exact ⟨f, _, ps, fn_of lk hcd S len (hbody f cdv), m, kp, .all b⟩
theorem CalN.weak {P : Program} {w : World} {K : PySem.W.Frag} {mg : Str → Option Value} {base : Heap} {x : Str} {k : Nat} {sp : Sp} (c : CalN P w K mg base k x sp) : CalX P w K mg base k x sp := by
  obtain ⟨f, fd, ps, F, m, kp, b⟩ := c.ex
  refine ⟨f, fd, ps, ⟨F.len, fun A outer s H args us vs Q E hr e0 hb hv hsp => codeAny_mono (F.run A outer s H args us vs Q E hr e0 hb hv hsp) fun r s' q => ?_⟩, m, kp, b⟩
  cases r with
  | ok fl =>
    cases fl <;> exact q
  | error e =>
    obtain ⟨a, B, H', cls, d, rfl, fl, more⟩ := q
    exact ⟨a, B, H', cls, d, rfl, L2H.flyingZ_imp (fun _ z => z.zc) fl, more⟩
/-- x(..) of such a def, within what takes W -/
theorem pe_cn {X : Cx} {k j : Nat} {x : Str} {sp : Sp} {W : WX} {t : TA} {e : Expr} {es : List Expr} {p pos : Pos} (c : CalN X.prog X.w X.K X.mg X.base k x sp) (tk : L2N.Takes X W) (hr : Room j X.A) (hk : k ≤ j) (hg : Gl X x) (ha : PA X (e :: es) t)
    (hdb : (x == ("__debug__" : Str)) = false := by decide) (he : starEach (e :: es) X.env = (false, eval e X.env) :: starEach es X.env := by rfl) (hpl : (backTo pos (starEach es X.env)).any (·.1) = false := by rfl) :
    PE X (.Call (.Name x p) (e :: es) [] pos) (tCallS sp (WE W) t) := by
  obtain ⟨f, fd, ps, F, m, kp, b⟩ := c.ex
  exact pe_callS F (hr.mono hk) hg m kp b (fun σ => passAtN tk σ) ha hdb he hpl

/-! ### try .. except X: (a suite that may raise) .. else -/
section
variable {X : Cx} {x : Str} {c : Value} {body more orelse : List Stmt} {st0 : Stmt} {np q0 q1 : Pos} {tb : WX → TS} {ts : Addr → Value → Option Addr → TS} {Wo : WX} {u : TS}
theorem ps_try_onlyXE (ho : PSs X orelse u) (hs : X.stack = X.env :: X.outer) (hf : X.env.frame = some X.env.locals) (hc : Names X x c) (hpa : ∀ hd : Option Value, PassesOwnAt (model X.prog X.w) (X.A.mark hd) X.A X.env X.xe) (tk : Takes X Wo)
    (hb : ∀ (W : WX) (pn : List (Addr × Obj)) (xe : Value → Shared → Prop), L2N.Takes (X.tr pn xe) W → PassesOwn (model X.prog X.w) X.A X.env xe → PSs (X.tr pn xe) body (tb W))
    (hsu : ∀ (a : Addr) (oe : Obj) (cls : Value) (d : Option Addr) (pn : List (Addr × Obj)), L2N.Zn cls d oe → (∃ vs, oe.data = .fields vs) → Takes (L2H.suiteX X a ((a, oe) :: pn)) Wo → L2H.HotC (L2H.suiteX X a ((a, oe) :: pn)) →
      PSs (L2H.suiteX X a ((a, oe) :: pn)) (st0 :: more) (ts a cls d)) :
    PS X (.Try body [.ExceptHandler (some (.Name x np)) none (st0 :: more) q1] orelse [] q0) (fun D σ H => tb (wOnly X.K c ts Wo D) { D with nx := u D } σ H) := by
  refine ⟨fun pins s0 σ H D I0 h0 => wpAny_Try_except ?_⟩
  have ok := I0.ok
  have frE : X.A.frames = some (X.env :: X.outer) := ok.frames.trans (congrArg some hs)
  let look : Value → Shared → Prop := fun e s₁ => wpAny (model X.prog X.w) X.A (noteFrame e X.env) (fun _ s₂ =>
    wpAny (model X.prog X.w) X.A (setFlight e none) (fun _ s₃ => wpAny (model X.prog X.w) X.A (handleBy e X.env
      [.ExceptHandler (some (.Name x np)) none (st0 :: more) q1]) (SP X pins D) X.xe s₃) X.xe s₂) X.xe s₁
  have hook : L2N.Takes (X.tr (X.pn ++ pins) look) (wOnly X.K c ts Wo D) := by
    rintro u1 sE ⟨a, B, sI, pins', σ1, H1, cls, d, rfl, J', nb, up, sky, na, os, ag, b, hbb, yes, no⟩
    have J : Inv X pins σ1 H1 sI := J'.ofTry ok
    have sky1 : Sky B (X.env :: X.outer) a (L2N.Zn cls d) X.env.locals sE.heap := hs ▸ sky
    refine L2N.Sky.land L2N.Zn.steady frE hf sky1 fun hA flA upA => ?_
    have JA : Inv X pins σ1 H1 { sE with heap := hA } := J.landed nb flA.1 (up.trans upA) os ag
    obtain ⟨oA, vA, gA, zA, dA⟩ := flA.there
    have offFrames : a ∉ frs (X.env :: X.outer) := fun hm => by
      obtain ⟨_, o', e', hnf⟩ := flA.2.2.1.mem hm
      cases gA.symm.trans e'
      exact hnf _ dA
    have offLoc : a ≠ X.env.locals := fun z => offFrames (List.mem_filterMap.mpr ⟨X.env, List.mem_cons_self, z ▸ hf⟩)
    have offFs : a ∉ X.fs := fun hm => (List.mem_filterMap.mp hm).elim fun e1 ⟨p1, p2⟩ => offFrames (List.mem_filterMap.mpr ⟨e1, List.mem_cons_of_mem _ p1, p2⟩)
    have SA := JA.suite gA dA na offLoc offFs
    have lookT : PySem.W.Looks (model X.prog X.w) hA (typeOf (.ref a)) cls := fun _ _ _ _ kk qq => wpAny_typeOf_ref (kk _ _ gA) (zA.1.symm ▸ qq)
    have exM := PySem.W.exm_one (M := model X.prog X.w) JA.kIn lookT hbb
    have named : ∀ {Q : Value → Shared → Prop} {E : Value → Shared → Prop}, Q c { sE with heap := hA } →
        wpAny (model X.prog X.w) (X.A.mark (some (.ref a))) (eval (.Name x np) X.env) Q E { sE with heap := hA } := fun qq => by
      rcases hc with ⟨g1, g2, g3 | ⟨g3, g4, g5⟩⟩
      · exact ld_glob (X := X.suite a ((a, oA) :: (X.pn ++ pins))) SA g1 g3 qq g2
      · exact ld_blt (X := X.suite a ((a, oA) :: (X.pn ++ pins))) SA g1 g3 g4 qq g5 g2
    refine wpAny_handleBy_cons (codeAny_handlers_test (named (exM.here ?_))) (fun z => nomatch z)
    cases b with
    | true =>
      refine codeAny_handlers_suite (HandSPX.lands_againZ flA fun hB flB upB => ?_)
      have JB : Inv X pins σ1 H1 { sE with heap := hB } := J.landed nb flB.1 ((up.trans upA).trans upB) os ag
      obtain ⟨oB, vB, gB, zB, dB⟩ := flB.there
      have tkS : Takes (L2H.suiteX X a ((a, oB) :: (X.pn ++ pins))) Wo := fun u2 s2 ⟨a2, B2, sI2, _, σ2, H2, cls2, d2, e2, I2, more2⟩ => tk u2 s2 ⟨a2, B2, sI2, pins, σ2, H2, cls2, d2, e2, L2H.unsuiteX I2 ok, more2⟩
      have hot : L2H.HotC (L2H.suiteX X a ((a, oB) :: (X.pn ++ pins))) := ⟨(a, oB), ⟨rfl, vB, dB, zB.2.2 vB dB⟩, List.mem_cons_self⟩
      refine wpAny_mono ((hsu a oB cls d (X.pn ++ pins) zB ⟨_, dB⟩ tkS hot).run [] _ _ H1 _ (L2H.suiteX_of (JB.suite gB dB na offLoc offFs)) (yes rfl a na)) (fun fl sF hh => ?_) (fun e6 s6 z => hpa (some (.ref a)) e6 s6 z)
      cases fl with
      | next => exact hh.elim fun _ ⟨_, T, qq⟩ => ⟨_, _, L2H.unsuiteX T ok, qq⟩
      | brk => exact hh.elim fun _ ⟨_, T, qq⟩ => ⟨_, _, L2H.unsuiteX T ok, qq⟩
      | cont => exact hh.elim fun _ ⟨_, T, qq⟩ => ⟨_, _, L2H.unsuiteX T ok, qq⟩
      | ret u => exact hh.elim fun _ ⟨_, _, T, rr, qq⟩ => ⟨_, _, _, L2H.unsuiteX T ok, rr, qq⟩
    | false =>
      have flZ : HandSPX.FlyingZ B (X.env :: X.outer) a (Zc cls d) hA := L2H.flyingZ_imp (fun _ z => z.zc) flA
      obtain ⟨_, _, _, oe, vs, tbk, _, _, he, _, hd, h1, _⟩ := id flZ
      show wpAny _ X.A (handleBy (.ref a) X.env []) _ _ _
      refine wpAny_handleBy_nil ?_
      have away : wpAny (model X.prog X.w) X.A (setFlight (.ref a) X.env.frame) (fun _ sG => wpAny (model X.prog X.w) X.A (throw (.ref a) : Sem Flow) (SP X pins D) X.xe sG) X.xe { sE with heap := hA } := by
        rw [hf]
        exact HandSPX.setFlight_upZ flZ fun hB heldB upB => wpAny_throw (tk _ _ ⟨a, B, sI, pins, σ1, H1, cls, d, rfl, J, nb, (up.trans upA).trans upB, .inr (.inr (hs.symm ▸ heldB)), na, os, ag, no rfl⟩)
      unfold PySem.passOn
      refine wpAny_bind (wpAny_field he hd h1 ?_)
      rw [if_neg (show ¬ ((Value.ref tbk == Value.none) = true) by simp)]
      first
        | exact wpAny_bind (wpAny_pure (wpAny_bind away))
        | exact wpAny_bind away
  refine wpAny_mono ((hb _ _ look hook PassesOwn.looking).run [] s0 σ H { D with nx := u D } (I0.toTry _) h0) (fun fl sE hh => ?_) (fun e sE he => he)
  cases fl with
  | next => exact hh.elim fun _ ⟨_, T, qq⟩ => ho.run pins sE _ _ D (T.ofTry ok) qq
  | brk => exact hh.elim fun _ ⟨_, T, qq⟩ => ⟨_, _, T.ofTry ok, qq⟩
  | cont => exact hh.elim fun _ ⟨_, T, qq⟩ => ⟨_, _, T.ofTry ok, qq⟩
  | ret u => exact hh.elim fun _ ⟨_, _, T, rr, qq⟩ => ⟨_, _, _, T.ofTry ok, rr, qq⟩
end

/-! ### heaps where one instance may change -/
structure ExtO (p : Addr) (H H' : Hp) : Prop where
  keep : ∀ a o, a ≠ p → H a = some o → (∀ kvs, o ≠ .dT kvs) → H' a = some o
  grow : ∀ a kvs, H a = some (.dT kvs) → ∃ more, H' a = some (.dT (kvs ++ more))
  gr : Gr H H'
theorem Ext.o {p : Addr} {H H' : Hp} (e : Ext H H') : ExtO p H H' := ⟨fun a o _ h n => e.keep a o h n, e.grow, e.gr⟩
theorem ExtO.trans {p : Addr} {H H1 H2 : Hp} (a : ExtO p H H1) (b : ExtO p H1 H2) : ExtO p H H2 := by
  refine ⟨fun x o q e n => b.keep x o q (a.keep x o q e n) n, fun x kvs e => ?_, a.gr.trans b.gr⟩
  obtain ⟨m1, e1⟩ := a.grow x kvs e
  obtain ⟨m2, e2⟩ := b.grow x _ e1
  exact ⟨m1 ++ m2, by rw [e2, List.append_assoc]⟩
theorem ExtO.put {p C dx : Addr} {H : Hp} {fs : List (Str × V)} {o : HO} (h : H p = some (.ins C dx fs)) : ExtO p H (upd H p o) := by
  refine ⟨fun a u q e _ => by rw [upd_ne q]; exact e, fun a kvs e => ⟨[], ?_⟩, (Kp.ins h).gr⟩
  rw [List.append_nil, upd_ne]
  · exact e
  · rintro rfl
    rw [h] at e
    cases e
theorem ExtO.lst {p a : Addr} {H H' : Hp} {xs : List V} (e : ExtO p H H') (q : a ≠ p) (h : H a = some (.lst xs)) : H' a = some (.lst xs) := e.keep _ _ q h fun _ z => nomatch z
theorem ExtO.ins {p a C dx : Addr} {H H' : Hp} {fs : List (Str × V)} (e : ExtO p H H') (q : a ≠ p) (h : H a = some (.ins C dx fs)) : H' a = some (.ins C dx fs) := e.keep _ _ q h fun _ z => nomatch z
/-- the instance was made behind H -/
theorem ExtO.ext {p : Addr} {H H1 H' : Hp} (e : ExtO p H1 H') (x : Ext H H1) (hp : H p = none) : Ext H H' := by
  refine ⟨fun a o h n => e.keep a o (ne_of_none h hp) (x.keep a o h n) n, fun a kvs h => ?_⟩
  obtain ⟨m1, e1⟩ := x.grow a kvs h
  obtain ⟨m2, e2⟩ := e.grow a _ e1
  exact ⟨m1 ++ m2, by rw [e2, List.append_assoc]⟩

/-! ### sorted(pairs of an int and a text), by ints that tell them apart -/
namespace KvS
open PySem PyProof.Rows Srt SrtO
section
variable {prog : Program} {w : World} {A : Around} {s : Shared} {E : Value → Shared → Prop}
def IsKv (h : Heap) (v : Value) (x : Int) (y : Str) : Prop := ∃ a o t u n, v = .ref a ∧ h.get? a = some o ∧ o.cls = .type "tuple" ∧ o.data = .seq #[.int x t, .str y u] n
theorem IsKv.keeps {h h' : Heap} {v : Value} {x : Int} {y : Str} (p : IsKv h v x y) (k : ∀ b o, h.get? b = some o → o.cls = .type "tuple" → h'.get? b = some o) : IsKv h' v x y := by
  obtain ⟨a, o, t, u, n, e, ho, hc, hd⟩ := p
  exact ⟨a, o, t, u, n, e, k _ _ ho hc, hc, hd⟩
theorem kv_cmp {vs : List Value} {k : Value → Int} {f : Value → Str} (hp : ∀ v ∈ vs, IsKv s.heap v (k v) (f v)) (hi : ∀ v ∈ vs, ∀ u ∈ vs, k v = k u → f v = f u) : Cmp prog w A s (tuples' true) (fun p => p.1 ∈ vs) (lt2 fun v u => decide (k v < k u)) := by
  intro p q hm hm'
  have h1 := hp _ hm
  have h2 := hp _ hm'
  have h3 := hi _ hm _ hm'
  show wpAny (model prog w) A (keyLt' (tuples' true) p.1 q.1) (fun r s' => s' = s ∧ r = decide (k p.1 < k q.1)) (fun _ _ => False) s
  generalize k p.1 = x at h1 h3 ⊢
  generalize f p.1 = y at h1 h3 ⊢
  generalize k q.1 = x' at h2 h3 ⊢
  generalize f q.1 = y' at h2 h3 ⊢
  obtain ⟨a, o, t, u, n, e, ho, hc, hd⟩ := h1
  obtain ⟨a', o', t', u', n', e', ho', hc', hd'⟩ := h2
  rw [e, e']
  refine PySem.W.kat_lt ho hd ho' hd' ?_
  show PySem.W.KatLex prog w A true (decide (2 < 2)) _ [(.int x t, .int x' t'), (.str y u, .str y' u')] 0 s
  refine PySem.W.kat_cons (SeqAt.EqAt.int_int x t x' t' prog w _ _ ?_)
  refine PySem.W.kat_go (fun e1 => ?_) (fun e1 => ?_)
  · have ex : x = x' := by simpa using e1
    refine PySem.W.kat_yes (PySem.W.kat_cons (SeqAt.EqAt.str_str y u y' u' prog w _ _ ?_))
    refine PySem.W.kat_go (fun e2 => ?_) (fun e2 => ?_)
    · exact PySem.W.kat_yes (PySem.W.kat_nil ⟨rfl, (decide_eq_false (by rw [ex]; exact Int.lt_irrefl _)).symm⟩)
    · rw [h3 ex] at e2
      simp at e2
  · exact PySem.W.kat_no (oneLt_int ⟨rfl, rfl⟩)
theorem firsts_kv {h : Heap} : ∀ {vs : List Value}, (∀ v ∈ vs, ∃ x y, IsKv h v x y) → ∃ fs : List Value, PySem.W.KatTups h vs fs ∧ fs.length = vs.length ∧ ∀ f ∈ fs, ∃ x t, f = Value.int x t
  | [], _ => ⟨[], PySem.W.KatTups.nil, rfl, fun _ hm => by simp at hm⟩
  | v :: vs, hp => by
    obtain ⟨fs, h1, h2, h3⟩ := firsts_kv (vs := vs) fun v' hm => hp v' (List.mem_cons_of_mem _ hm)
    obtain ⟨x, y, a, o, t, u, n, e, ho, hc, hd⟩ := hp v (List.mem_cons_self ..)
    subst e
    refine ⟨.int x t :: fs, PySem.W.KatTups.cons ho hc hd rfl h1, by rw [List.length_cons, List.length_cons, h2], fun f hm => ?_⟩
    rcases List.mem_cons.mp hm with rfl | hm
    · exact ⟨x, t, rfl⟩
    · exact h3 f hm
theorem kv_sortable {a : Addr} {vs : List Value} {k : Value → Int} {f : Value → Str} (h0 : 0 < vs.length) (hp : ∀ v ∈ vs, IsKv s.heap v (k v) (f v)) (hi : ∀ v ∈ vs, ∀ u ∈ vs, k v = k u → f v = f u) (ha : ∀ o, s.heap.get? a = some o → o.cls ≠ .type "tuple") : SortableO prog w A s a vs fun v u => decide (k v < k u) := by
  intro h' keep
  have hp' : ∀ v ∈ vs, IsKv h' v (k v) (f v) := fun v hm => (hp v hm).keeps fun b o e c => keep b o (fun z => by subst z; exact ha o e c) e
  obtain ⟨fs, h1, h2, h3⟩ := firsts_kv fun v hm => ⟨_, _, hp' v hm⟩
  refine ⟨tuples' true, fun Q E hq => ?_, kv_cmp hp' hi⟩
  refine PySem.W.kat_kind (T := .type "int") h1 (by omega) (fun f hm => ?_) (by rfl) ?_
  · obtain ⟨x, t, rfl⟩ := h3 f hm
    exact PySem.W.Looks.now
  · have e : (Value.type "int" != Value.type "tuple") = true := by first | decide +kernel | rfl | decide
    rw [e]
    exact hq
theorem swo_key (k : Value → Int) : Swo fun v u => decide (k v < k u) := by
  refine ⟨fun x y h => ?_, fun x y z h1 h2 => ?_⟩
  · exact decide_eq_false (Int.not_lt.mpr (Int.le_of_lt (of_decide_eq_true h)))
  · have a := of_decide_eq_false h1
    have b := of_decide_eq_false h2
    exact decide_eq_false (by omega)
theorem sorted_kv {l : Addr} {vs : List Value} {k : Value → Int} {f : Value → Str} {Q : Value → Shared → Prop} (hl : s.heap.IsList l vs.toArray) (hz : vs.length ≤ sizeLine) (hp : ∀ v ∈ vs, IsKv s.heap v (k v) (f v)) (hi : ∀ v ∈ vs, ∀ u ∈ vs, k v = k u → f v = f u)
    (h : ∀ (h' : Heap) (d : Addr) (out : List Value), Srtd (fun v u => decide (k v < k u)) out → Stb (fun v u => decide (k v < k u)) out vs → (∀ b o, s.heap.get? b = some o → h'.get? b = some o) → s.heap.objs.size ≤ d → (∃ n, h'.get? d = some (seqObj "list" out.toArray n)) → Q (.ref d) { s with heap := h' }) :
    wpAny (model prog w) A (call (.builtin "sorted") [.ref l]) Q E s := by
  refine sorted_ord (swo_key k) hl hz (fun h2 h₁ a ha kk => ?_) fun out hs hb => ?_
  · refine kv_sortable (s := { s with heap := h₁ }) (by omega) (fun v hm => (hp v hm).keeps fun b o e _ => (kk b o e).2) hi fun o e => ?_
    have e' : some o = some (seqObj "list" vs.toArray 0) := e.symm.trans ha
    cases e'
    intro c
    exact absurd (Value.type.inj c) (by decide)
  · exact h _ _ out hs hb (fun b o e => sortedAll_old e) (Nat.le_succ _) (sortedAll_at s.heap vs out.toArray)
end
end KvS
section
variable {X : Cx}
/-- sorted(xs), pairs of an int and a text, no two of one int with unlike texts: a new list of the same pairs, by rising ints -/
def rSortKv (K : PySem.W.Frag) : List V → Hp → VK → Prop := fun vs H Q => ∃ (a : Addr) (xs : List V) (k : V → Int) (f : V → Str), vs = [V.ref a] ∧ SqL K H a xs ∧ (∀ x ∈ xs, ∃ t, x = V.ref t ∧ H t = some (.tup [.int (k x), .str (f x)])) ∧ (∀ x ∈ xs, ∀ y ∈ xs, k x = k y → f x = f y) ∧
  ∀ ys p, ys.Perm xs → ys.Pairwise (fun x y => k x ≤ k y) → H p = none → Q (.ref p) (upd H p (.lst ys))
theorem cr_sortedKv : CallR X (.builtin "sorted") (rSortKv X.K) := by
  intro pins s σ H vs us Q I r h
  obtain ⟨a, xs, k, f, rfl, hs, hx, hi, q⟩ := h
  obtain ⟨its, rv, hl, hz⟩ := I.list hs
  obtain ⟨u, rfl, ru⟩ := vals1 r
  obtain rfl : u = Value.ref a := ru
  obtain ⟨e1, e2⟩ := refs_back rv fun x m => by
    obtain ⟨t, e, _⟩ := hx x m
    exact ⟨t, e⟩
  have mem : ∀ v ∈ its, backV v ∈ xs := fun v hv => by rw [e1]; exact List.mem_map.mpr ⟨_, hv, rfl⟩
  refine KvS.sorted_kv (k := fun v => k (backV v)) (f := fun v => f (backV v)) hl.isList (by rw [← rv.length]; exact hz) (fun v hv => ?_) (fun v hv u hu e => hi _ (mem v hv) _ (mem u hu) e) fun h' d out hs' hb hk hd hn => ?_
  · obtain ⟨t, rfl⟩ := e2 v hv
    obtain ⟨t', e, ht⟩ := hx _ (mem _ hv)
    have et : t = t' := V.ref.inj e
    subst et
    obtain ⟨_, its2, r2, o, ho, hc, n, hd⟩ := I.hok _ _ ht
    obtain ⟨u1, u2, rfl, ri, rj⟩ := vals2 r2
    obtain ⟨t1, rfl⟩ := ri
    obtain ⟨t2, rfl⟩ := rj
    exact ⟨t, o, t1, t2, n, rfl, ho, hc, hd⟩
  · have hp := hb.perm
    have h3 : ∀ u ∈ out, ∃ a, u = Value.ref a := fun u hu => e2 u (hp.mem_iff.mp hu)
    obtain ⟨n, hn⟩ := hn
    have hlen : (out.map backV).length ≤ sizeLine := by
      rw [List.length_map, hp.length_eq, ← rv.length]
      exact hz
    refine ⟨.ref d, upd H d (.lst (out.map backV)), I.laid (t' := s.toks) (fun b o e => hk b o e) hd ⟨hlen, out, n, vals_back h3, hn⟩, rfl, q _ _ ?_ ?_ (I.hok.fresh hd)⟩
    · rw [e1]
      exact hp.map backV
    · refine List.pairwise_map.mpr (hs'.imp fun {x y} h => ?_)
      exact Int.not_lt.mp (of_decide_eq_false (p := k (backV y) < k (backV x)) h)
end

/-! ### sorted(d), a dict of int keys, any number of them -/
section
variable {X : Cx}
theorem call_sortedDIN (hcalm : X.calm = true) : CallR X (.builtin "sorted") (fun xs H Q => ∃ (a : Addr) (kvs : List (Key × V)) (ks : List Int), xs = [.ref a] ∧ Rd H a (.dK kvs) ∧ kvs.map (·.1) = ks.map Sum.inl ∧ ks.length ≤ sizeLine ∧
    ∀ (ys : List Int) (p : Addr), ys.Perm ks → ys.Pairwise (· ≤ ·) → H p = none → Q (.ref p) (upd H p (.lst (ys.map V.int)))) := by
  intro pins s σ H xs us Q I r q
  obtain ⟨a, kvs, ks, ex, hd, hks, h64, q⟩ := q
  subst ex
  obtain ⟨u, eu, rx⟩ := vals1 r
  subst eu
  cases rx
  obtain ⟨z, lo, vs, rel, dd⟩ := dk_rd I.hok hd
  obtain ⟨ep, hat⟩ := dd.dictAt
  have hkeys : vs.map (·.1) = ks.map Sum.inl := rel.keys.symm.trans hks
  have hl : vs.length = ks.length := by
    have e := congrArg List.length hkeys
    rw [List.length_map, List.length_map] at e
    exact e
  have h16 : vs.length ≤ sizeLine := by rw [hl]; exact h64
  refine Calls.call_function_entry PyProof.Rows.kind_sorted PyProof.Rows.plain_sorted PyProof.Rows.entry_sorted (PyProof.Rows.args_sorted1 _) ?_
  unfold Builtin.«sorted»
  refine wpAny_bind (m := checkCount "sorted" 1 1 _) (wpAny_pure ?_)
  refine wpAny_bind (PySem.W.kdu_collect (A := X.A.in1) (PySem.W.kdl_dict (knd := mixKind X.prog X.w) (kvs := vs) (ep := ep) lo) (I.ok.hd hcalm) hat h16 fun h' tk acc hk hacc => ?_)
  have hal : acc.toList.length = ks.length := by rw [Array.length_toList, hacc.1, hl]
  have hS : IntsAre acc.toList ks := ints_each hal fun j v e => by
    obtain ⟨k, x, e1, e2⟩ := hacc.2 j v (by rw [← Array.getElem?_toList]; exact e)
    have e3 : (vs.map (·.1))[j]? = some k := by rw [List.getElem?_map, e1]; rfl
    rw [hkeys, List.getElem?_map] at e3
    cases e4 : ks[j]? with
    | none => rw [e4] at e3; cases e3
    | some y =>
      rw [e4] at e3
      have e5 : Sum.inl y = k := Option.some.inj e3
      subst e5
      rcases keyIs_shape (show keyIs (Sum.inl y) v = true from e2) with ⟨i, t, ek, ev⟩ | ⟨z, t, ek, ev⟩
      · cases ek
        exact ⟨y, t, rfl, ev⟩
      · cases ek
  have I1 : Inv X pins σ H { s with heap := h', toks := tk } := I.kept hk
  refine wpAny_bind (wpAny_newList ?_ (by rw [hal]; exact h64))
  have hoL : (h'.push (seqObj "list" acc.toList.toArray 0)).get? h'.objs.size = some (seqObj "list" acc.toList.toArray 0) := Heap.get?_push_size _ rfl
  show wpAny _ _ _ _ _ { s with heap := h'.push (seqObj "list" acc.toList.toArray 0), toks := tk }
  refine wpAny_bind (wpAny_holding (wpAny_call_entry PyProof.Rows.slot_list_sort ⟨_, hoL, rfl⟩ PyProof.Rows.entry_list_sort
    (SrtO.list_sort_ord (s := { s with heap := h'.push (seqObj "list" acc.toList.toArray 0), toks := tk }) SrtO.swo_int hoL (by rw [hal]; exact h64) (fun h2 => SrtO.ints_sortable hS h2) fun out h1 h2 => ⟨_, rfl, ?_⟩) (PyProof.Rows.args_list_sort _)))
  obtain ⟨g1, g2, g3⟩ := SrtO.ints_out hS h1 h2
  obtain ⟨e', he'⟩ := PyProof.Rows.sortedHeap_at (vs := acc.toList) (out := out.toArray) hoL
  have hlen : ((out.map SrtO.iv).map V.int).length ≤ sizeLine := by
    rw [List.length_map, g2.length_eq]
    exact h64
  refine wpAny_pure ⟨_, rfl, .ref h'.objs.size, upd H h'.objs.size (.lst ((out.map SrtO.iv).map V.int)), I1.laid (t' := tk) (fun b u e => ?_) (Nat.le_refl _)
    (show ObjOk X.prog X.w _ _ _ (.lst ((out.map SrtO.iv).map V.int)) from ⟨hlen, out, e', vals_of_ints g1, he'⟩), rfl, q (out.map SrtO.iv) _ g2 g3 (I1.hok.fresh (Nat.le_refl _))⟩
  have hb : b < h'.objs.size := Heap.lt_size e
  rw [PyProof.Rows.sortedHeap_old (Nat.ne_of_lt hb) (by rw [size_push']; exact Nat.lt_succ_of_lt hb)]
  exact Heap.get?_push_of_some _ e
end

/-! ### the parts of a table -/
structure KvL (H : Hp) (vs : List V) (rows : List (Int × Str)) : Prop where
  len : vs.length = rows.length
  at_ : ∀ (j : Nat) (v : V) (e : Int × Str), vs[j]? = some v → rows[j]? = some e → ∃ q, v = .ref q ∧ H q = some (.tup [.int e.1, .str e.2]) ∧ txtOk e.2 = true
theorem KvL.gr {H H' : Hp} {vs : List V} {rows : List (Int × Str)} (h : KvL H vs rows) (x : Gr H H') : KvL H' vs rows := by
  refine ⟨h.len, fun j v e a b => ?_⟩
  obtain ⟨q, h1, h2, h3⟩ := h.at_ j v e a b
  exact ⟨q, h1, x.keep _ _ h2 True.intro (fun _ z => nomatch z), h3⟩
theorem KvL.nil {H : Hp} : KvL H [] [] := ⟨rfl, fun j v e a _ => by simp at a⟩
theorem KvL.snoc {H : Hp} {vs : List V} {rows : List (Int × Str)} {q : Addr} {e : Int × Str} (h : KvL H vs rows) (hq : H q = some (.tup [.int e.1, .str e.2])) (hx : txtOk e.2 = true) : KvL H (vs ++ [.ref q]) (rows ++ [e]) := by
  have hl := h.len
  refine ⟨by rw [List.length_append, List.length_append, hl]; rfl, fun i v t a b => ?_⟩
  by_cases c : i < vs.length
  · rw [List.getElem?_append_left c] at a
    rw [List.getElem?_append_left (by omega)] at b
    exact h.at_ i v t a b
  · rw [List.getElem?_append_right (by omega)] at a b
    rw [← hl] at b
    cases hj : i - vs.length with
    | zero =>
      rw [hj] at a b
      cases a
      cases b
      exact ⟨q, rfl, hq, hx⟩
    | succ j =>
      rw [hj] at a
      simp at a
def bitK (l : Nat) (b : Int) (e : Int × Str) : Bool := decide (e.1 / 2 ^ l % 2 = b)
def partT : Nat → List (Int × Str) → Tm
  | _, [] => nonT
  | _, [e] => .sl "row" (.int e.1) (.str e.2)
  | 0, _ :: _ :: _ => nonT
  | l + 1, a :: b :: r => .sl "fork" (partT l ((a :: b :: r).filter (bitK l 0))) (partT l ((a :: b :: r).filter (bitK l 1)))
theorem partT_nil (l : Nat) : partT l [] = nonT := by cases l <;> rfl
theorem partT_one (l : Nat) (e : Int × Str) : partT l [e] = .sl "row" (.int e.1) (.str e.2) := by cases l <;> rfl
theorem partT_more {l : Nat} {rows : List (Int × Str)} (h : 2 ≤ rows.length) : partT (l + 1) rows = .sl "fork" (partT l (rows.filter (bitK l 0))) (partT l (rows.filter (bitK l 1))) := by
  match rows, h with
  | a :: b :: r, _ => rfl
def RowsOk (l : Nat) (rows : List (Int × Str)) : Prop := (∀ e ∈ rows, 0 ≤ e.1) ∧ rows.Pairwise fun a b => a.1 % 2 ^ l ≠ b.1 % 2 ^ l
theorem RowsOk.zero {rows : List (Int × Str)} (h : RowsOk 0 rows) : rows.length ≤ 1 := by
  match rows, h with
  | [], _ => exact Nat.zero_le _
  | [_], _ => exact Nat.le_refl _
  | a :: b :: r, ⟨_, h⟩ =>
    have := (List.pairwise_cons.mp h).1 b List.mem_cons_self
    simp at this
theorem bit_mod (a : Int) (l : Nat) : a % 2 ^ (l + 1) = a % 2 ^ l + 2 ^ l * (a / 2 ^ l % 2) := by
  have hM : (0 : Int) < 2 ^ l := Int.pow_pos (by decide)
  rw [Int.pow_succ]
  generalize (2 : Int) ^ l = M at hM ⊢
  have h1 := Int.emod_nonneg a (show M ≠ 0 by omega)
  have h2 := Int.emod_lt_of_pos a hM
  have h3 := Int.mul_ediv_add_emod a M
  have h4 := Int.mul_ediv_add_emod (a / M) 2
  have h5 : a / M % 2 = 0 ∨ a / M % 2 = 1 := by omega
  have e : a = M * 2 * (a / M / 2) + (a % M + M * (a / M % 2)) := by
    rw [Int.mul_assoc, Int.add_comm (a % M), ← Int.add_assoc, ← Int.mul_add, h4, h3]
  have lo : 0 ≤ a % M + M * (a / M % 2) := by
    rcases h5 with h | h <;> rw [h] <;> omega
  have hi : a % M + M * (a / M % 2) < M * 2 := by
    rcases h5 with h | h <;> rw [h] <;> omega
  have := Int.emod_eq_of_lt lo hi
  rw [← this]
  conv => lhs; rw [e]
  rw [Int.add_comm, Int.add_mul_emod_self_left]
theorem RowsOk.part {l : Nat} {b : Int} {rows : List (Int × Str)} (h : RowsOk (l + 1) rows) : RowsOk l (rows.filter (bitK l b)) := by
  refine ⟨fun e he => h.1 e (List.mem_filter.mp he).1, ?_⟩
  rw [List.pairwise_filter]
  refine h.2.imp fun {x y} hxy hx hy e => hxy ?_
  rw [bit_mod, bit_mod, e, of_decide_eq_true hx, of_decide_eq_true hy]
theorem partT_dep : ∀ (l : Nat) (rows : List (Int × Str)), (partT l rows).dep ≤ l + 1
  | l, [] => by rw [partT_nil]; show max 0 0 + 1 ≤ _; omega
  | l, [e] => by rw [partT_one]; show max 0 0 + 1 ≤ _; omega
  | 0, _ :: _ :: _ => by show max 0 0 + 1 ≤ _; omega
  | l + 1, a :: b :: r => by
    have h1 := partT_dep l ((a :: b :: r).filter (bitK l 0))
    have h2 := partT_dep l ((a :: b :: r).filter (bitK l 1))
    show max _ _ + 1 ≤ _
    omega
/-- how many tellings -/
def costP (l n : Nat) : Nat := if n = 0 then 1 else n * (2 * l + 1)
theorem costP_split {l a b n : Nat} (h : a + b = n) (hn : 2 ≤ n) : costP l a + costP l b + 1 ≤ costP (l + 1) n := by
  subst h
  have e : (a + b) * (2 * (l + 1) + 1) = a * (2 * l + 1) + b * (2 * l + 1) + 2 * (a + b) := by
    rw [show 2 * (l + 1) + 1 = (2 * l + 1) + 2 by omega, Nat.mul_add, Nat.add_mul, Nat.mul_comm (a + b) 2]
  unfold costP
  rw [if_neg (show ¬ a + b = 0 by omega), e]
  by_cases ha : a = 0
  · subst ha
    rw [if_pos rfl, if_neg (by omega), Nat.zero_mul]
    omega
  · rw [if_neg ha]
    by_cases hb : b = 0
    · subst hb
      rw [if_pos rfl, Nat.zero_mul]
      omega
    · rw [if_neg hb]
      omega
theorem filter_split {rows : List (Int × Str)} (l : Nat) : (rows.filter (bitK l 0)).length + (rows.filter (bitK l 1)).length = rows.length := by
  induction rows with
  | nil => rfl
  | cons e r ih =>
    rw [List.filter_cons, List.filter_cons, List.length_cons]
    have h1 := Int.emod_nonneg (e.1 / 2 ^ l) (show (2 : Int) ≠ 0 by decide)
    have h2 := Int.emod_lt_of_pos (e.1 / 2 ^ l) (show (0 : Int) < 2 by decide)
    have h3 : e.1 / 2 ^ l % 2 = 0 ∨ e.1 / 2 ^ l % 2 = 1 := by omega
    rcases h3 with h | h
    · rw [show bitK l 0 e = true from decide_eq_true h, show bitK l 1 e = false from decide_eq_false (by omega)]
      simp
      omega
    · rw [show bitK l 0 e = false from decide_eq_false (by omega), show bitK l 1 e = true from decide_eq_true h]
      simp
      omega
theorem take_filter {α : Type} (p : α → Bool) (l : List α) {i : Nat} {x : α} (h : l[i]? = some x) : (l.take (i + 1)).filter p = (l.take i).filter p ++ (if p x = true then [x] else []) := by
  rw [List.take_succ, h, List.filter_append]
  congr 1
  show [x].filter p = _
  rw [List.filter_cons]
  rfl

/-! ### figures -/
theorem txt_of_tl {x : Str} (h : ∀ c ∈ TL.tl x, c < 0x110000) : txtOk x = true := by
  show x.cps.all (· < 0x110000) = true
  rw [Array.all_eq_true']
  intro c hc
  exact decide_eq_true (h c (by rw [← Array.mem_toList_iff] at hc; exact hc))
theorem txt_num (n : Nat) : txtOk (Str.ofString (toString ((n : Nat) : Int))) = true := by
  refine txt_of_tl fun c hc => ?_
  rw [TL.tl_num] at hc
  have := TL.numL_digits n c hc
  omega
theorem log_small {z : Int} (h0 : 0 ≤ z) (h : z < 2 ^ 64) : z.natAbs.log2 < 1920 := by
  obtain ⟨n, rfl⟩ := Int.eq_ofNat_of_zero_le h0
  have h1 : n < 2 ^ 64 := by omega
  rw [Int.natAbs_natCast]
  by_cases c : n = 0
  · subst c; decide
  · have := (Nat.log2_lt c).mpr h1
    omega
theorem cut_ints (ks : List Int) (lo hi : Option Int) : ∃ ks' : List Int, cutV (ks.map V.int) lo hi = ks'.map V.int ∧ (∀ k ∈ ks', k ∈ ks) ∧ ks'.length ≤ ks.length := by
  unfold cutV
  rw [List.length_map, ← List.map_drop, ← List.map_take]
  refine ⟨_, rfl, fun k hk => List.mem_of_mem_drop (List.mem_of_mem_take hk), ?_⟩
  rw [List.length_take, List.length_drop]
  omega

/-! ### the program's seals and tops -/
section
variable {P : Program} {w : World} {K : PySem.W.Frag} {mg : Str → Option Value} {base : Heap} {Fam : Sys → Prop}
def spNone (Fam : Sys → Prop) : Sp := fun vs H Q _ => ∃ (S : Sys) (r : Nat), Fam S ∧ vs = [.ref S.f] ∧ S.ok H (r + 1) ∧ ∀ v H', Ext H H' → S.ok H' r → S.den H' v nonT → Q v H'
theorem ok_none_seal {cc : Addr} (T : Txt K mg cc) (A : SlA P w K mg base Fam) : Cal P w K mg base 2 "none_seal" (spNone Fam) [] := by
  refine cal_of T.d_none_seal sc_none_seal (fun vs H Q E h => ?_) (fun f cdv A' outer s H vs Q E hr h => ?_)
  · obtain ⟨S, r, _, rfl, _⟩ := h
    rfl
  obtain ⟨S, r, hF, rfl, hok, q⟩ := h
  have G := A.good hF
  refine ⟨_, (pss_one (ps_ret (pe_sl (i := 0) A.held hr (by omega) rfl (by first | exact Or.inl rfl | exact Or.inr (Or.inl rfl) | exact Or.inr (Or.inr rfl)) (pa_cons pe_str (pa_cons pe_int (pa_cons pe_int pa_nil)))))), ?_⟩
  exact ⟨S, _, hF, rfl, hok, r, "none", .int 0, .int 0, _, _, rfl, by decide +kernel, hok, G.int 0 hok, G.int 0 hok, fun v H' e ok d => q v H' e ok d⟩
def spPair (Fam : Sys → Prop) : Sp := fun vs H Q _ => ∃ (S : Sys) (va vb : V) (a b : Tm) (r : Nat), Fam S ∧ vs = [.ref S.f, va, vb] ∧ S.ok H (r + 1) ∧ S.den H va a ∧ S.den H vb b ∧ ∀ v H', Ext H H' → S.ok H' r → S.den H' v (pairT a b) → Q v H'
theorem ok_pair_seal {cc : Addr} (T : Txt K mg cc) (A : SlA P w K mg base Fam) : Cal P w K mg base 2 "pair_seal" (spPair Fam) [] := by
  refine cal_of T.d_pair_seal sc_pair_seal (fun vs H Q E h => ?_) (fun f cdv A' outer s H vs Q E hr h => ?_)
  · obtain ⟨S, va, vb, a, b, r, _, rfl, _⟩ := h
    rfl
  obtain ⟨S, va, vb, a, b, r, hF, rfl, hok, ha, hb, q⟩ := h
  refine ⟨_, (pss_one (ps_ret (pe_sl (i := 0) A.held hr (by omega) rfl (by first | exact Or.inl rfl | exact Or.inr (Or.inl rfl) | exact Or.inr (Or.inr rfl)) (pa_cons pe_str (pa_cons (pv 1) (pa_cons (pv 2) pa_nil)))))), ?_⟩
  exact ⟨S, _, hF, rfl, hok, _, rfl, _, rfl, r, "pair", a, b, _, _, rfl, by decide +kernel, hok, ha, hb, fun v H' e ok d => q v H' e ok d⟩
end

section
variable {P : Program} {w : World} {K : PySem.W.Frag} {mg : Str → Option Value} {base : Heap} {Fam : Sys → Prop}
theorem ok_split {cc : Addr} (T : Txt K mg cc) : Cal P w K mg base 1 "split" spSplit [] := by
  refine cal_of T.d_split sc_split (fun vs H Q E h => ?_) (fun f cdv A outer s H vs Q E hr h => ?_)
  · obtain ⟨n, rfl, _⟩ := h
    rfl
  obtain ⟨n, rfl, h2, hl, q⟩ := h
  refine ⟨_, (pss_one (ps_ret (pe_op op_shl pe_int (pe_op op_sub (pe_bits (pe_op op_sub (pv 0) pe_int)) pe_int)))), ?_⟩
  have h0 : n - 1 ≠ 0 := by omega
  have lg : (n - 1).log2 ≤ n.log2 := by
    refine (Nat.le_log2 (by omega)).mpr ?_
    have := Nat.log2_self_le h0
    omega
  have e1 : ((Builtin.Int.intBits ((n : Int) - 1) : Nat) : Int) - 1 = (((n - 1).log2 : Nat) : Int) := by
    have e2 : (n : Int) - 1 = ((n - 1 : Nat) : Int) := by omega
    rw [e2]
    unfold Builtin.Int.intBits
    have e3 : (((n - 1 : Nat) : Int) == 0) = false := by
      rw [beq_eq_false_iff_ne]
      omega
    rw [e3]
    show ((((n - 1 : Nat) : Int).natAbs.log2 + 1 : Nat) : Int) - 1 = _
    rw [Int.natAbs_natCast]
    omega
  refine ⟨_, rfl, _, 1, rfl, rfl, (n : Int) - 1, rfl, _, 1, rfl, rfl, 1, _, rfl, rfl, ?_, ?_⟩
  · rw [e1]
    exact ⟨by omega, by omega, by decide⟩
  · rw [e1]
    show Q (.int (1 * 2 ^ ((((n - 1).log2 : Nat) : Int)).toNat)) H
    rw [Int.toNat_natCast, Int.one_mul, ← pow_cast]
    exact q

theorem ok_top_of1 {cc : Addr} {k : Nat} (T : Txt K mg cc) (A : SlA P w K mg base Fam) (C_top_of : Cal P w K mg base (k + 3) "top_of" (spTop K Fam k) []) : Cal P w K mg base (k + 4) "top_of" (spTop K Fam (k + 1)) [] := by
  have Z := T.Z
  have C_split := ok_split (P := P) (w := w) (base := base) T
  have C_none_seal := ok_none_seal T A
  have C_pair_seal := ok_pair_seal T A
  refine cal_of T.d_top_of sc_top_of (fun vs H Q E h => ?_) (fun f cdv A' outer s H vs Q E hr h => ?_)
  · obtain ⟨S, a, xs, ts, r, _, rfl, _⟩ := h
    rfl
  obtain ⟨S, a, xs, ts, r, hF, rfl, hS, hD, _, hk, hl, hok, q⟩ := h
  have hlen := hD.len
  have G := A.good hF
  refine ⟨_, (pss_cons (ps_if (pt_cmpR op_eq (pe_callB call_len_seq rfl Z.len PySem.boot_len (pa_cons (pv 1) pa_nil)) pe_int (nomark _)) (pss_one (ps_ret (pe_c C_none_seal hr (by omega) rfl (pa_cons (pv 0) pa_nil)))) pss_nil)
  (pss_cons (ps_if (pt_cmpR op_eq (pe_callB call_len_seq rfl Z.len PySem.boot_len (pa_cons (pv 1) pa_nil)) pe_int (nomark _)) (pss_one (ps_ret (pe_ix ix_list (pv 1) pe_int (fun _ _ => rfl)))) pss_nil)
  (pss_cons (ps_set (i := 2) sc_top_of.nd rfl (Or.inl rfl) (pe_c C_split hr (by omega) rfl (pa_cons (pe_callB call_len_seq rfl Z.len PySem.boot_len (pa_cons (pv 1) pa_nil)) pa_nil)))
  (pss_one (ps_ret (pe_c C_pair_seal hr (by omega) rfl (pa_cons (pv 0) (pa_cons (pe_c C_top_of hr (by omega) rfl (pa_cons (pv 0) (pa_cons (pe_slice sl_list (pv 1) po_none (po_some (pv 2))) pa_nil))) (pa_cons (pe_c C_top_of hr (by omega) rfl (pa_cons (pv 0) (pa_cons (pe_slice sl_list (pv 1) (po_some (pv 2)) po_none) pa_nil))) pa_nil))))))))), ?_⟩
  -- no leaf
  refine ⟨_, rfl, a, _, rfl, .inl hS, rfl, _, rfl, ite2 (fun c => ?_) (fun c => ?_)⟩
  · have c' : (xs.length : Int) = 0 := V.int.inj (of_decide_eq_true c)
    have e : ts = [] := List.eq_nil_of_length_eq_zero (by omega)
    subst e
    refine ⟨_, rfl, S, r, hF, rfl, hok, fun v H' e ok d => q v H' e ok ?_⟩
    rw [topT_nil]
    exact d
  have n0 : xs.length ≠ 0 := fun z => c (decide_eq_true (by rw [z]; rfl))
  -- one
  refine ⟨_, rfl, a, _, rfl, .inl hS, rfl, _, rfl, ite2 (fun c => ?_) (fun c => ?_)⟩
  · have c' : (xs.length : Int) = 1 := V.int.inj (of_decide_eq_true c)
    obtain ⟨v, hv, dv⟩ := atI_den hD (i := 0) (Int.le_refl 0) (by omega)
    refine ⟨_, rfl, a, xs, 0, v, rfl, rfl, hS, hv, q v H (Ext.refl H) ?_ ?_⟩
    · refine G.less hok ?_
      omega
    · rw [topT_single (by omega)]
      exact dv
  have n1 : xs.length ≠ 1 := fun z => c (decide_eq_true (by rw [z]; rfl))
  -- more
  have h2 : 2 ≤ ts.length := by omega
  have hsl := splitN_lt h2
  have hsp := splitN_pos ts.length
  have hk1 : ts.length ≤ 2 ^ k := hk
  obtain ⟨k', rfl⟩ : ∃ k', k = k' + 1 := by
    cases k with
    | zero => simp at hk1; omega
    | succ k' => exact ⟨k', rfl⟩
  obtain ⟨b1, b2⟩ := splitN_le_pow h2 hk1
  have hcs := costT_split h2
  have lg := Nat.log2_le_self ts.length
  refine ⟨_, rfl, a, _, rfl, .inl hS, ts.length, by rw [hlen] <;> rfl, h2, by omega, ?_⟩
  refine ⟨_, rfl, ?_⟩
  -- the first part
  refine ⟨_, rfl, _, rfl, _, rfl, ((splitN ts.length : Nat) : Int), rfl, a, _, rfl, hS, fun p hp => ?_⟩
  rw [cut_to]
  have x1 := Ext.new (o := .lst (xs.take (splitN ts.length))) hp
  have k1 := Kp.new (o := .lst (xs.take (splitN ts.length))) hp
  refine ⟨S, p, _, ts.take (splitN ts.length), r + 1 + costT (ts.length - splitN ts.length), hF, rfl, SqL.of upd_same, (hD.take _).mono G k1.gr, by omega, ?_, ?_, ?_, fun v1 H1 x2 ok1 d1 => ?_⟩
  · rw [List.length_take]
    show _ ≤ 2 ^ k'
    omega
  · rw [List.length_take]
    omega
  · rw [List.length_take, Nat.min_eq_left (by omega)]
    exact G.less (G.keep k1 hok) (by omega)
  -- the rest
  have xx := x1.trans x2
  refine ⟨_, rfl, _, rfl, _, rfl, ((splitN ts.length : Nat) : Int), rfl, a, _, rfl, xx.seq hS, fun p2 hp2 => ?_⟩
  rw [cut_from]
  have x3 := Ext.new (o := .lst (xs.drop (splitN ts.length))) hp2
  have k3 := Kp.new (o := .lst (xs.drop (splitN ts.length))) hp2
  refine ⟨S, p2, _, ts.drop (splitN ts.length), r + 1, hF, rfl, SqL.of upd_same, ((hD.drop _).mono G xx.gr).mono G k3.gr, by omega, ?_, ?_, ?_, fun v2 H2 x4 ok2 d2 => ?_⟩
  · rw [List.length_drop]
    show _ ≤ 2 ^ k'
    omega
  · rw [List.length_drop]
    omega
  · rw [List.length_drop]
    exact G.keep k3 ok1
  refine ⟨S, _, _, topT (ts.take (splitN ts.length)), topT (ts.drop (splitN ts.length)), r, hF, rfl, ok2, G.mono (x3.trans x4).gr d1, d2, fun v H' x5 ok3 d3 => ?_⟩
  refine q v H' (((xx.trans x3).trans x4).trans x5) ok3 ?_
  rw [topT_more h2]
  exact d3
theorem ok_top_of {cc : Addr} (T : Txt K mg cc) (A : SlA P w K mg base Fam) : ∀ k : Nat, Cal P w K mg base (k + 3) "top_of" (spTop K Fam k) []
  | 0 => by
    obtain ⟨f, fd, ps, ds, F, m, kp, b, v⟩ := (cal_no (P := P) (w := w) (base := base) T.d_top_of 3).ex
    exact ⟨f, fd, ps, ds, F.imp fun vs H Q E h => by obtain ⟨_, _, _, _, _, _, _, _, _, z, _⟩ := h; exact absurd rfl z, m, kp, b, v⟩
  | k + 1 => ok_top_of1 T A (ok_top_of T A k)
end

/-! ### the program's other seals -/
section
variable {P : Program} {w : World} {K : PySem.W.Frag} {mg : Str → Option Value} {base : Heap} {Fam : Sys → Prop}
def spMark (m : Str) (Fam : Sys → Prop) : Sp := fun vs H Q _ => ∃ (S : Sys) (va vb : V) (a b : Tm) (r : Nat), Fam S ∧ vs = [.ref S.f, va, vb] ∧ S.ok H (r + 1) ∧ S.den H va a ∧ S.den H vb b ∧ ∀ v H', Ext H H' → S.ok H' r → S.den H' v (.sl m a b) → Q v H'
theorem ok_leaf_seal {cc : Addr} (T : Txt K mg cc) (A : SlA P w K mg base Fam) : Cal P w K mg base 2 "leaf_seal" (spMark "leaf" Fam) [] := by
  refine cal_of T.d_leaf_seal sc_leaf_seal (fun vs H Q E h => ?_) (fun f cdv A' outer s H vs Q E hr h => ?_)
  · obtain ⟨S, va, vb, a, b, r, _, rfl, _⟩ := h
    rfl
  obtain ⟨S, va, vb, a, b, r, hF, rfl, hok, ha, hb, q⟩ := h
  refine ⟨_, (pss_one (ps_ret (pe_sl (i := 0) A.held hr (by omega) rfl (by first | exact Or.inl rfl | exact Or.inr (Or.inl rfl) | exact Or.inr (Or.inr rfl)) (pa_cons pe_str (pa_cons (pv 1) (pa_cons (pv 2) pa_nil)))))), ?_⟩
  exact ⟨S, _, hF, rfl, hok, _, rfl, _, rfl, r, "leaf", a, b, _, _, rfl, by decide +kernel, hok, ha, hb, fun v H' e ok d => q v H' e ok d⟩
theorem ok_book_seal {cc : Addr} (T : Txt K mg cc) (A : SlA P w K mg base Fam) : Cal P w K mg base 2 "book_seal" (spMark "book" Fam) [] := by
  refine cal_of T.d_book_seal sc_book_seal (fun vs H Q E h => ?_) (fun f cdv A' outer s H vs Q E hr h => ?_)
  · obtain ⟨S, va, vb, a, b, r, _, rfl, _⟩ := h
    rfl
  obtain ⟨S, va, vb, a, b, r, hF, rfl, hok, ha, hb, q⟩ := h
  refine ⟨_, (pss_one (ps_ret (pe_sl (i := 0) A.held hr (by omega) rfl (by first | exact Or.inl rfl | exact Or.inr (Or.inl rfl) | exact Or.inr (Or.inr rfl)) (pa_cons pe_str (pa_cons (pv 1) (pa_cons (pv 2) pa_nil)))))), ?_⟩
  exact ⟨S, _, hF, rfl, hok, _, rfl, _, rfl, r, "book", a, b, _, _, rfl, by decide +kernel, hok, ha, hb, fun v H' e ok d => q v H' e ok d⟩
end

section
variable {P : Program} {w : World} {K : PySem.W.Frag} {mg : Str → Option Value} {base : Heap} {Fam : Sys → Prop}
def spParted (K : PySem.W.Frag) : Sp := fun vs H Q _ => ∃ (a : Addr) (xs : List V) (rows : List (Int × Str)) (l : Nat), vs = [.ref a, .int (l : Int)] ∧ SqL K H a xs ∧ KvL H xs rows ∧ (∀ e ∈ rows, 0 ≤ e.1) ∧ rows.length ≤ 1000 ∧
  ∀ q p1 p2 ys zs H', Ext H H' → Kp H H' → H p1 = none → H p2 = none → H' q = some (.tup [.ref p1, .ref p2]) → H' p1 = some (.lst ys) → H' p2 = some (.lst zs) → KvL H' ys (rows.filter (bitK l 0)) → KvL H' zs (rows.filter (bitK l 1)) → Q (.ref q) H'
theorem ok_parted {cc : Addr} (T : Txt K mg cc) : Cal P w K mg base 1 "parted" (spParted K) [] := by
  have Z := T.Z
  refine cal_of T.d_parted sc_parted (fun vs H Q E h => ?_) (fun f cdv A' outer s H vs Q E hr h => ?_)
  · obtain ⟨a, xs, rows, l, rfl, _⟩ := h
    rfl
  obtain ⟨a, xs, rows, l, rfl, hS, hk, h0, hl, q⟩ := h
  have hxl := hk.len
  have e16 : sizeLine = 16777216 := sizeLine_eq
  refine ⟨_, (pss_cons (ps_setLc (i := 2) (own := [("row", 4)]) (g := gName 4) (tt := _) rfl sc_parted.nd rfl rfl (sw_true rfl rfl rfl (by decide +kernel)) (pi_list (pv 0)) (blkOk_by (N := N_parted) (sc := defScope s_parted) (by decide +kernel)) (fun _ _ _ _ _ => (pg_name (i := 4) sc_parted.nd rfl (Or.inl rfl))) (fun _ _ _ _ _ => (pts_one (pt_cmpR op_eq (pe_op op_odd (pe_op op_shrN (pe_ix (r := rIxT K) ix_tup (pv 4) pe_int (fun _ _ => rfl)) (pv 1)) pe_int) pe_int (nomark _)))) (fun _ _ _ _ _ => (pv 4)))
  (pss_cons (ps_setLc (i := 3) (own := [("row", 4)]) (g := gName 4) (tt := _) rfl sc_parted.nd rfl rfl (sw_true rfl rfl rfl (by decide +kernel)) (pi_list (pv 0)) (blkOk_by (N := N_parted) (sc := defScope s_parted) (by decide +kernel)) (fun _ _ _ _ _ => (pg_name (i := 4) sc_parted.nd rfl (Or.inl rfl))) (fun _ _ _ _ _ => (pts_one (pt_cmpR op_eq (pe_op op_odd (pe_op op_shrN (pe_ix (r := rIxT K) ix_tup (pv 4) pe_int (fun _ _ => rfl)) (pv 1)) pe_int) pe_int (nomark _)))) (fun _ _ _ _ _ => (pv 4)))
  (pss_one (ps_ret (pe_tup (pa_cons (pv 2) (pa_cons (pv 3) pa_nil))))))), ?_⟩
  refine ⟨_, rfl, a, rfl, ⟨_, hS⟩, fun D nD => ?_⟩
  refine lc_list (K := K) (a := a) (xs := xs) (fun i H' => ∃ ys, Ext H H' ∧ Kp H H' ∧ H' D = some (.lst ys) ∧ KvL H' ys ((rows.take i).filter (bitK l 0))) ⟨[], Ext.new nD, Kp.new nD, upd_same, KvL.nil⟩ (fun i H' _ ⟨_, x, _⟩ => x.seq hS) ?_ ?_
  · rintro i y H' hi ⟨ys, x, k, hD, hy⟩
    have hlt := (List.getElem?_eq_some_iff.mp hi).1
    have hri : rows[i]? = some (rows[i]'(by omega)) := List.getElem?_eq_getElem _
    obtain ⟨qe, rfl, hqe, hqx⟩ := (hk.gr x.gr).at_ i y _ hi hri
    have h0e := h0 _ (List.getElem_mem (show i < rows.length by omega))
    generalize rows[i]'(by omega) = e at hri hqe hqx h0e
    obtain ⟨m, hm⟩ := Int.eq_ofNat_of_zero_le (Int.ediv_nonneg h0e (Int.le_of_lt (show (0 : Int) < 2 ^ l from Int.pow_pos (by decide))))
    refine ⟨rfl, _, rfl, qe, _, 0, _, rfl, rfl, SqT.of hqe, rfl, _, rfl, _, l, rfl, rfl, m, by rw [hm], rfl, rfl, _, rfl, ite2 (fun c => ?_) (fun c => ?_)⟩
    · have c' : ((m % 2 : Nat) : Int) = 0 := V.int.inj (of_decide_eq_true c)
      have hb : bitK l 0 e = true := decide_eq_true (by rw [hm]; omega)
      refine ⟨_, rfl, ys, hD, ?_, ys ++ [.ref qe], x.mut nD, k.trans (Kp.lst hD), upd_same, ?_⟩
      · have := hy.len
        have := List.length_filter_le (bitK l 0) (rows.take i)
        rw [List.length_take] at this
        omega
      · rw [take_filter _ _ hri, hb]
        exact (hy.gr (Kp.lst hD).gr).snoc ((Kp.lst hD) _ _ hqe True.intro) hqx
    · have c' : ¬ ((m % 2 : Nat) : Int) = 0 := fun z => c (decide_eq_true (by rw [z]))
      have hb : bitK l 0 e = false := decide_eq_false (by rw [hm]; omega)
      refine ⟨ys, x, k, hD, ?_⟩
      rw [take_filter _ _ hri, hb]
      simpa using hy
  rintro H1 ⟨ys, x1, k1, hD1, hy1⟩
  rw [hxl, List.take_length] at hy1
  refine ⟨_, rfl, a, rfl, ⟨_, x1.seq hS⟩, fun D2 nD2 => ?_⟩
  refine lc_list (K := K) (a := a) (xs := xs) (fun i H' => ∃ zs, Ext H1 H' ∧ Kp H1 H' ∧ H' D2 = some (.lst zs) ∧ KvL H' zs ((rows.take i).filter (bitK l 1))) ⟨[], Ext.new nD2, Kp.new nD2, upd_same, KvL.nil⟩ (fun i H' _ ⟨_, x, _⟩ => (x1.trans x).seq hS) ?_ ?_
  · rintro i y H' hi ⟨zs, x, k, hD, hy⟩
    have hlt := (List.getElem?_eq_some_iff.mp hi).1
    have hri : rows[i]? = some (rows[i]'(by omega)) := List.getElem?_eq_getElem _
    obtain ⟨qe, rfl, hqe, hqx⟩ := (hk.gr (x1.trans x).gr).at_ i y _ hi hri
    have h0e := h0 _ (List.getElem_mem (show i < rows.length by omega))
    generalize rows[i]'(by omega) = e at hri hqe hqx h0e
    obtain ⟨m, hm⟩ := Int.eq_ofNat_of_zero_le (Int.ediv_nonneg h0e (Int.le_of_lt (show (0 : Int) < 2 ^ l from Int.pow_pos (by decide))))
    refine ⟨rfl, _, rfl, qe, _, 0, _, rfl, rfl, SqT.of hqe, rfl, _, rfl, _, l, rfl, rfl, m, by rw [hm], rfl, rfl, _, rfl, ite2 (fun c => ?_) (fun c => ?_)⟩
    · have c' : ((m % 2 : Nat) : Int) = 1 := V.int.inj (of_decide_eq_true c)
      have hb : bitK l 1 e = true := decide_eq_true (by rw [hm]; omega)
      refine ⟨_, rfl, zs, hD, ?_, zs ++ [.ref qe], x.mut nD2, k.trans (Kp.lst hD), upd_same, ?_⟩
      · have := hy.len
        have := List.length_filter_le (bitK l 1) (rows.take i)
        rw [List.length_take] at this
        omega
      · rw [take_filter _ _ hri, hb]
        exact (hy.gr (Kp.lst hD).gr).snoc ((Kp.lst hD) _ _ hqe True.intro) hqx
    · have c' : ¬ ((m % 2 : Nat) : Int) = 1 := fun z => c (decide_eq_true (by rw [z]))
      have hb : bitK l 1 e = false := decide_eq_false (by rw [hm]; omega)
      refine ⟨zs, x, k, hD, ?_⟩
      rw [take_filter _ _ hri, hb]
      simpa using hy
  rintro H2 ⟨zs, x2, k2, hD2, hy2⟩
  rw [hxl, List.take_length] at hy2
  refine ⟨_, rfl, _, rfl, by show 2 ≤ sizeLine; decide, fun p np => ?_⟩
  have u := Ext.new (o := .tup [.ref D, .ref D2]) np
  have ku := Kp.new (o := .tup [.ref D, .ref D2]) np
  exact q p D D2 ys zs _ ((x1.trans x2).trans u) ((k1.trans k2).trans ku) nD (x1.free nD2) upd_same ((x2.trans u).lst hD1) (u.lst hD2) (hy1.gr (x2.trans u).gr) (hy2.gr u.gr)
def spPart (K : PySem.W.Frag) (Fam : Sys → Prop) (k : Nat) : Sp := fun vs H Q _ => ∃ (S : Sys) (a : Addr) (xs : List V) (rows : List (Int × Str)) (l r : Nat), Fam S ∧ vs = [.ref S.f, .ref a, .int (l : Int)] ∧ SqL K H a xs ∧ KvL H xs rows ∧ RowsOk l rows ∧ rows.length ≤ 1000 ∧ (l < k ∧ l ≤ 20) ∧ S.ok H (r + costP l rows.length) ∧
  ∀ v H', Ext H H' → S.ok H' r → S.den H' v (partT l rows) → Q v H'
theorem ok_part1 {cc : Addr} {k : Nat} (T : Txt K mg cc) (A : SlA P w K mg base Fam) (C_none_seal : Cal P w K mg base 2 "none_seal" (spNone Fam) []) (C_parted : Cal P w K mg base 1 "parted" (spParted K) []) (C_part_top : Cal P w K mg base (k + 3) "part_top" (spPart K Fam k) []) : Cal P w K mg base (k + 4) "part_top" (spPart K Fam (k + 1)) [] := by
  have Z := T.Z
  refine cal_of T.d_part_top sc_part_top (fun vs H Q E h => ?_) (fun f cdv A' outer s H vs Q E hr h => ?_)
  · obtain ⟨S, a, xs, rows, l, r, _, rfl, _⟩ := h
    rfl
  obtain ⟨S, a, xs, rows, l, r, hF, rfl, hS, hk, hro, hl, hlk, hok, q⟩ := h
  have G := A.good hF
  have hxl := hk.len
  refine ⟨_, (pss_cons (ps_if (pt_cmpR op_eq (pe_callB call_len_seq rfl Z.len PySem.boot_len (pa_cons (pv 1) pa_nil)) pe_int (nomark _)) (pss_one (ps_ret (pe_c C_none_seal hr (by omega) rfl (pa_cons (pv 0) pa_nil)))) pss_nil)
  (pss_cons (ps_if (pt_cmpR op_eq (pe_callB call_len_seq rfl Z.len PySem.boot_len (pa_cons (pv 1) pa_nil)) pe_int (nomark _)) (pss_one (ps_ret (pe_sl (i := 0) A.held hr (by omega) rfl (by first | exact Or.inl rfl | exact Or.inr (Or.inl rfl) | exact Or.inr (Or.inr rfl)) (pa_cons pe_str (pa_cons (pe_ix ix_tup (pe_ix ix_list (pv 1) pe_int (fun _ _ => rfl)) pe_int (fun _ _ => rfl)) (pa_cons (pe_ix ix_tup (pe_ix ix_list (pv 1) pe_int (fun _ _ => rfl)) pe_int (fun _ _ => rfl)) pa_nil)))))) pss_nil)
  (pss_cons (ps_set (i := 3) sc_part_top.nd rfl (Or.inl rfl) (pe_c C_parted hr (by omega) rfl (pa_cons (pv 1) (pa_cons (pe_op op_sub (pv 2) pe_int) pa_nil))))
  (pss_one (ps_ret (pe_sl (i := 0) A.held hr (by omega) rfl (by first | exact Or.inl rfl | exact Or.inr (Or.inl rfl) | exact Or.inr (Or.inr rfl)) (pa_cons pe_str (pa_cons (pe_c C_part_top hr (by omega) rfl (pa_cons (pv 0) (pa_cons (pe_ix ix_tup (pv 3) pe_int (fun _ _ => rfl)) (pa_cons (pe_op op_sub (pv 2) pe_int) pa_nil)))) (pa_cons (pe_c C_part_top hr (by omega) rfl (pa_cons (pv 0) (pa_cons (pe_ix ix_tup (pv 3) pe_int (fun _ _ => rfl)) (pa_cons (pe_op op_sub (pv 2) pe_int) pa_nil)))) pa_nil))))))))), ?_⟩
  refine ⟨_, rfl, a, xs, rfl, .inl hS, rfl, _, rfl, ite2 (fun c => ?_) (fun c => ?_)⟩
  · have c' : (xs.length : Int) = 0 := V.int.inj (of_decide_eq_true c)
    have e : rows = [] := List.eq_nil_of_length_eq_zero (by omega)
    subst e
    refine ⟨_, rfl, S, r, hF, rfl, hok, fun v H' x ok d => q v H' x ok ?_⟩
    rw [partT_nil]
    exact d
  have n0 : xs.length ≠ 0 := fun z => c (decide_eq_true (by rw [z] <;> rfl))
  have cpos : costP l rows.length = rows.length * (2 * l + 1) := if_neg (by omega)
  refine ⟨_, rfl, a, xs, rfl, .inl hS, rfl, _, rfl, ite2 (fun c => ?_) (fun c => ?_)⟩
  · have c' : (xs.length : Int) = 1 := V.int.inj (of_decide_eq_true c)
    match rows, hk, hxl, q, cpos, hok with
    | [e], hk, hxl, q, cpos, hok =>
      obtain ⟨v0, hv0⟩ : ∃ v0, xs[0]? = some v0 := ⟨xs[0]'(by omega), List.getElem?_eq_getElem _⟩
      obtain ⟨qe, rfl, hqe, hqx⟩ := hk.at_ 0 v0 e hv0 rfl
      have h1 : 1 ≤ costP l ([e] : List (Int × Str)).length := by rw [cpos]; show 1 ≤ 1 * _; omega
      refine ⟨S, _, hF, rfl, hok, _, rfl, a, xs, 0, _, rfl, rfl, hS, atI_nat hv0, qe, _, 0, _, rfl, rfl, SqT.of hqe, rfl, _, rfl, a, xs, 0, _, rfl, rfl, hS, atI_nat hv0, qe, _, 1, _, rfl, rfl, SqT.of hqe, rfl, r, "row", .int e.1, .str e.2, _, _, rfl, by decide +kernel, G.less hok (by omega), G.int _ hok, G.str _ hok hqx, fun v H' x ok d => q v H' x ok ?_⟩
      rw [partT_one]
      exact d
    | [], _, hxl, _, _, _ => exact absurd hxl n0
    | _ :: _ :: _, _, hxl, _, _, _ => simp at hxl; omega
  have n1 : xs.length ≠ 1 := fun z => c (decide_eq_true (by rw [z] <;> rfl))
  have h2 : 2 ≤ rows.length := by omega
  obtain ⟨l', rfl⟩ : ∃ l', l = l' + 1 := by
    cases l with
    | zero => have := hro.zero; omega
    | succ l' => exact ⟨l', rfl⟩
  have el : ((l' + 1 : Nat) : Int) - 1 = (l' : Int) := by omega
  have hsp := filter_split (rows := rows) l'
  have hcs := costP_split (l := l') hsp h2
  refine ⟨_, rfl, _, rfl, _, 1, rfl, rfl, a, xs, rows, l', by rw [← el]; rfl, hS, hk, hro.1, hl, fun qb p1 p2 ys zs H1 x1 k1 _ _ hqb hp1 hp2 hy hz => ?_⟩
  have ok1 := G.keep k1 hok
  have lf1 := List.length_filter_le (bitK l' 0) rows
  have lf2 := List.length_filter_le (bitK l' 1) rows
  refine ⟨S, _, hF, rfl, ok1, _, rfl, _, rfl, qb, _, 0, .ref p1, rfl, rfl, SqT.of hqb, rfl, _, rfl, _, 1, rfl, rfl, S, p1, ys, rows.filter (bitK l' 0), l', r + 1 + costP l' (rows.filter (bitK l' 1)).length, hF, by rw [← el]; rfl, SqL.of hp1, hy, hro.part, by omega, by omega, G.less ok1 (by omega), fun v1 H2 x2 ok2 d1 => ?_⟩
  refine ⟨_, rfl, _, rfl, qb, _, 1, .ref p2, rfl, rfl, SqT.of (x2.tup hqb), rfl, _, rfl, _, 1, rfl, rfl, S, p2, zs, rows.filter (bitK l' 1), l', r + 1, hF, by rw [← el]; rfl, SqL.of (x2.lst hp2), hz.gr x2.gr, hro.part, by omega, by omega, G.less ok2 (by omega), fun v2 H3 x3 ok3 d2 => ?_⟩
  refine ⟨r, "fork", _, _, v1, v2, rfl, by decide +kernel, ok3, G.mono x3.gr d1, d2, fun v H4 x4 ok4 d4 => q v H4 (((x1.trans x2).trans x3).trans x4) ok4 ?_⟩
  rw [partT_more h2]
  exact d4
theorem ok_part {cc : Addr} (T : Txt K mg cc) (A : SlA P w K mg base Fam) (C_none_seal : Cal P w K mg base 2 "none_seal" (spNone Fam) []) (C_parted : Cal P w K mg base 1 "parted" (spParted K) []) : ∀ k : Nat, Cal P w K mg base (k + 3) "part_top" (spPart K Fam k) []
  | 0 => by
    obtain ⟨f, fd, ps, ds, F, m, kp, b, v⟩ := (cal_no (P := P) (w := w) (base := base) T.d_part_top 3).ex
    exact ⟨f, fd, ps, ds, F.imp fun vs H Q E h => by obtain ⟨_, _, _, _, _, _, _, _, _, _, _, _, z, _⟩ := h; exact absurd z.1 (Nat.not_lt_zero _), m, kp, b, v⟩
  | k + 1 => ok_part1 T A C_none_seal C_parted (ok_part T A C_none_seal C_parted k)
end

/-! ### a table: its dict as a row of pairs -/
def convT (kvs : List (Int × Str)) : List (Key × V) := kvs.map fun e => ((Sum.inl e.1 : Key), V.str e.2)
def putI (kvs : List (Int × Str)) (k : Int) (x : Str) : List (Int × Str) := if (kvs.any fun e => decide (e.1 = k)) = true then kvs.map (fun e => if e.1 = k then (e.1, x) else e) else kvs ++ [(k, x)]
def popI (kvs : List (Int × Str)) (k : Int) : List (Int × Str) := kvs.filter fun e => decide (e.1 ≠ k)
def getI (kvs : List (Int × Str)) (k : Int) : Option Str := (kvs.find? fun e => decide (e.1 = k)).map (·.2)
theorem inl_iff (a k : Int) : ((Sum.inl a : Key) = Sum.inl k) ↔ a = k := ⟨Sum.inl.inj, fun h => by rw [h]⟩
theorem conv_put (kvs : List (Int × Str)) (k : Int) (x : Str) : putK (convT kvs) (.inl k) (.str x) = convT (putI kvs k x) := by
  unfold putK putI convT
  rw [List.any_map]
  have e : ((fun kv : Key × V => decide (kv.1 = (Sum.inl k : Key))) ∘ fun e : Int × Str => ((Sum.inl e.1 : Key), V.str e.2)) = fun e : Int × Str => decide (e.1 = k) := by
    funext e
    exact decide_eq_decide.mpr (inl_iff _ _)
  rw [e]
  by_cases h : (kvs.any fun e => decide (e.1 = k)) = true
  · rw [if_pos h, if_pos h, List.map_map, List.map_map]
    refine List.map_congr_left fun e _ => ?_
    show (if (Sum.inl e.1 : Key) = Sum.inl k then _ else _) = _
    by_cases q : e.1 = k
    · rw [if_pos (by rw [q])]
      show _ = (fun e : Int × Str => ((Sum.inl e.1 : Key), V.str e.2)) (if e.1 = k then (e.1, x) else e)
      rw [if_pos q]
    · rw [if_neg (fun z => q (Sum.inl.inj z))]
      show _ = (fun e : Int × Str => ((Sum.inl e.1 : Key), V.str e.2)) (if e.1 = k then (e.1, x) else e)
      rw [if_neg q]
  · rw [if_neg h, if_neg h, List.map_append]
    rfl
theorem conv_pop (kvs : List (Int × Str)) (k : Int) : dropK (convT kvs) (.inl k) = convT (popI kvs k) := by
  unfold dropK popI convT
  rw [List.filter_map]
  congr 1
  refine List.filter_congr fun e _ => ?_
  exact decide_eq_decide.mpr (not_congr (inl_iff _ _))
theorem conv_get (kvs : List (Int × Str)) (k : Int) : valV (convT kvs) (.inl k) = (getI kvs k).map V.str := by
  unfold valV getI convT
  rw [List.find?_map]
  have e : ((fun kv : Key × V => decide (kv.1 = (Sum.inl k : Key))) ∘ fun e : Int × Str => ((Sum.inl e.1 : Key), V.str e.2)) = fun e : Int × Str => decide (e.1 = k) := by
    funext e
    exact decide_eq_decide.mpr (inl_iff _ _)
  rw [e, Option.map_map, Option.map_map]
  rfl
def tbF (f : Addr) (depth : Int) (d : Addr) : List (Str × V) := [("seal", .ref f), ("depth", .int depth), ("held", .ref d)]
theorem tbF_seal (f : Addr) (n : Int) (d : Addr) : (tbF f n d).lookup ("seal" : Str) = some (.ref f) := by kernel_rfl
theorem tbF_depth (f : Addr) (n : Int) (d : Addr) : (tbF f n d).lookup ("depth" : Str) = some (.int n) := by kernel_rfl
theorem tbF_held (f : Addr) (n : Int) (d : Addr) : (tbF f n d).lookup ("held" : Str) = some (.ref d) := by kernel_rfl
theorem tbF_mk (f : Addr) (n : Int) (d : Addr) : putF "held" (.ref d) (putF "depth" (.int n) (putF "seal" (.ref f) [])) = tbF f n d := by kernel_rfl
theorem tbF_no (f : Addr) (n : Int) (d : Addr) : (tbF f n d).lookup ("asked" : Str) = none ∧ (tbF f n d).lookup ("put" : Str) = none ∧ (tbF f n d).lookup ("cut" : Str) = none ∧ (tbF f n d).lookup ("value" : Str) = none ∧ (tbF f n d).lookup ("rows" : Str) = none ∧ (tbF f n d).lookup ("head" : Str) = none ∧ (tbF f n d).lookup ("way" : Str) = none ∧ (tbF f n d).lookup ("twin" : Str) = none :=
  ⟨by kernel_rfl, by kernel_rfl, by kernel_rfl, by kernel_rfl, by kernel_rfl, by kernel_rfl, by kernel_rfl, by kernel_rfl⟩
section
variable {P : Program} {w : World} {K : PySem.W.Frag} {mg : Str → Option Value} {base : Heap} {C : Addr}
def spAsked (mg : Str → Option Value) (C : Addr) : Sp := fun vs H Q E => ∃ (f p dx d : Addr) (l : Nat) (k : Int), vs = [.ref p, .int k] ∧ H p = some (.ins C dx (tbF f (l : Int) d)) ∧ l ≤ 1000 ∧
  (0 ≤ k ∧ k < 2 ^ l → Q .non H) ∧ (¬ (0 ≤ k ∧ k < 2 ^ l) → ∀ D, mg "NoPlace" = some (.ref D) → E (.ref D) none H)
theorem ok_askedN {cc : Addr} (T : Txt K mg cc) (KT : K_Table K mg C) : MetN P w K mg base 1 C "asked" (spAsked mg C) := by
  obtain ⟨C_NoPlace, g_NoPlace, F_NoPlace⟩ := T.x_NoPlace.ex
  refine metN_of KT.cl KT.m_asked sc_Table_asked (fun vs H Q E h => ?_) (fun f cdv A' outer s H vs Q E hr h => ?_)
  · obtain ⟨f, p, dx, d, l, k, rfl, _⟩ := h
    rfl
  obtain ⟨f, p, dx, d, l, k, rfl, hp, hl, q1, q2⟩ := h
  refine ⟨_, (pss_one (ps_if (pt_not (pt_chain op_le op_lt pe_int (pv 1) (pe_op op_oneShl pe_int (pe_fld (pv 0) rfl)))) (pss_one (ps_raiseXN F_NoPlace g_NoPlace rfl (L2N.takes_of rfl rfl rfl rfl) rfl)) pss_nil)), ?_⟩
  refine ⟨_, rfl, _, _, rfl, rfl, _, rfl, ite2 (fun c => ?_) (fun c => ?_)⟩
  · have c' : (0 : Int) ≤ k := of_decide_eq_true c
    refine ⟨_, rfl, p, C, dx, _, _, rfl, hp, KT.cl, KT.n_depth, tbF_depth _ _ _, l, rfl, rfl, by omega, _, _, rfl, rfl, _, rfl, ?_⟩
    by_cases c2 : k < 2 ^ l
    · rw [decide_eq_true c2]
      exact iteF (q1 ⟨c', c2⟩)
    · rw [decide_eq_false c2]
      exact iteT (q2 (fun z => c2 z.2) _ g_NoPlace)
  · have c' : ¬ (0 : Int) ≤ k := of_decide_eq_false (Bool.eq_false_iff.mpr c)
    exact ⟨_, rfl, iteT (q2 (fun z => c' z.1) _ g_NoPlace)⟩
theorem ok_asked {cc : Addr} (T : Txt K mg cc) (KT : K_Table K mg C) : MetR P w K mg base 1 C "asked" (spAsked mg C) := (ok_askedN T KT).weak
theorem ExtO.dict {d : Addr} {H : Hp} {kvs : List (Key × V)} {o : HO} (h : H d = some (.dK kvs)) : ExtO d H (upd H d o) := by
  refine ⟨fun a u q e _ => by rw [upd_ne q]; exact e, fun a ks e => ⟨[], ?_⟩, (Kp.dK h).gr⟩
  rw [List.append_nil, upd_ne]
  · exact e
  · rintro rfl
    rw [h] at e
    cases e
structure TbAt (C : Addr) (f : Addr) (H : Hp) (p d : Addr) (l : Nat) (kvs : List (Int × Str)) : Prop where
  at_ : ∃ dx, H p = some (.ins C dx (tbF f (l : Int) d))
  held : H d = some (.dK (convT kvs))
  small : kvs.length ≤ 1000 ∧ l ≤ 1000
def spPut (mg : Str → Option Value) (C : Addr) : Sp := fun vs H Q E => ∃ (f p d : Addr) (l : Nat) (kvs : List (Int × Str)) (k : Int) (x : Str), vs = [.ref p, .int k, .str x] ∧ TbAt C f H p d l kvs ∧
  (0 ≤ k ∧ k < 2 ^ l → Q .non (upd H d (.dK (convT (putI kvs k x))))) ∧ (¬ (0 ≤ k ∧ k < 2 ^ l) → ∀ D, mg "NoPlace" = some (.ref D) → E (.ref D) none H)
theorem ok_putN {cc : Addr} (T : Txt K mg cc) (KT : K_Table K mg C) : MetN P w K mg base 2 C "put" (spPut mg C) := by
  have M_asked := ok_askedN (P := P) (w := w) (base := base) T KT
  refine metN_of KT.cl KT.m_put sc_Table_put (fun vs H Q E h => ?_) (fun f cdv A' outer s H vs Q E hr h => ?_)
  · obtain ⟨f, p, d, l, kvs, k, x, rfl, _⟩ := h
    rfl
  obtain ⟨f', p, d, l, kvs, k, x, rfl, ⟨⟨dx, hp⟩, hd, hz, hl⟩, q1, q2⟩ := h
  have hu := hu_of hr
  refine ⟨_, (pss_cons (ps_expr (pe_mtn M_asked (L2N.takes_of rfl rfl rfl rfl) hr (by omega) (pv 0) (pa_cons (pv 1) pa_nil)))
  (pss_one (ps_dput hu (pe_fld (pv 0) rfl) (pv 1) (pv 2) rfl))), ?_⟩
  refine ⟨_, rfl, p, dx, _, rfl, hp, (tbF_no _ _ _).1, _, rfl, f', p, dx, d, l, k, rfl, hp, hl, fun hk => ?_, fun hk D hD => q2 hk D hD⟩
  refine ⟨_, rfl, _, rfl, p, C, dx, _, _, rfl, hp, KT.cl, KT.n_held, tbF_held _ _ _, _, rfl, d, _, rfl, DPut.k (k := .inl k) hd (by unfold convT; rw [List.length_map, sizeLine_eq]; omega), ?_⟩
  rw [conv_put]
  exact q1 hk
theorem ok_put {cc : Addr} (T : Txt K mg cc) (KT : K_Table K mg C) : MetR P w K mg base 2 C "put" (spPut mg C) := (ok_putN T KT).weak
def spValue (mg : Str → Option Value) (C : Addr) : Sp := fun vs H Q E => ∃ (f p d : Addr) (l : Nat) (kvs : List (Int × Str)) (k : Int), vs = [.ref p, .int k] ∧ TbAt C f H p d l kvs ∧
  (0 ≤ k ∧ k < 2 ^ l → Q (((getI kvs k).map V.str).getD .non) H) ∧ (¬ (0 ≤ k ∧ k < 2 ^ l) → ∀ D, mg "NoPlace" = some (.ref D) → E (.ref D) none H)
theorem ok_value {cc : Addr} (T : Txt K mg cc) (KT : K_Table K mg C) : MetR P w K mg base 2 C "value" (spValue mg C) := by
  have M_asked := ok_asked (P := P) (w := w) (base := base) T KT
  refine metR_of KT.cl KT.m_value sc_Table_value (fun vs H Q E h => ?_) (fun f cdv A' outer s H vs Q E hr h => ?_)
  · obtain ⟨f, p, d, l, kvs, k, rfl, _⟩ := h
    rfl
  obtain ⟨f', p, d, l, kvs, k, rfl, ⟨⟨dx, hp⟩, hd, hz, hl⟩, q1, q2⟩ := h
  have hu := hu_of hr
  refine ⟨_, (pss_cons (ps_expr (pe_mtx M_asked (takes_of rfl rfl rfl rfl) hr (by omega) (pv 0) (pa_cons (pv 1) pa_nil)))
  (pss_one (ps_ret (pe_dget1 hu (pe_fld (pv 0) rfl) (pv 1) ⟨rfl, rfl, rfl, rfl⟩)))), ?_⟩
  refine ⟨_, rfl, p, dx, _, rfl, hp, (tbF_no _ _ _).1, _, rfl, f', p, dx, d, l, k, rfl, hp, hl, fun hk => ?_, fun hk D hD => q2 hk D hD⟩
  refine ⟨_, rfl, p, C, dx, _, _, rfl, hp, KT.cl, KT.n_held, tbF_held _ _ _, d, rfl, .inl ⟨_, .inl hd⟩, _, rfl, _, DGet.k (k := .inl k) hd, ?_⟩
  rw [conv_get]
  exact q1 hk
end

section
variable {P : Program} {w : World} {K : PySem.W.Frag} {mg : Str → Option Value} {base : Heap} {C : Addr}
def spCut (mg : Str → Option Value) (C : Addr) : Sp := fun vs H Q E => ∃ (f p d : Addr) (l : Nat) (kvs : List (Int × Str)) (k : Int), vs = [.ref p, .int k] ∧ TbAt C f H p d l kvs ∧
  (0 ≤ k ∧ k < 2 ^ l ∧ (getI kvs k).isSome = true → Q .non (upd H d (.dK (convT (popI kvs k))))) ∧ (¬ (0 ≤ k ∧ k < 2 ^ l ∧ (getI kvs k).isSome = true) → ∀ D, mg "NoPlace" = some (.ref D) → E (.ref D) none H)
theorem ok_cutN {cc : Addr} (T : Txt K mg cc) (KT : K_Table K mg C) : MetN P w K mg base 2 C "cut" (spCut mg C) := by
  obtain ⟨C_NoPlace, g_NoPlace, F_NoPlace⟩ := T.x_NoPlace.ex
  have M_asked := ok_askedN (P := P) (w := w) (base := base) T KT
  refine metN_of KT.cl KT.m_cut sc_Table_cut (fun vs H Q E h => ?_) (fun f cdv A' outer s H vs Q E hr h => ?_)
  · obtain ⟨f, p, d, l, kvs, k, rfl, _⟩ := h
    rfl
  obtain ⟨f', p, d, l, kvs, k, rfl, ⟨⟨dx, hp⟩, hd, hz, hl⟩, q1, q2⟩ := h
  have hu := hu_of hr
  refine ⟨_, (pss_cons (ps_expr (pe_mtn M_asked (L2N.takes_of rfl rfl rfl rfl) hr (by omega) (pv 0) (pa_cons (pv 1) pa_nil)))
  (pss_cons (ps_if (pt_cmp (pc_dnotin hu (pv 1) (pe_fld (pv 0) rfl))) (pss_one (ps_raiseXN F_NoPlace g_NoPlace rfl (L2N.takes_of rfl rfl rfl rfl) rfl)) pss_nil)
  (pss_one (ps_expr (pe_dpop1 (pe_fld (pv 0) rfl) (pv 1) ⟨rfl, rfl, rfl, rfl⟩))))), ?_⟩
  refine ⟨_, rfl, p, dx, _, rfl, hp, (tbF_no _ _ _).1, _, rfl, f', p, dx, d, l, k, rfl, hp, hl, fun hk => ?_, fun hk D hD => q2 (fun z => hk ⟨z.1, z.2.1⟩) D hD⟩
  refine ⟨_, rfl, _, rfl, p, C, dx, _, _, rfl, hp, KT.cl, KT.n_held, tbF_held _ _ _, d, _, rfl, DGet.k (k := .inl k) hd, _, rfl, ?_⟩
  have hg := conv_get kvs k
  cases hgi : getI kvs k with
  | none =>
    rw [hgi] at hg
    rw [hg]
    exact iteT (q2 (fun z => by have := z.2.2; rw [hgi] at this; cases this) _ g_NoPlace)
  | some x =>
    rw [hgi] at hg
    rw [hg]
    refine iteF ?_
    refine ⟨_, rfl, p, C, dx, _, _, rfl, hp, KT.cl, KT.n_held, tbF_held _ _ _, d, rfl, .inl ⟨_, .inl hd⟩, _, rfl, _, .inl k, .str x, hd, rfl, hg, ?_⟩
    rw [conv_pop]
    exact q1 ⟨hk.1, hk.2, by rw [hgi]; rfl⟩
theorem ok_cut {cc : Addr} (T : Txt K mg cc) (KT : K_Table K mg C) : MetR P w K mg base 2 C "cut" (spCut mg C) := (ok_cutN T KT).weak
end

section
variable {P : Program} {w : World} {K : PySem.W.Frag} {mg : Str → Option Value} {base : Heap} {C : Addr}
def kOf (H : Hp) : V → Int
  | .ref t => match H t with
    | some (.tup [.int i, .str _]) => i
    | _ => 0
  | _ => 0
def fOf (H : Hp) : V → Str
  | .ref t => match H t with
    | some (.tup [.int _, .str x]) => x
    | _ => ""
  | _ => ""
theorem kOf_at {H : Hp} {t : Addr} {i : Int} {x : Str} (h : H t = some (.tup [.int i, .str x])) : kOf H (.ref t) = i ∧ fOf H (.ref t) = x := by
  unfold kOf fOf
  simp only [h]
  exact ⟨trivial, trivial⟩
theorem nodup_key {kvs : List (Int × Str)} (h : (kvs.map (·.1)).Nodup) {a b : Int × Str} (ha : a ∈ kvs) (hb : b ∈ kvs) (e : a.1 = b.1) : a = b := by
  induction kvs with
  | nil => cases ha
  | cons c r ih =>
    rw [List.map_cons, List.nodup_cons] at h
    rcases List.mem_cons.mp ha with rfl | ha'
    · rcases List.mem_cons.mp hb with rfl | hb'
      · rfl
      · exact absurd (List.mem_map.mpr ⟨b, hb', e.symm⟩) h.1
    · rcases List.mem_cons.mp hb with rfl | hb'
      · exact absurd (List.mem_map.mpr ⟨a, ha', e⟩) h.1
      · exact ih h.2 ha' hb'
def spRows (C : Addr) : Sp := fun vs H Q _ => ∃ (f p d : Addr) (l : Nat) (kvs : List (Int × Str)), vs = [.ref p] ∧ TbAt C f H p d l kvs ∧ (kvs.map (·.1)).Nodup ∧ (∀ e ∈ kvs, txtOk e.2 = true) ∧
  ∀ q ys rows H', Ext H H' → Kp H H' → H q = none → H' q = some (.lst ys) → KvL H' ys rows → rows.Perm kvs → rows.Pairwise (fun a b => a.1 ≤ b.1) → Q (.ref q) H'
theorem ok_rows {cc : Addr} (T : Txt K mg cc) (KT : K_Table K mg C) : Met P w K mg base 1 C "rows" (spRows C) [] := by
  have Z := T.Z
  refine met_of KT.cl KT.m_rows sc_Table_rows (fun vs H Q E h => ?_) (fun f cdv A' outer s H vs Q E hr h => ?_)
  · obtain ⟨f, p, d, l, kvs, rfl, _⟩ := h
    rfl
  obtain ⟨f', p, d, l, kvs, rfl, ⟨⟨dx, hp⟩, hd, hz, hl⟩, hnd, htx, q⟩ := h
  have e16 : sizeLine = 16777216 := sizeLine_eq
  refine ⟨_, (pss_one (ps_ret (pe_callB cr_sortedKv rfl Z.sorted (by decide +kernel) (pa_cons (pe_lock (pe_lc (own := [("key", 1), ("text", 2)]) (g := gTup K 2 (gCons (gName 1) (gCons (gName 2) gNil))) (tt := tYes) rfl sc_Table_rows.nd (pi_items (pe_fld (pv 0) rfl)) (blkOk_by (N := N_Table_rows) (sc := defScope s_Table_rows) (by decide +kernel)) (fun _ _ _ _ _ => (pg_tup rfl (pgs_cons (pg_name (i := 1) sc_Table_rows.nd rfl (Or.inl rfl)) (pgs_cons (pg_name (i := 2) sc_Table_rows.nd rfl (Or.inl rfl)) pgs_nil)))) (fun _ _ _ _ _ => pts_nil) (fun _ _ _ _ _ => (pe_tup (pa_cons (pv 1) (pa_cons (pv 2) pa_nil)))))) pa_nil)))), ?_⟩
  refine ⟨d, _, hd, True.intro, fun od => ?_⟩
  have ndp : p ≠ d := fun z => by rw [z, hd] at hp; cases hp
  refine ⟨_, rfl, p, C, dx, _, _, rfl, by rw [upd_ne ndp]; exact hp, KT.cl, KT.n_held, tbF_held _ _ _, d, od, convT kvs, rfl, upd_same, fun D nD => ?_⟩
  have lc : (convT kvs).length = kvs.length := by unfold convT; rw [List.length_map]
  have x0 := ExtO.dict (o := .frz od (.dK (convT kvs))) hd
  have k0 := Kp.dK (o := .frz od (.dK (convT kvs))) hd
  have hd0 : upd H d (.frz od (.dK (convT kvs))) d = some (.frz od (.dK (convT kvs))) := upd_same
  generalize upd H d (.frz od (.dK (convT kvs))) = H0 at x0 k0 hd0 nD ⊢
  have nDd : D ≠ d := fun z => by rw [z, hd0] at nD; cases nD
  have nDH : H D = none := by
    cases e : H D with
    | none => rfl
    | some o =>
      by_cases n : ∃ ks, o = .dT ks
      · obtain ⟨ks, rfl⟩ := n
        obtain ⟨m, e1⟩ := x0.grow D ks e
        rw [e1] at nD
        cases nD
      · rw [x0.keep D o nDd e fun ks z => n ⟨ks, z⟩] at nD
        cases nD
  refine lc_it walk_items (fun i H' => ∃ acc, H' d = some (.frz od (.dK (convT kvs))) ∧ Ext H0 H' ∧ Kp H0 H' ∧ H' D = some (.lst acc) ∧ KvL H' acc (kvs.take i)) ⟨[], by rw [upd_ne nDd.symm]; exact hd0, Ext.new nD, Kp.new nD, upd_same, KvL.nil⟩ (fun i H' _ ⟨_, h, _⟩ => h) ?_ ?_
  · rintro i x H1 H2 hi ⟨acc, h1, x1, k1, hD, hk⟩ ⟨t, kx, vx, rfl, nt, rfl, e1, e2⟩
    rw [lc] at hi
    obtain ⟨e, he⟩ : ∃ e, kvs[i]? = some e := ⟨kvs[i], List.getElem?_eq_getElem hi⟩
    have hc : (convT kvs)[i]? = some ((Sum.inl e.1 : Key), V.str e.2) := by unfold convT; rw [List.getElem?_map, he]; rfl
    have e1' : (convT kvs)[i]?.map (fun kv => kV kv.1) = some kx := e1
    have e2' : (convT kvs)[i]?.map Prod.snd = some vx := e2
    rw [hc] at e1' e2'
    have ek : V.int e.1 = kx := Option.some.inj e1'
    have ev : V.str e.2 = vx := Option.some.inj e2'
    subst ek ev
    have hex : txtOk e.2 = true := htx e (List.mem_of_getElem? he)
    have u1 := Ext.new (o := .tup [.int e.1, .str e.2]) nt
    have j1 := Kp.new (o := .tup [.int e.1, .str e.2]) nt
    refine ⟨t, _, rfl, SqT.of upd_same, rfl, _, _, rfl, _, _, rfl, rfl, rfl, _, rfl, _, rfl, by show 2 ≤ sizeLine; decide, fun q2 nq2 => ?_⟩
    have u2 := u1.trans (Ext.new (o := .tup [.int e.1, .str e.2]) nq2)
    have j2 := j1.trans (Kp.new (o := .tup [.int e.1, .str e.2]) nq2)
    have hD2 := u2.lst hD
    have hd2 := u2.frz h1
    have hal := hk.len
    rw [List.length_take] at hal
    have j3 := j2.trans (Kp.lst (o := .lst (acc ++ [.ref q2])) hD2)
    refine ⟨acc, hD2, by omega, acc ++ [.ref q2], by rw [upd_ne nDd.symm]; exact hd2, (x1.trans u2).mut nD, k1.trans j3, upd_same, ?_⟩
    have et : kvs.take (i + 1) = kvs.take i ++ [e] := by rw [List.take_succ, he]; rfl
    rw [et]
    exact (hk.gr j3.gr).snoc ((Kp.lst hD2) _ _ (by exact upd_same) True.intro) hex
  rintro H1 ⟨acc, h1, x1, k1, hD, hk⟩
  rw [lc, List.take_length] at hk
  refine ⟨h1, ?_⟩
  have hD3 : upd H1 d (.dK (convT kvs)) D = some (.lst acc) := by rw [upd_ne nDd]; exact hD
  have x3 : Ext H (upd H1 d (.dK (convT kvs))) := by
    refine ⟨fun a o ha n => ?_, fun a ks ha => ?_⟩
    · by_cases e : a = d
      · subst e
        rw [hd] at ha
        cases ha
        exact upd_same
      · rw [upd_ne e]
        exact x1.keep a o (x0.keep a o e ha n) n
    · have e : a ≠ d := fun z => by rw [z, hd] at ha; cases ha
      obtain ⟨m1, e1⟩ := x0.grow a ks ha
      obtain ⟨m2, e2⟩ := x1.grow a _ e1
      exact ⟨m1 ++ m2, by rw [upd_ne e, e2, List.append_assoc]⟩
  have k3 : Kp H (upd H1 d (.dK (convT kvs))) := fun a o ha st => by
    by_cases e : a = d
    · subst e
      rw [hd] at ha
      cases ha
      exact st.elim
    · rw [upd_ne e]
      exact k1 a o (k0 a o ha st) st
  have hk3 : KvL (upd H1 d (.dK (convT kvs))) acc kvs := by
    refine ⟨hk.len, fun j v e a b => ?_⟩
    obtain ⟨q', g1, g2, g3⟩ := hk.at_ j v e a b
    refine ⟨q', g1, ?_, g3⟩
    rw [upd_ne]
    · exact g2
    · rintro rfl
      rw [h1] at g2
      cases g2
  have nD3 := nDH
  generalize upd H1 d (.dK (convT kvs)) = H3 at hD3 x3 k3 hk3 ⊢
  have hal := hk3.len
  have mem : ∀ x ∈ acc, ∃ t e, x = .ref t ∧ H3 t = some (.tup [.int e.1, .str e.2]) ∧ e ∈ kvs ∧ kOf H3 x = e.1 ∧ fOf H3 x = e.2 := fun x hx => by
    obtain ⟨j, hj⟩ := List.getElem?_of_mem hx
    have hjl := (List.getElem?_eq_some_iff.mp hj).1
    have he : kvs[j]? = some (kvs[j]'(by omega)) := List.getElem?_eq_getElem _
    obtain ⟨t, rfl, ht, _⟩ := hk3.at_ j x _ hj he
    exact ⟨t, _, rfl, ht, List.mem_of_getElem? he, (kOf_at ht).1, (kOf_at ht).2⟩
  have mapk : acc.map (fun x => (kOf H3 x, fOf H3 x)) = kvs := by
    apply List.ext_getElem?
    intro j
    rw [List.getElem?_map]
    cases hj : acc[j]? with
    | none =>
      have := List.getElem?_eq_none_iff.mp hj
      rw [List.getElem?_eq_none (by omega)]
      rfl
    | some x =>
      have hjl := (List.getElem?_eq_some_iff.mp hj).1
      have he : kvs[j]? = some (kvs[j]'(by omega)) := List.getElem?_eq_getElem _
      obtain ⟨t, rfl, ht, _⟩ := hk3.at_ j x _ hj he
      rw [he]
      show some (kOf H3 (.ref t), fOf H3 (.ref t)) = _
      rw [(kOf_at ht).1, (kOf_at ht).2]
  refine ⟨D, acc, kOf H3, fOf H3, rfl, SqL.of hD3, fun x hx => ?_, fun x hx y hy e => ?_, fun ys p2 perm pw np => ?_⟩
  · obtain ⟨t, e, h1, h2, _, h4, h5⟩ := mem x hx
    exact ⟨t, h1, by rw [h4, h5]; exact h2⟩
  · obtain ⟨t, e1, _, _, h3, h4, h5⟩ := mem x hx
    obtain ⟨t', e2, _, _, g3, g4, g5⟩ := mem y hy
    rw [h4, g4] at e
    have := nodup_key hnd h3 g3 e
    rw [h5, g5, this]
  · have u := Ext.new (o := .lst ys) np
    refine q p2 ys (ys.map fun x => (kOf H3 x, fOf H3 x)) _ (x3.trans u) (k3.trans (Kp.new np)) (x3.free np) upd_same ⟨by rw [List.length_map], fun j v e a b => ?_⟩ ?_ ?_
    · rw [List.getElem?_map, a] at b
      obtain ⟨t, e', h1, h2, h3, h4, h5⟩ := mem v (perm.mem_iff.mp (List.mem_of_getElem? a))
      have eb := Option.some.inj b
      subst eb
      refine ⟨t, h1, u.tup ?_, ?_⟩
      · show H3 t = some (.tup [.int (kOf H3 v), .str (fOf H3 v)])
        rw [h4, h5]
        exact h2
      · show txtOk (fOf H3 v) = true
        rw [h5]
        exact htx _ h3
    · have := perm.map fun x => (kOf H3 x, fOf H3 x)
      rwa [mapk] at this
    · exact List.pairwise_map.mpr pw
end

section
variable {P : Program} {w : World} {K : PySem.W.Frag} {mg : Str → Option Value} {base : Heap} {Fam : Sys → Prop} {C : Addr}
structure TbOk (l : Nat) (kvs : List (Int × Str)) : Prop where
  nd : (kvs.map (·.1)).Nodup
  rg : ∀ e ∈ kvs, 0 ≤ e.1 ∧ e.1 < 2 ^ l
  tx : ∀ e ∈ kvs, txtOk e.2 = true
theorem rows_ok {l : Nat} {kvs rows : List (Int × Str)} (h : TbOk l kvs) (p : rows.Perm kvs) : RowsOk l rows := by
  have nd : (rows.map (·.1)).Nodup := (p.map (·.1)).nodup_iff.mpr h.nd
  have rg : ∀ e ∈ rows, 0 ≤ e.1 ∧ e.1 < 2 ^ l := fun e he => h.rg e (p.mem_iff.mp he)
  refine ⟨fun e he => (rg e he).1, ?_⟩
  have pw : rows.Pairwise fun a b => a.1 ≠ b.1 := List.pairwise_map.mp nd
  refine List.Pairwise.imp_of_mem (fun {a b} ha hb hab => ?_) pw
  rw [Int.emod_eq_of_lt (rg a ha).1 (rg a ha).2, Int.emod_eq_of_lt (rg b hb).1 (rg b hb).2]
  exact hab
def spTInit (C : Addr) (Fam : Sys → Prop) : Sp := fun vs H Q _ => ∃ (S : Sys) (p dx : Addr) (l : Nat) (r : Nat), Fam S ∧ vs = [.ref p, .ref S.f, .int (l : Int)] ∧ H p = some (.ins C dx []) ∧ l ≤ 1000 ∧ S.ok H r ∧ ∀ H' d, ExtO p H H' → Kp H H' → H d = none → S.ok H' r → TbAt C S.f H' p d l [] → Q .non H'
theorem tinit_body (A : SlA P w K mg base Fam) (KT : K_Table K mg C) : ∀ (f : Addr) (cdv : Value) (A' : Around) (outer : List Env) (s : Shared) (H : Hp) (vs : List V) (Q : VK) (E : XK), Room 0 (A'.deeper (envOfC "Table.__init__" (defScope s_Table___init__) s.heap.objs.size f cdv)) → spTInit C Fam vs H Q E →
      ∃ t, PSs (cxOf L2.CX0 P w K mg base N_Table___init__ "Table.__init__" (defScope s_Table___init__) f cdv A' outer s H E).nox (defBody s_Table___init__) t ∧ t { nx := fun _ H' => Q .non H', rt := Q } (start N_Table___init__ vs) H := by
  intro f cdv A' outer s H vs Q E hr h
  obtain ⟨S, p, dx, l, r, hF, rfl, hp, hl, hok, q⟩ := h
  have G := A.good hF
  refine ⟨_, (pss_cons (ps_fld (pv 0) (pv 1) rfl)
  (pss_cons (ps_fld (pv 0) (pv 2) rfl)
  (pss_one (ps_fld (pv 0) pe_dnewK rfl)))), ?_⟩
  refine ⟨_, rfl, _, rfl, p, C, dx, _, rfl, hp, KT.cl, KT.n_seal, by show 0 < 1000; decide, ?_⟩
  have x1 := ExtO.put (o := .ins C dx (putF "seal" (.ref S.f) [])) hp
  have k1 := Kp.ins (o := .ins C dx (putF "seal" (.ref S.f) [])) hp
  have h1 : upd H p (.ins C dx (putF "seal" (.ref S.f) [])) p = some (.ins C dx (putF "seal" (.ref S.f) [])) := upd_same
  have n1 : ∀ d, upd H p (.ins C dx (putF "seal" (.ref S.f) [])) d = none → H d = none := fun d h => by
    by_cases e : d = p
    · rw [e, upd_same] at h; cases h
    · rwa [upd_ne e] at h
  generalize upd H p (.ins C dx (putF "seal" (.ref S.f) [])) = H1 at x1 k1 h1 n1 ⊢
  refine ⟨_, rfl, _, rfl, p, C, dx, _, rfl, h1, KT.cl, KT.n_depth, by show 1 < 1000; decide, ?_⟩
  have x2 := x1.trans (ExtO.put (o := .ins C dx (putF "depth" (.int (l : Int)) (putF "seal" (.ref S.f) []))) h1)
  have k2 := k1.trans (Kp.ins (o := .ins C dx (putF "depth" (.int (l : Int)) (putF "seal" (.ref S.f) []))) h1)
  have h2 : upd H1 p (.ins C dx (putF "depth" (.int (l : Int)) (putF "seal" (.ref S.f) []))) p = some (.ins C dx (putF "depth" (.int (l : Int)) (putF "seal" (.ref S.f) []))) := upd_same
  have n2 : ∀ d, upd H1 p (.ins C dx (putF "depth" (.int (l : Int)) (putF "seal" (.ref S.f) []))) d = none → H d = none := fun d h => by
    by_cases e : d = p
    · rw [e, upd_same] at h; cases h
    · rw [upd_ne e] at h; exact n1 d h
  generalize upd H1 p (.ins C dx (putF "depth" (.int (l : Int)) (putF "seal" (.ref S.f) []))) = H2 at x2 k2 h2 n2 ⊢
  refine fun d nd => ?_
  have npd : p ≠ d := ne_of_none h2 nd
  have x3 := x2.trans (Ext.new (o := .dK []) nd).o
  have k3 := k2.trans (Kp.new (o := .dK []) nd)
  have h3 : upd H2 d (.dK []) p = some (.ins C dx (putF "depth" (.int (l : Int)) (putF "seal" (.ref S.f) []))) := by rw [upd_ne npd]; exact h2
  refine ⟨_, rfl, p, C, dx, _, rfl, h3, KT.cl, KT.n_held, by show 2 < 1000; decide, ?_⟩
  refine q _ d (x3.trans (ExtO.put h3)) (k3.trans (Kp.ins h3)) (n2 d nd) (G.keep (k3.trans (Kp.ins h3)) hok) ⟨⟨dx, by rw [upd_same, tbF_mk]⟩, by rw [upd_ne npd.symm]; exact upd_same, by decide, hl⟩
theorem ok_tinit (A : SlA P w K mg base Fam) (KT : K_Table K mg C) : Mak P w K mg base 1 "Table" C (spTInit C Fam) [] :=
  mak_ofD 3 1 KT.mgC KT.made (by simp) rfl (fun T kV doc pm an cdv ct us its hu hi => match us, its, hu, hi with | [_, _, _], [_], _, _ => ⟨_, rfl, rfl⟩) sc_Table___init__ (fun vs H Q E h => by obtain ⟨S, p, dx, l, r, _, rfl, _⟩ := h; rfl) (tinit_body A KT)
theorem ok_tinit8 (A : SlA P w K mg base Fam) (KT : K_Table K mg C) : Mak P w K mg base 1 "Table" C (spTInit C Fam) [.int 8] :=
  mak_ofD 2 0 KT.mgC KT.made (by simp) rfl (fun T kV doc pm an cdv ct us its hu hi => match us, its, hu, hi with | [_, _], [_], _, _ => ⟨_, rfl, rfl⟩) sc_Table___init__ (fun vs H Q E h => by obtain ⟨S, p, dx, l, r, _, rfl, _⟩ := h; rfl) (tinit_body A KT)
end

section
variable {P : Program} {w : World} {K : PySem.W.Frag} {mg : Str → Option Value} {base : Heap} {Fam : Sys → Prop} {C : Addr}
theorem ok_table_seal {cc : Addr} (T : Txt K mg cc) (A : SlA P w K mg base Fam) : Cal P w K mg base 2 "table_seal" (spMark "table" Fam) [] := by
  refine cal_of T.d_table_seal sc_table_seal (fun vs H Q E h => ?_) (fun f cdv A' outer s H vs Q E hr h => ?_)
  · obtain ⟨S, va, vb, a, b, r, _, rfl, _⟩ := h
    rfl
  obtain ⟨S, va, vb, a, b, r, hF, rfl, hok, ha, hb, q⟩ := h
  refine ⟨_, (pss_one (ps_ret (pe_sl (i := 0) A.held hr (by omega) rfl (by first | exact Or.inl rfl | exact Or.inr (Or.inl rfl) | exact Or.inr (Or.inr rfl)) (pa_cons pe_str (pa_cons (pv 1) (pa_cons (pv 2) pa_nil)))))), ?_⟩
  exact ⟨S, _, hF, rfl, hok, _, rfl, _, rfl, r, "table", a, b, _, _, rfl, by decide +kernel, hok, ha, hb, fun v H' e ok d => q v H' e ok d⟩

def spTHead (C : Addr) (Fam : Sys → Prop) : Sp := fun vs H Q _ => ∃ (S : Sys) (p d : Addr) (l : Nat) (kvs : List (Int × Str)) (r : Nat), Fam S ∧ vs = [.ref p] ∧ TbAt C S.f H p d l kvs ∧ TbOk l kvs ∧ l ≤ 20 ∧ S.ok H (r + 1 + costP l kvs.length) ∧
  ∀ v rows H', Ext H H' → S.ok H' r → rows.Perm kvs → rows.Pairwise (fun a b => a.1 ≤ b.1) → S.den H' v (.sl "table" (.int (l : Int)) (partT l rows)) → Q v H'
theorem ok_thead {cc : Addr} (T : Txt K mg cc) (A : SlA P w K mg base Fam) (KT : K_Table K mg C) : Met P w K mg base 25 C "head" (spTHead C Fam) [] := by
  have C_table_seal := ok_table_seal T A
  have C_part_top := ok_part T A (ok_none_seal T A) (ok_parted T) 21
  have M_rows := ok_rows (P := P) (w := w) (base := base) T KT
  refine met_of KT.cl KT.m_head sc_Table_head (fun vs H Q E h => ?_) (fun f cdv A' outer s H vs Q E hr h => ?_)
  · obtain ⟨S, p, d, l, kvs, r, _, rfl, _⟩ := h
    rfl
  obtain ⟨S, p, d, l, kvs, r, hF, rfl, ⟨⟨dx, hp⟩, hd, hz, hl'⟩, hk, hl, hok, q⟩ := h
  have G := A.good hF
  refine ⟨_, (pss_one (ps_ret (pe_c C_table_seal hr (by omega) rfl (pa_cons (pe_fld (pv 0) rfl) (pa_cons (pe_fld (pv 0) rfl) (pa_cons (pe_c C_part_top hr (by omega) rfl (pa_cons (pe_fld (pv 0) rfl) (pa_cons (pe_mt0 M_rows hr (by omega) (pv 0)) (pa_cons (pe_fld (pv 0) rfl) pa_nil)))) pa_nil)))))), ?_⟩
  refine ⟨_, rfl, p, C, dx, _, _, rfl, hp, KT.cl, KT.n_seal, tbF_seal _ _ _, _, rfl, p, C, dx, _, _, rfl, hp, KT.cl, KT.n_depth, tbF_depth _ _ _, _, rfl, p, C, dx, _, _, rfl, hp, KT.cl, KT.n_seal, tbF_seal _ _ _, ?_⟩
  refine ⟨_, rfl, p, dx, _, rfl, hp, (tbF_no _ _ _).2.2.2.2.1, S.f, p, d, l, kvs, rfl, ⟨⟨dx, hp⟩, hd, hz, hl'⟩, hk.nd, hk.tx, fun qr ys rows H1 x1 k1 nq hqr hrows perm pw => ?_⟩
  refine ⟨_, rfl, p, C, dx, _, _, rfl, x1.ins hp, KT.cl, KT.n_depth, tbF_depth _ _ _, S, qr, ys, rows, l, r + 1, hF, rfl, SqL.of hqr, hrows, rows_ok hk perm, by rw [perm.length_eq]; omega, by omega, by rw [perm.length_eq]; exact G.keep k1 hok, fun v H2 x2 ok2 d2 => ?_⟩
  exact ⟨S, .int (l : Int), v, .int (l : Int), partT l rows, r, hF, rfl, ok2, G.int _ ok2, d2, fun u H3 x3 ok3 d3 => q u rows H3 ((x1.trans x2).trans x3) ok3 perm pw d3⟩
end

/-! ### rows of a key and a text, by rising keys: one and the same for the same pairs -/
theorem kv_uniq : ∀ {a b : List (Int × Str)}, a.Perm b → a.Pairwise (fun x y => x.1 < y.1) → b.Pairwise (fun x y => x.1 < y.1) → a = b
  | [], b, p, _, _ => (List.nil_perm.mp p).symm
  | x :: a, [], p, _, _ => absurd (List.perm_nil.mp p) (List.cons_ne_nil _ _)
  | x :: a, y :: b, p, ha, hb => by
    have e : x = y := by
      rcases List.mem_cons.mp (p.mem_iff.mp (List.mem_cons_self ..)) with h | h
      · exact h
      · rcases List.mem_cons.mp (p.mem_iff.mpr (List.mem_cons_self ..)) with g | g
        · exact g.symm
        · have h1 := (List.pairwise_cons.mp hb).1 x h
          have h2 := (List.pairwise_cons.mp ha).1 y g
          omega
    subst e
    rw [kv_uniq (List.Perm.cons_inv p) (List.pairwise_cons.mp ha).2 (List.pairwise_cons.mp hb).2]
theorem kv_strict {a : List (Int × Str)} (hn : (a.map (·.1)).Nodup) (h : a.Pairwise fun x y => x.1 ≤ y.1) : a.Pairwise fun x y => x.1 < y.1 := by
  have pw : a.Pairwise fun x y => x.1 ≠ y.1 := List.pairwise_map.mp hn
  refine (h.and pw).imp fun {x y} h => ?_
  have h1 := h.1
  have h2 := h.2
  omega
theorem kv_same {a b kvs : List (Int × Str)} (hn : (kvs.map (·.1)).Nodup) (pa : a.Perm kvs) (pb : b.Perm kvs) (ha : a.Pairwise fun x y => x.1 ≤ y.1) (hb : b.Pairwise fun x y => x.1 ≤ y.1) : a = b :=
  kv_uniq (pa.trans pb.symm) (kv_strict ((pa.map (·.1)).nodup_iff.mpr hn) ha) (kv_strict ((pb.map (·.1)).nodup_iff.mpr hn) hb)
/-! ### what the deeds do to the pairs -/
theorem tbok_put {l : Nat} {kvs : List (Int × Str)} {k : Int} {x : Str} (h : TbOk l kvs) (h0 : 0 ≤ k) (h1 : k < 2 ^ l) (hx : txtOk x = true) : TbOk l (putI kvs k x) := by
  unfold putI
  by_cases c : (kvs.any fun e => decide (e.1 = k)) = true
  · rw [if_pos c]
    have em : (kvs.map fun e => if e.1 = k then (e.1, x) else e).map (·.1) = kvs.map (·.1) := by
      rw [List.map_map]
      refine List.map_congr_left fun e _ => ?_
      show (if e.1 = k then (e.1, x) else e).1 = e.1
      by_cases q : e.1 = k
      · rw [if_pos q]
      · rw [if_neg q]
    refine ⟨by rw [em]; exact h.nd, fun e he => ?_, fun e he => ?_⟩
    · obtain ⟨e', he', rfl⟩ := List.mem_map.mp he
      by_cases q : e'.1 = k
      · rw [if_pos q]
        exact h.rg e' he'
      · rw [if_neg q]
        exact h.rg e' he'
    · obtain ⟨e', he', rfl⟩ := List.mem_map.mp he
      by_cases q : e'.1 = k
      · rw [if_pos q]
        exact hx
      · rw [if_neg q]
        exact h.tx e' he'
  · rw [if_neg c]
    refine ⟨?_, fun e he => ?_, fun e he => ?_⟩
    · rw [List.map_append, List.nodup_append]
      refine ⟨h.nd, List.pairwise_singleton _ _, fun a ha b hb => ?_⟩
      have hb' : b = k := List.mem_singleton.mp hb
      subst hb'
      obtain ⟨e, he, rfl⟩ := List.mem_map.mp ha
      exact fun q => c (List.any_eq_true.mpr ⟨e, he, decide_eq_true q⟩)
    · rcases List.mem_append.mp he with he | he
      · exact h.rg e he
      · rw [List.mem_singleton.mp he]
        exact ⟨h0, h1⟩
    · rcases List.mem_append.mp he with he | he
      · exact h.tx e he
      · rw [List.mem_singleton.mp he]
        exact hx
theorem tbok_pop {l : Nat} {kvs : List (Int × Str)} {k : Int} (h : TbOk l kvs) : TbOk l (popI kvs k) := by
  unfold popI
  exact ⟨h.nd.sublist (List.Sublist.map _ List.filter_sublist), fun e he => h.rg e (List.mem_filter.mp he).1, fun e he => h.tx e (List.mem_filter.mp he).1⟩
theorem put_length (kvs : List (Int × Str)) (k : Int) (x : Str) : (putI kvs k x).length ≤ kvs.length + 1 := by
  unfold putI
  split
  · rw [List.length_map]; omega
  · rw [List.length_append]; exact Nat.le_refl _
theorem pop_length (kvs : List (Int × Str)) (k : Int) : (popI kvs k).length ≤ kvs.length := by
  unfold popI
  exact List.length_filter_le _ _

theorem kp_same {H H' : Hp} (h : Same H H') : Kp H H' := fun a o e _ => h a o e
theorem TbAt.ext {C f : Addr} {l : Nat} {H H' : Hp} {p d : Addr} {kvs : List (Int × Str)} (h : TbAt C f H p d l kvs) (x : Ext H H') : TbAt C f H' p d l kvs := by
  obtain ⟨⟨dx, a⟩, b, c⟩ := h
  exact ⟨⟨dx, x.ins a⟩, x.dK b, c⟩
theorem costP_le {l n : Nat} (hl : l ≤ 16) (hn : n ≤ 200) : costP l n ≤ 6600 := by
  unfold costP
  split
  · omega
  · have h := Nat.mul_le_mul hn (show 2 * l + 1 ≤ 33 by omega)
    omega

/-! ### rows by their keys -/
theorem getI_of : ∀ {kvs : List (Int × Str)} {e : Int × Str}, (kvs.map (·.1)).Nodup → e ∈ kvs → getI kvs e.1 = some e.2
  | [], _, _, h => nomatch h
  | x :: kvs, e, hn, h => by
    rw [List.map_cons, List.nodup_cons] at hn
    unfold getI
    rw [List.find?_cons]
    rcases List.mem_cons.mp h with rfl | h
    · rw [decide_eq_true rfl]
      rfl
    · have ne : ¬ x.1 = e.1 := fun z => hn.1 (by rw [z]; exact List.mem_map_of_mem h)
      rw [decide_eq_false ne]
      exact getI_of hn.2 h
/-- the pairs by the row of their keys -/
theorem keys_rows {kvs : List (Int × Str)} {ks : List Int} (hn : (kvs.map (·.1)).Nodup) (pm : ks.Perm (kvs.map (·.1))) : (ks.map fun x => (x, (getI kvs x).getD "")).Perm kvs := by
  have h := pm.map fun x => (x, (getI kvs x).getD "")
  refine h.trans (List.Perm.of_eq ?_)
  rw [List.map_map]
  refine (List.map_congr_left fun e he => ?_).trans (List.map_id _)
  show (e.1, (getI kvs e.1).getD "") = e
  rw [getI_of hn he]
  rfl
theorem getI_mem : ∀ {kvs : List (Int × Str)} {x : Int}, x ∈ kvs.map (·.1) → ∃ t, getI kvs x = some t ∧ (x, t) ∈ kvs := by
  intro kvs x h
  unfold getI
  cases hf : kvs.find? fun e => decide (e.1 = x) with
  | none =>
    obtain ⟨e, he, rfl⟩ := List.mem_map.mp h
    exact absurd (List.find?_eq_none.mp hf e he) (by simp)
  | some e =>
    have h1 := List.mem_of_find?_eq_some hf
    have h2 : e.1 = x := by have := List.find?_some hf; simpa using this
    subst h2
    exact ⟨e.2, rfl, h1⟩

section
variable {P : Program} {w : World} {K : PySem.W.Frag} {mg : Str → Option Value} {base : Heap} {C B : Addr}
theorem row_len {i : Int} (h0 : 0 ≤ i) (h1 : i < 1000000) : (Str.ofString (toString i)).length ≤ 6 := by
  obtain ⟨n, rfl⟩ := Int.eq_ofNat_of_zero_le h0
  rw [TL.len_tl, TL.tl_num]
  exact TL.numL_len (by decide) (by omega)
theorem ok_brinit {cc : Addr} (T : Txt K mg cc) (EI : ExcI K mg "BadRow" "BookError" "row" "BadRow.__init__" s_BadRow___init__ ["self", "row"] C B) (fI : Addr) (fd : FuncData) (F : L2.Fun K "__init__" "BadRow.__init__" s_BadRow___init__ fI fd) :
    FnOk P w K mg base L2.CX0 1 fI fd ["self", "row"] (spExI C "row") := by
  have Z := T.Z
  refine F.ok sc_BadRow___init__ (fun vs H Q E h => ?_) (fun cdv A' outer s H vs Q E hr h => ?_)
  · obtain ⟨a, i, rfl, _⟩ := h
    rfl
  obtain ⟨a, i, rfl, h0, h1, ha, q⟩ := h
  have ll := row_len h0 h1
  refine ⟨_, (pss_cons (ps_expr (pe_beinit rfl EI.gB EI.b1 EI.b2 EI.b3 (pa_cons (pv 0) (pa_cons (pe_op op_add_str (pe_op op_add_str pe_str (pe_callTy call_str_int rfl Z.str (by decide +kernel) (pa_cons (pv 1) pa_nil))) pe_str) pa_nil))))
  (pss_one (ps_ost (pv 0) (pv 1)))), ?_⟩
  have e4 : (Str.ofString "row ").length = 4 := by decide +kernel
  have e16 : (Str.ofString " cannot be read").length = 15 := by decide +kernel
  have l1 : (Str.ofString "row " ++ Str.ofString (toString i)).length ≤ 10 := by
    rw [TL.len_tl, TL.tl_append, List.length_append, ← TL.len_tl, ← TL.len_tl]
    omega
  refine ⟨_, rfl, _, rfl, _, rfl, log_small h0 (by omega), _, _, rfl, rfl, small (by omega), _, _, rfl, rfl, small (by omega), a, C, _, rfl, (by show 1 ≤ 1000; decide), EI.T, ha, ?_⟩
  exact ⟨_, rfl, _, rfl, a, C, rfl, EI.T, EI.no, .inl ⟨ha, fun dx n ne => q dx n ne⟩⟩
theorem ok_brinitH {cc : Addr} (T : Txt K mg cc) (EI : ExcI K mg "BadRow" "BookError" "row" "BadRow.__init__" s_BadRow___init__ ["self", "row"] C B) (fI : Addr) (fd : FuncData) (F : L2.Fun K "__init__" "BadRow.__init__" s_BadRow___init__ fI fd) :
    L2H.FnH P w K mg base L2.CX0 1 fI fd ["self", "row"] (spExI C "row") := by
  have Z := T.Z
  obtain ⟨oc, od, kV, doc, pm, an, cdv, ct, osl, rfl, lk, hcd⟩ := F.ex
  refine L2H.fn_ofH lk hcd sc_BadRow___init__ (fun vs H Q E h => ?_) (fun A' outer s H vs Q E pr hot hr h => ?_)
  · obtain ⟨a, i, rfl, _⟩ := h
    rfl
  obtain ⟨a, i, rfl, h0, h1, ha, q⟩ := h
  have ll := row_len h0 h1
  refine ⟨_, PSs.nox (pss_cons (ps_expr (pe_beinit rfl EI.gB EI.b1 EI.b2 EI.b3 (pa_cons (pv 0) (pa_cons (pe_op op_add_str (pe_op op_add_str pe_str (pe_callTy call_str_int rfl Z.str (by decide +kernel) (pa_cons (pv 1) pa_nil))) pe_str) pa_nil))))
  (pss_one (ps_ost (pv 0) (pv 1)))), ?_⟩
  have e4 : (Str.ofString "row ").length = 4 := by decide +kernel
  have e16 : (Str.ofString " cannot be read").length = 15 := by decide +kernel
  have l1 : (Str.ofString "row " ++ Str.ofString (toString i)).length ≤ 10 := by
    rw [TL.len_tl, TL.tl_append, List.length_append, ← TL.len_tl, ← TL.len_tl]
    omega
  refine ⟨_, rfl, _, rfl, _, rfl, log_small h0 (by omega), _, _, rfl, rfl, small (by omega), _, _, rfl, rfl, small (by omega), a, C, _, rfl, (by show 1 ≤ 1000; decide), EI.T, ha, ?_⟩
  exact ⟨_, rfl, _, rfl, a, C, rfl, EI.T, EI.no, .inl ⟨ha, fun dx n ne => q dx n ne⟩⟩
end

/-! ### what a row says -/
open SX (S S_len S_inj S_cat)
def lsp (l : List Nat) : List Nat := l.dropWhile (· == 32)
def rsp (l : List Nat) : List Nat := (l.reverse.dropWhile (· == 32)).reverse
def wrd (l : List Nat) : List Nat := l.takeWhile (· != 32)
def rst (l : List Nat) : List Nat := (l.dropWhile (· != 32)).drop 1
def digs (l : List Nat) : Bool := !l.isEmpty && l.all fun c => decide (48 ≤ c) && decide (c ≤ 57)
def keyL (l : List Nat) (d : Nat) : Int := if digs l = true ∧ l.length ≤ 9 ∧ NumText.digitsVal l < 2 ^ d then (NumText.digitsVal l : Int) else -1
inductive Act where
  | put (k : Int) (t : List Nat)
  | cut (k : Int)
def putW : List Nat := [112, 117, 116]
def cutW : List Nat := [99, 117, 116]
def readL (l : List Nat) (d : Nat) : Option (Option Act) :=
  if lsp l = [] ∨ (lsp l).head? = some 35 then some none
  else if wrd (lsp l) = putW then
    if 0 ≤ keyL (wrd (rst (lsp l))) d ∧ 32 ∈ rst (lsp l) then some (some (.put (keyL (wrd (rst (lsp l))) d) (rst (rst (lsp l))))) else none
  else if wrd (lsp l) = cutW then
    if 0 ≤ keyL (rsp (rst (lsp l))) d then some (some (.cut (keyL (rsp (rst (lsp l))) d))) else none
  else none
def AscL (l : List Nat) : Prop := ∀ c ∈ l, c < 128
theorem AscL.sub {l m : List Nat} (h : AscL l) (hs : ∀ c ∈ m, c ∈ l) : AscL m := fun c hc => h c (hs c hc)
theorem dw_mem {p : Nat → Bool} : ∀ {l : List Nat} {c : Nat}, c ∈ l.dropWhile p → c ∈ l
  | a :: l, c, h => by
    rw [List.dropWhile_cons] at h
    split at h
    · exact List.mem_cons_of_mem _ (dw_mem h)
    · exact h
theorem tw_mem {p : Nat → Bool} : ∀ {l : List Nat} {c : Nat}, c ∈ l.takeWhile p → c ∈ l
  | a :: l, c, h => by
    rw [List.takeWhile_cons] at h
    split at h
    · rcases List.mem_cons.mp h with rfl | h
      · exact List.mem_cons_self
      · exact List.mem_cons_of_mem _ (tw_mem h)
    · cases h
theorem lsp_mem {l : List Nat} {c : Nat} (h : c ∈ lsp l) : c ∈ l := dw_mem h
theorem rsp_mem {l : List Nat} {c : Nat} (h : c ∈ rsp l) : c ∈ l := by
  have := dw_mem (List.mem_reverse.mp h)
  exact List.mem_reverse.mp this
theorem wrd_mem {l : List Nat} {c : Nat} (h : c ∈ wrd l) : c ∈ l := tw_mem h
theorem rst_mem {l : List Nat} {c : Nat} (h : c ∈ rst l) : c ∈ l := dw_mem (List.mem_of_mem_drop h)
theorem dw_len {p : Nat → Bool} : ∀ (l : List Nat), (l.dropWhile p).length ≤ l.length
  | [] => Nat.le_refl _
  | a :: l => by
    rw [List.dropWhile_cons]
    split
    · exact Nat.le_succ_of_le (dw_len l)
    · exact Nat.le_refl _
theorem tw_len {p : Nat → Bool} : ∀ (l : List Nat), (l.takeWhile p).length ≤ l.length
  | [] => Nat.le_refl _
  | a :: l => by
    rw [List.takeWhile_cons]
    split
    · exact Nat.succ_le_succ (tw_len l)
    · exact Nat.zero_le _
theorem lsp_len (l : List Nat) : (lsp l).length ≤ l.length := dw_len l
theorem wrd_len (l : List Nat) : (wrd l).length ≤ l.length := tw_len l
theorem rst_len (l : List Nat) : (rst l).length ≤ l.length := by
  unfold rst
  rw [List.length_drop]
  have := dw_len (p := (· != 32)) l
  omega
theorem rsp_len (l : List Nat) : (rsp l).length ≤ l.length := by
  unfold rsp
  rw [List.length_reverse]
  have := dw_len (p := (· == 32)) l.reverse
  rw [List.length_reverse] at this
  exact this
theorem drop_tw {p : Nat → Bool} : ∀ l : List Nat, l.drop (l.takeWhile p).length = l.dropWhile p
  | [] => rfl
  | a :: l => by
    rw [List.takeWhile_cons, List.dropWhile_cons]
    by_cases h : p a = true
    · rw [if_pos h, if_pos h]
      exact drop_tw l
    · rw [if_neg h, if_neg h]
      rfl
theorem only32 : (S [32]).cps.contains = fun c => c == 32 := by
  funext c
  by_cases h : c = 32
  · subst h; decide +kernel
  · have e : (c == 32) = false := beq_eq_false_iff_ne.mpr h
    rw [e]
    simp [S, h]
theorem lstrip_S (l : List Nat) : Txt.lstripChars (S l) (S [32]) = S (lsp l) := by
  unfold Txt.lstripChars
  rw [stripBy_eq, only32]
  refine TL.ext_tl ?_
  rw [TL.tl_strSub]
  show (l.drop _).take _ = lsp l
  unfold stripLo stripHi
  rw [if_pos rfl, if_neg (by decide)]
  show (l.drop (l.takeWhile (· == 32)).length).take ((S l).length - (l.takeWhile (· == 32)).length) = lsp l
  rw [drop_tw, S_len, List.take_of_length_le]
  · rfl
  · have := congrArg List.length (drop_tw (p := (· == 32)) l)
    rw [List.length_drop] at this
    omega
theorem rstrip_S (l : List Nat) : Txt.rstripChars (S l) (S [32]) = S (rsp l) := by
  unfold Txt.rstripChars
  rw [stripBy_eq, only32]
  refine TL.ext_tl ?_
  rw [TL.tl_strSub]
  rw [show stripLo (fun c => c == 32) false (S l) = 0 from rfl, show stripHi (fun c => c == 32) true (S l) 0 = (S l).length - ((l.drop 0).reverse.takeWhile (· == 32)).length from rfl]
  show (l.drop 0).take ((S l).length - (((l.drop 0).reverse.takeWhile (· == 32)).length) - 0) = rsp l
  rw [List.drop_zero, Nat.sub_zero, S_len]
  have e : l = (l.reverse.dropWhile (· == 32)).reverse ++ (l.reverse.takeWhile (· == 32)).reverse := by
    rw [← List.reverse_append, List.takeWhile_append_dropWhile, List.reverse_reverse]
  have el := congrArg List.length e
  rw [List.length_append, List.length_reverse, List.length_reverse] at el
  have ek : l.length - (l.reverse.takeWhile (· == 32)).length = (rsp l).length := by
    unfold rsp
    rw [List.length_reverse]
    omega
  rw [ek]
  exact (congrArg (List.take (rsp l).length) e).trans (List.take_left' rfl)
theorem split32 {l : List Nat} (h : 32 ∈ l) : l = wrd l ++ (32 :: rst l) := by
  induction l with
  | nil => cases h
  | cons a l ih =>
    unfold wrd rst
    by_cases c : a = 32
    · subst c
      rfl
    · have e : (a != 32) = true := bne_iff_ne.mpr c
      rw [List.takeWhile_cons, List.dropWhile_cons, if_pos e, if_pos e]
      rcases List.mem_cons.mp h with h | h
      · exact absurd h.symm c
      · show a :: l = a :: (wrd l ++ (32 :: rst l))
        rw [← ih h]
theorem wrd_no (l : List Nat) : 32 ∉ wrd l := by
  induction l with
  | nil => exact fun h => nomatch h
  | cons a l ih =>
    unfold wrd
    rw [List.takeWhile_cons]
    by_cases c : a = 32
    · subst c
      exact fun h => nomatch h
    · have e : (a != 32) = true := bne_iff_ne.mpr c
      rw [if_pos e]
      intro h
      rcases List.mem_cons.mp h with h | h
      · exact c h.symm
      · exact ih h
theorem wrd_all {l : List Nat} (h : 32 ∉ l) : wrd l = l ∧ rst l = [] := by
  induction l with
  | nil => exact ⟨rfl, rfl⟩
  | cons a l ih =>
    have c : a ≠ 32 := fun z => h (by rw [z]; exact List.mem_cons_self)
    have e : (a != 32) = true := bne_iff_ne.mpr c
    obtain ⟨h1, h2⟩ := ih fun z => h (List.mem_cons_of_mem _ z)
    unfold wrd rst
    rw [List.takeWhile_cons, List.dropWhile_cons, if_pos e, if_pos e]
    exact ⟨congrArg (a :: ·) h1, h2⟩
theorem part_S (l : List Nat) : Txt.partition (S l) (S [32]) = (S (wrd l), (if 32 ∈ l then S [32] else S []), S (rst l)) := by
  by_cases h : 32 ∈ l
  · rw [if_pos h]
    refine SX.partition_some (by simp) ?_
    conv => lhs; rw [split32 h]
    exact SX.par_head (sep := []) (rst l) (wrd_no l)
  · rw [if_neg h]
    obtain ⟨h1, h2⟩ := wrd_all h
    rw [h1, h2]
    exact SX.partition_none (by simp) (SX.par_head_none (sep := []) h)
theorem hash_S (l : List Nat) : Txt.startswith (S l) (S [35]) = decide (l.head? = some 35) := by
  cases l with
  | nil => rfl
  | cons a l =>
    unfold Txt.startswith Builtin.Str.subAt
    by_cases h : a = 35
    · subst h
      simp [S, Str.length]
    · simp [S, Str.length, h]
theorem dig128 : ∀ c, c < 128 → Unicode.isDigit c = (decide (48 ≤ c) && decide (c ≤ 57)) := by decide +kernel
theorem digit_S {l : List Nat} (h : AscL l) : Txt.isdigit (S l) = digs l := by
  unfold Txt.isdigit digs
  have e : (S l).cps.all Unicode.isDigit = l.all fun c => decide (48 ≤ c) && decide (c ≤ 57) := by
    show (List.toArray l).all Unicode.isDigit = _
    rw [List.all_toArray]
    induction l with
    | nil => rfl
    | cons a l ih =>
      rw [List.all_cons, List.all_cons, ih (h.sub fun c hc => List.mem_cons_of_mem _ hc)]
      congr 1
      exact dig128 a (h a List.mem_cons_self)
  rw [e]
  cases l <;> simp [S_len]
theorem int_of {l : List Nat} (h : digs l = true) (hl : l.length ≤ 4300) : intText? (S l) = some ((NumText.digitsVal l : Nat) : Int) := by
  unfold digs at h
  rw [Bool.and_eq_true] at h
  exact SX.int_S h.2 (fun z => by rw [z] at h; exact absurd h.1 (by decide)) hl

section
variable {P : Program} {w : World} {K : PySem.W.Frag} {mg : Str → Option Value} {base : Heap} {C B : Addr}
theorem te_int {i : Int} : ∀ (σ : L2.St) (H : Hp) (Q Q' : VK), (∀ v H', Q v H' → Q' v H') → tC (.int i) σ H Q → tC (.int i) σ H Q' := fun _ _ _ _ h q => h _ _ q
theorem te_var {i : Nat} : ∀ (σ : L2.St) (H : Hp) (Q Q' : VK), (∀ v H', Q v H' → Q' v H') → tVar i σ H Q → tVar i σ H Q' := fun _ _ _ _ h ⟨v, e, q⟩ => ⟨v, e, h _ _ q⟩
def spKeyOf : Sp := fun vs H Q _ => ∃ (l : List Nat) (d : Nat), vs = [.str (S l), .int (d : Int)] ∧ AscL l ∧ l.length ≤ 100000 ∧ d ≤ 1000 ∧ Q (.int (keyL l d)) H
theorem ok_key_of {cc : Addr} (T : Txt K mg cc) : Cal P w K mg base 1 "key_of" spKeyOf [] := by
  have Z := T.Z
  refine cal_of T.d_key_of sc_key_of (fun vs H Q E h => ?_) (fun f cdv A' outer s H vs Q E hr h => ?_)
  · obtain ⟨l, d, rfl, _⟩ := h
    rfl
  obtain ⟨l, d, rfl, ha, hl, hd, q⟩ := h
  have e16 : sizeLine = 16777216 := sizeLine_eq
  refine ⟨_, (pss_cons (ps_if (PW.pt (pw_or (pt_not (pt_val (pe_m0 PySem.F.slot_str_isdigit PySem.F.type_str_isdigit mt_isdigit (pv 0)))) (pw_or1 (pt_cmpR op_gt (pe_callB call_len_str rfl Z.len PySem.boot_len (pa_cons (pv 0) pa_nil)) pe_int (nomark _))))) (pss_one (ps_ret (pe_un un_neg pe_int))) pss_nil)
  (pss_cons (ps_set (i := 2) sc_key_of.nd rfl (Or.inl rfl) (pe_callTy call_int_str rfl Z.int (by decide +kernel) (pa_cons (pv 0) pa_nil)))
  (pss_cons (ps_if (pt_cmpR op_ge (pv 2) (pe_op op_oneShl pe_int (pv 1)) (nomark _)) (pss_one (ps_ret (pe_un un_neg pe_int))) pss_nil)
  (pss_one (ps_ret (pv 2)))))), ?_⟩
  refine ⟨_, rfl, ⟨_, rfl⟩, _, rfl, rfl, True.intro, _, rfl, ?_⟩
  rw [digit_S ha]
  cases hdg : digs l with
  | false =>
    rw [show keyL l d = -1 from if_neg (fun h => by rw [hdg] at h; cases h.1)] at q
    exact iteT (iteT ⟨_, rfl, q⟩)
  | true =>
    refine iteF ⟨_, rfl, _, rfl, by rw [S_len]; omega, _, _, rfl, rfl, _, rfl, ?_⟩
    rw [S_len]
    by_cases h9 : l.length ≤ 9
    · rw [decide_eq_false (show ¬ (9 : Int) < (l.length : Int) by omega)]
      refine iteF ⟨_, rfl, _, _, rfl, int_of hdg (by omega), by rw [S_len]; omega, ?_⟩
      refine ⟨_, rfl, _, rfl, d, rfl, rfl, by omega, _, _, rfl, rfl, _, rfl, ?_⟩
      have e2 : ((2 ^ d : Nat) : Int) = 2 ^ d := by rw [Int.natCast_pow]; rfl
      by_cases hk : NumText.digitsVal l < 2 ^ d
      · rw [show keyL l d = (NumText.digitsVal l : Int) from if_pos ⟨hdg, h9, hk⟩] at q
        rw [decide_eq_false (show ¬ (2 : Int) ^ d ≤ ((NumText.digitsVal l : Nat) : Int) by omega)]
        exact iteF ⟨_, rfl, q⟩
      · rw [show keyL l d = -1 from if_neg (fun h => hk h.2.2)] at q
        rw [decide_eq_true (show (2 : Int) ^ d ≤ ((NumText.digitsVal l : Nat) : Int) by omega)]
        exact iteT ⟨_, rfl, q⟩
    · rw [show keyL l d = -1 from if_neg (fun h => h9 h.2.1)] at q
      rw [decide_eq_true (show (9 : Int) < (l.length : Int) by omega)]
      exact iteT ⟨_, rfl, q⟩
/-- what a row says, as a value -/
def actV : Act → List V
  | .put k t => [.str "put", .int k, .str (S t)]
  | .cut k => [.str "cut", .int k]
def spReadRow (mg : Str → Option Value) : Sp := fun vs H Q E => ∃ (l : List Nat) (d : Nat), vs = [.str (S l), .int (d : Int)] ∧ AscL l ∧ l.length ≤ 100000 ∧ d ≤ 1000 ∧
  (readL l d = some none → ∀ H', Same H H' → Q .non H') ∧ (∀ a, readL l d = some (some a) → ∀ q H', Same H H' → H q = none → H' q = some (.tup (actV a)) → Q (.ref q) H') ∧
  (readL l d = none → ∀ D, mg "BadRow" = some (.ref D) → ∀ dx H', Same H H' → H dx = none → H' dx = some (.xd [("row", .int 0)]) → E (.ref D) (some dx) H')
theorem ok_read_rowN {cc : Addr} (T : Txt K mg cc) (EI : ExcI K mg "BadRow" "BookError" "row" "BadRow.__init__" s_BadRow___init__ ["self", "row"] C B) : CalN P w K mg base 3 "read_row" (spReadRow mg) := by
  have Z := T.Z
  have C_key_of := ok_key_of (P := P) (w := w) (base := base) T
  have F_BadRow := ok_brinit (P := P) (w := w) (base := base) T EI
  refine calN_of T.d_read_row sc_read_row (fun vs H Q E h => ?_) (fun f cdv A' outer s H vs Q E hr h => ?_)
  · obtain ⟨l, d, rfl, _⟩ := h
    rfl
  obtain ⟨l, d, rfl, ha, hl, hd, q1, q2, q3⟩ := h
  have e16 : sizeLine = 16777216 := sizeLine_eq
  refine ⟨_, (pss_cons (ps_set (i := 2) sc_read_row.nd rfl (Or.inl rfl) (pe_bm PySem.F.plainAttrs_str PySem.F.slot_str_lstrip PySem.F.type_str_lstrip mt_lstripChars (pv 0) (pa_cons pe_str pa_nil)))
  (pss_cons (ps_if (PW.pt (pw_or (pt_cmpR op_eq (pv 2) pe_str (nomark _)) (pw_or1 (pt_val (pe_m1 PySem.F.slot_str_startswith PySem.F.type_str_startswith mt_startswith (pv 2) pe_str))))) (pss_one (ps_ret pe_non)) pss_nil)
  (pss_cons (ps_asg (pe_partition (pv 2) pe_str) (pg_tup rfl (pgs_cons (pg_name (i := 3) sc_read_row.nd rfl (Or.inl rfl)) (pgs_cons (pg_name (i := 4) sc_read_row.nd rfl (Or.inl rfl)) (pgs_cons (pg_name (i := 5) sc_read_row.nd rfl (Or.inl rfl)) pgs_nil)))))
  (pss_cons (ps_if (pt_cmpR op_eq (pv 3) pe_str (nomark _)) (pss_cons (ps_asg (pe_partition (pv 5) pe_str) (pg_tup rfl (pgs_cons (pg_name (i := 6) sc_read_row.nd rfl (Or.inl rfl)) (pgs_cons (pg_name (i := 7) sc_read_row.nd rfl (Or.inl rfl)) (pgs_cons (pg_name (i := 8) sc_read_row.nd rfl (Or.inl rfl)) pgs_nil)))))
  (pss_cons (ps_set (i := 9) sc_read_row.nd rfl (Or.inl rfl) (pe_c C_key_of hr (by omega) rfl (pa_cons (pv 6) (pa_cons (pv 1) pa_nil))))
  (pss_one (ps_if (PW.pt (pw_and (pt_cmpR op_ge (pv 9) pe_int (nomark _)) (pw_and1 (pt_cmpR op_eq (pv 7) pe_str (nomark _))))) (pss_one (ps_ret (pe_tup (pa_cons pe_str (pa_cons (pv 9) (pa_cons (pv 8) pa_nil)))))) pss_nil)))) pss_nil)
  (pss_cons (ps_if (pt_cmpR op_eq (pv 3) pe_str (nomark _)) (pss_cons (ps_set (i := 9) sc_read_row.nd rfl (Or.inl rfl) (pe_c C_key_of hr (by omega) rfl (pa_cons (pe_bm PySem.F.plainAttrs_str PySem.F.slot_str_rstrip PySem.F.type_str_rstrip mt_rstripChars (pv 5) (pa_cons pe_str pa_nil)) (pa_cons (pv 1) pa_nil))))
  (pss_one (ps_if (pt_cmpR op_ge (pv 9) pe_int (nomark _)) (pss_one (ps_ret (pe_tup (pa_cons pe_str (pa_cons (pv 9) pa_nil))))) pss_nil))) pss_nil)
  (pss_one (ps_raiseIN EI F_BadRow hr (by omega) rfl (L2N.takes_of rfl rfl rfl rfl) rfl pe_int te_int))))))), ?_⟩
  have eSp : Str.ofString " " = S [32] := TL.ext_tl (by decide +kernel)
  have eHs : Str.ofString "#" = S [35] := TL.ext_tl (by decide +kernel)
  have eNo : Str.ofString "" = S [] := TL.ext_tl (by decide +kernel)
  have ePut : Str.ofString "put" = S putW := TL.ext_tl (by decide +kernel)
  have eCut : Str.ofString "cut" = S cutW := TL.ext_tl (by decide +kernel)
  have sEq : ∀ {a b : List Nat}, decide (V.str (S a) = V.str (S b)) = decide (a = b) := fun {a b} => decide_eq_decide.mpr ⟨fun z => S_inj (V.str.inj z), fun z => by rw [z]⟩
  have hAb : AscL (lsp l) := ha.sub fun c hc => lsp_mem hc
  have hAr : AscL (rst (lsp l)) := hAb.sub fun c hc => rst_mem hc
  have l1 := lsp_len l
  have l2 := rst_len (lsp l)
  have l3 := wrd_len (rst (lsp l))
  have l4 := rsp_len (rst (lsp l))
  refine ⟨_, rfl, rfl, _, _, rfl, rfl, by rw [S_len]; omega, ?_⟩
  rw [eSp, eHs, eNo, ePut, eCut, lstrip_S]
  refine ⟨_, rfl, rfl, _, rfl, ?_⟩
  rw [sEq]
  by_cases hb : lsp l = []
  · rw [decide_eq_true hb]
    exact iteT (iteT (q1 (if_pos (.inl hb)) H (Same.refl H)))
  rw [decide_eq_false hb]
  refine iteF ⟨_, rfl, ⟨_, rfl⟩, _, _, rfl, rfl, _, rfl, ?_⟩
  rw [hash_S]
  by_cases hh : (lsp l).head? = some 35
  · rw [decide_eq_true hh]
    exact iteT (q1 (if_pos (.inr hh)) H (Same.refl H))
  rw [decide_eq_false hh]
  have e0 : readL l d = _ := if_neg (fun z => z.elim hb hh)
  refine iteF ⟨_, rfl, ⟨_, rfl⟩, _, _, rfl, rfl, by decide +kernel, by rw [S_len]; omega, fun p1 np1 => ?_⟩
  rw [part_S]
  have s1 : Same H (upd H p1 (.tup [.str (S (wrd (lsp l))), .str (if 32 ∈ lsp l then S [32] else S []), .str (S (rst (lsp l)))])) := same_upd np1
  have hp1 : upd H p1 (.tup [.str (S (wrd (lsp l))), .str (if 32 ∈ lsp l then S [32] else S []), .str (S (rst (lsp l)))]) p1 = some (.tup [.str (S (wrd (lsp l))), .str (if 32 ∈ lsp l then S [32] else S []), .str (S (rst (lsp l)))]) := upd_same
  generalize upd H p1 (.tup [.str (S (wrd (lsp l))), .str (if 32 ∈ lsp l then S [32] else S []), .str (S (rst (lsp l)))]) = H1 at s1 hp1 ⊢
  refine ⟨p1, _, rfl, SqT.of hp1, rfl, _, _, rfl, _, _, rfl, _, _, rfl, rfl, ?_⟩
  refine ⟨_, rfl, rfl, _, rfl, ?_⟩
  rw [sEq]
  by_cases hp : wrd (lsp l) = putW
  · rw [decide_eq_true hp]
    rw [if_pos hp] at e0
    refine iteT ⟨_, rfl, ⟨_, rfl⟩, _, _, rfl, rfl, by decide +kernel, by rw [S_len]; omega, fun p2 np2 => ?_⟩
    rw [part_S]
    have s2 := s1.trans (same_upd (o := .tup [.str (S (wrd (rst (lsp l)))), .str (if 32 ∈ rst (lsp l) then S [32] else S []), .str (S (rst (rst (lsp l))))]) np2)
    have hp2 : upd H1 p2 (.tup [.str (S (wrd (rst (lsp l)))), .str (if 32 ∈ rst (lsp l) then S [32] else S []), .str (S (rst (rst (lsp l))))]) p2 = some (.tup [.str (S (wrd (rst (lsp l)))), .str (if 32 ∈ rst (lsp l) then S [32] else S []), .str (S (rst (rst (lsp l))))]) := upd_same
    generalize upd H1 p2 (.tup [.str (S (wrd (rst (lsp l)))), .str (if 32 ∈ rst (lsp l) then S [32] else S []), .str (S (rst (rst (lsp l))))]) = H2 at s2 hp2 ⊢
    refine ⟨p2, _, rfl, SqT.of hp2, rfl, _, _, rfl, _, _, rfl, _, _, rfl, rfl, ?_⟩
    refine ⟨_, rfl, _, rfl, wrd (rst (lsp l)), d, rfl, hAr.sub (fun c hc => wrd_mem hc), by omega, hd, ?_⟩
    refine ⟨_, rfl, _, _, rfl, rfl, _, rfl, ?_⟩
    by_cases hk : 0 ≤ keyL (wrd (rst (lsp l))) d
    · rw [decide_eq_true hk]
      refine iteT ⟨_, rfl, rfl, _, rfl, ?_⟩
      by_cases h32 : 32 ∈ rst (lsp l)
      · rw [if_pos h32, sEq, decide_eq_true rfl]
        rw [if_pos ⟨hk, h32⟩] at e0
        exact iteT ⟨_, rfl, _, rfl, by show 3 ≤ sizeLine; decide, fun q nq => q2 _ e0 q _ (s2.trans (same_upd nq)) (s2.free nq) (by rw [upd_same, ← ePut]; rfl)⟩
      · rw [if_neg h32, sEq, decide_eq_false (fun z => by cases z)]
        rw [if_neg (fun z => h32 z.2)] at e0
        exact iteF ⟨_, rfl, rfl, _, rfl, by
        rw [sEq, decide_eq_false (show ¬ wrd (lsp l) = cutW from fun z => by rw [hp] at z; cases z)]
        exact iteF ⟨0, rfl, by decide, by decide, fun dx ndx => q3 e0 _ EI.gC dx _ (s2.trans (same_upd ndx)) (s2.free ndx) upd_same⟩⟩
    · rw [decide_eq_false hk]
      rw [if_neg (fun z => hk z.1)] at e0
      exact iteF (iteF ⟨_, rfl, rfl, _, rfl, by
        rw [sEq, decide_eq_false (show ¬ wrd (lsp l) = cutW from fun z => by rw [hp] at z; cases z)]
        exact iteF ⟨0, rfl, by decide, by decide, fun dx ndx => q3 e0 _ EI.gC dx _ (s2.trans (same_upd ndx)) (s2.free ndx) upd_same⟩⟩)
  · rw [decide_eq_false hp]
    rw [if_neg hp] at e0
    refine iteF ⟨_, rfl, rfl, _, rfl, ?_⟩
    rw [sEq]
    by_cases hc : wrd (lsp l) = cutW
    · rw [decide_eq_true hc]
      rw [if_pos hc] at e0
      refine iteT ⟨_, rfl, rfl, _, _, rfl, rfl, by rw [S_len]; omega, ?_⟩
      rw [rstrip_S]
      refine ⟨_, rfl, rsp (rst (lsp l)), d, rfl, hAr.sub (fun c hc => rsp_mem hc), by omega, hd, ?_⟩
      refine ⟨_, rfl, _, _, rfl, rfl, _, rfl, ?_⟩
      by_cases hk : 0 ≤ keyL (rsp (rst (lsp l))) d
      · rw [decide_eq_true hk]
        rw [if_pos hk] at e0
        exact iteT ⟨_, rfl, by show 2 ≤ sizeLine; decide, fun q nq => q2 _ e0 q _ (s1.trans (same_upd nq)) (s1.free nq) (by rw [upd_same, ← eCut]; rfl)⟩
      · rw [decide_eq_false hk]
        rw [if_neg hk] at e0
        exact iteF ⟨0, rfl, by decide, by decide, fun dx ndx => q3 e0 _ EI.gC dx _ (s1.trans (same_upd ndx)) (s1.free ndx) upd_same⟩
    · rw [decide_eq_false hc]
      rw [if_neg hc] at e0
      exact iteF ⟨0, rfl, by decide, by decide, fun dx ndx => q3 e0 _ EI.gC dx _ (s1.trans (same_upd ndx)) (s1.free ndx) upd_same⟩
end

/-! ### isinstance of a caught error that has a dict -/
section
variable {prog : Program} {w : World} {A : Around} {E : Value → Shared → Prop} {s : Shared} {K : PySem.W.Frag} {x D : Addr} {ox : Obj} {od : Option Obj}
open PySem.W PySem.Calls in
theorem cls_of_exc {Q : Option Value → Shared → Prop} (C : ExcC K D) (inK : K.In s.heap) (at_ : InstAt s.heap x ox D od) (fin : Q (some (.ref D)) { s with toks := s.toks + 1 }) :
    wpAny (model prog w) A (getAttr? (.ref x) "__class__") Q E s := by
  obtain ⟨cd, clsD, _⟩ := any_some C.hd
  have there : findObj K D od "__class__" = some (.bind (.builtin "getset_descriptor.__get__") (.builtin "object.__class__")) := by
    unfold findObj
    rw [clsD, Option.bind_some, C.ha, Option.bind_some]
    simp [C.hn, C.ht]
  obtain ⟨hp, g, d, t, os⟩ := s
  have tyL := at_.type (M := model prog w)
  have gaL := looks_findIn (M := model prog w) inK C.hg
  have gtL := looks_findIn (M := model prog w) inK C.hk
  have clL := looks_find (M := model prog w) inK at_ there
  have exL : Looks (model prog w) hp (isInstance (.ref x) (.type "BaseException")) true := tyL.andThen (looks_subIn inK C.hs)
  have own : (Value.builtin "BaseException.__getattribute__" == Value.builtin "object.__getattribute__") = false := by decide +kernel
  unfold getAttr? getAttrBy? getAttrBy
  refine wpAny_bind (wpAny_mkText (wpAny_bind (wpAny_attempt (wpAny_holding (wpAny_bind (tyL.at (wpAny_bind (gaL.at ?_))))))))
  show wpAny _ _ (if (onTheHeap (Value.ref D) && Value.builtin "BaseException.__getattribute__" == Value.builtin "object.__getattribute__") = true then _ else _) _ _ _
  rw [own, Bool.and_false, if_neg Bool.false_ne_true]
  unfold getAttrByItsOwn hookBefore
  refine wpAny_bind ?_
  rw [if_pos (show onTheHeap (Value.ref D) = true from rfl)]
  refine gtL.at (wpAny_bind (wpAny_attempt (wpAny_holding ?_)))
  unfold callGetattribute
  rw [show (false && onTheHeap (Value.builtin "BaseException.__getattribute__")) = false from rfl, if_neg Bool.false_ne_true]
  unfold boundAndCalled
  rw [PySem.F.excAttr_ValueError.ga.bind (.ref x)]
  refine wpAny_bind (wpAny_pure ?_)
  show wpAny _ _ (call (.builtin "BaseException.__getattribute__") [.ref x, .str "__class__" t]) _ _ _
  refine wpAny_call (codeAny_call_builtin PySem.F.excAttr_ValueError.ga.plain PySem.F.entry_bexc_ga
    (@check_slot (model prog w) _ _ ⟨hp, g, d, t + 1, os⟩ "BaseException.__getattribute__" "BaseException" "__getattribute__" (.ref x) [.str "__class__" t] [] _
      (by decide +kernel) (by decide +kernel) exL (PySem.F.args_bexc_ga (.ref x) (.str "__class__" t)) ?_))
  unfold Builtin.«object.__getattribute__»
  refine wpAny_bind (wpAny_of_eq (a := ((Value.ref x : Value), [Value.str "__class__" t])) (by first | rfl | (simp only [slotArgs]; rfl)) (wpAny_bind (wpAny_pure (wpAny_bind (tyL.at (wpAny_bind (clL.at ?_)))))))
  show wpAny _ _ (holding [Value.builtin "object.__class__"] (call (.builtin "getset_descriptor.__get__") [.builtin "object.__class__", .ref x, .ref D]) >>= ret) _ _ _
  refine wpAny_bind (wpAny_holding (wpAny_call (class_get (s := ⟨hp, g, d, t + 1, os⟩) (ox := ox) (od := od) inK at_ C.hm (wpAny_pure ?_))))
  show wpAny _ _ (handedOut (.ref D)) _ _ _
  rw [handedOut_of (v := .ref D) rfl]
  first
    | exact wpAny_pure (wpAny_pure fin)
    | exact wpAny_pure fin
    | exact wpAny_pure (wpAny_bind (wpAny_pure (wpAny_pure fin)))
open PySem.W PySem.Calls in
theorem kit_exc (C : ExcC K D) : KitX K (.ref x) (.ref D) (fun h => InstAt h x ox D od) where
  ty := fun _ _ _ I => I.type
  it := fun _ _ inK _ => by
    obtain ⟨cd, clsD, _⟩ := any_some C.hd
    unfold clsIn at clsD
    split at clsD
    · rename_i ho
      exact fun _ _ _ _ keep q => by
        unfold isType loadHead
        exact wpAny_bind (wpAny_loadPart (keep _ _ (inK _ _ ho)) (wpAny_pure q))
    · cases clsD
  ne := fun h tp dd its n sl inK htp => by
    obtain ⟨cd, clsD, _⟩ := any_some C.hd
    refine Bool.eq_false_iff.mpr fun q => ?_
    obtain rfl : D = tp := Value.ref.inj (beq_iff_eq.mp q)
    unfold clsIn at clsD
    split at clsD
    · rename_i ho
      cases (inK _ _ ho).symm.trans htp
    · cases clsD
  ca := fun inK I k => cls_of_exc C inK I k
end
theorem call_isD {X : Cx} {a D : Addr} {oe : Obj} {d : Option Addr} {pn : List (Addr × Obj)} (C : ExcC X.K D) (hz : Zc (.ref D) d oe) (hf : ∃ vs, oe.data = .fields vs) :
    CallR (X.suite a ((a, oe) :: pn)) (.builtin "isinstance") (fun xs H Q => ∃ (c : V) (cv : Value) (b : Bool) (dd : Addr) (fs : List (Str × V)), d = some dd ∧ H dd = some (.xd fs) ∧ xs = [.ref a, c] ∧ (∀ u, RelV c u → u = cv) ∧ PySem.W.kitOne X.K (.ref D) cv = some b ∧ Q (.bl b) H) := by
  intro pins s σ H xs us Q I r h
  obtain ⟨c, cv, b, dd, fs, rfl, hdd, rfl, hcv, e, q⟩ := h
  rcases r with _ | ⟨rx, r⟩
  rcases r with _ | ⟨rt, r⟩
  rcases r with _ | _
  cases rx
  obtain rfl := hcv _ rt
  obtain ⟨hget, _⟩ := I.pin (a, oe) (List.mem_append.mpr (.inl List.mem_cons_self))
  obtain ⟨vs, hv⟩ := hf
  obtain ⟨mA, hns, _⟩ : ObjOk X.prog X.w H s.heap dd (.xd fs) := I.hok dd _ hdd
  obtain ⟨odv, ho, _⟩ := lookIn_ns hns
  have J : PySem.W.InstAt s.heap a oe D (some odv) := ⟨hget, hz.1, by unfold PySem.W.notCls; rw [hv] <;> rfl, by rw [hz.2]; exact ho⟩
  exact PySem.W.kia_one (kit_exc C) I.kIn J e (fun z => nomatch z) fun tk => ⟨.bl b, H, I.kept (t' := tk) fun _ _ z => z, rfl, q⟩
theorem zcd_of {cls : Value} {C : Addr} {d : Option Addr} {oe : Obj} (hz : Zc cls d oe) (h : cls = .ref C) : Zc (.ref C) d oe := h ▸ hz

section
variable {P : Program} {w : World} {K : PySem.W.Frag} {mg : Str → Option Value} {base : Heap} {C B : Addr}
def spPlaced (mg : Str → Option Value) : Sp := fun vs H Q E => ∃ (l : List Nat) (d : Nat) (pl : Int), vs = [.str (S l), .int pl, .int (d : Int)] ∧ AscL l ∧ l.length ≤ 100000 ∧ d ≤ 1000 ∧ 0 ≤ pl ∧ pl < 1000000 ∧
  (readL l d = some none → ∀ H', Same H H' → Q .non H') ∧ (∀ a, readL l d = some (some a) → ∀ q H', Same H H' → H q = none → H' q = some (.tup (actV a)) → Q (.ref q) H') ∧
  (readL l d = none → ∀ D, mg "BadRow" = some (.ref D) → ∀ dx H', Same H H' → H dx = none → H' dx = some (.xd [("row", .int pl)]) → E (.ref D) (some dx) H')
theorem ok_placed {cc : Addr} (T : Txt K mg cc) (EI : ExcI K mg "BadRow" "BookError" "row" "BadRow.__init__" s_BadRow___init__ ["self", "row"] C B) : CalX P w K mg base 4 "placed" (spPlaced mg) := by
  have Z := T.Z
  have C_read_row := ok_read_rowN (P := P) (w := w) (base := base) T EI
  have F_BadRowH := ok_brinitH (P := P) (w := w) (base := base) T EI
  refine calX_of T.d_placed sc_placed (fun vs H Q E h => ?_) (fun f cdv A' outer s H vs Q E hr h => ?_)
  · obtain ⟨l, d, pl, rfl, _⟩ := h
    rfl
  obtain ⟨l, d, pl, rfl, ha, hl, hd, hp0, hp1, q1, q2, q3⟩ := h
  refine ⟨_, (pss_one (ps_try_onlyXE (pss_one (ps_ret (pv 3))) rfl rfl ⟨rfl, by decide, .inl EI.gC⟩ (fun hd => L2H.passesAt_of rfl hd) (takes_of rfl rfl rfl rfl) (fun W pn xe tk po => (pss_one (ps_set (i := 3) sc_placed.nd rfl (Or.inl rfl) (pe_cn C_read_row tk hr (by omega) rfl (pa_cons (pv 0) (pa_cons (pv 2) pa_nil)))))) (fun a oe cls d pn hz hf tk hot => (pss_one (ps_raiseIH EI F_BadRowH (L2H.roomH_mark hr (some (.ref a))) (by omega) hot tk rfl (pv 1) te_var))))), ?_⟩
  refine ⟨_, rfl, _, rfl, l, d, rfl, ha, hl, hd, fun e H' s' => ⟨_, rfl, q1 e H' s'⟩, fun a e q H' s' nq hq => ⟨_, rfl, q2 a e q H' s' nq hq⟩, fun e D hD dx H' s' ndx hdx => ?_⟩
  rw [EI.gC] at hD
  cases hD
  exact ⟨true, EI.eP, fun _ a na => ⟨_, rfl, pl, rfl, hp0, hp1, fun dx2 n2 => q3 e _ EI.gC dx2 _ (s'.trans (same_upd n2)) (s'.free n2) upd_same⟩, fun z => nomatch z⟩
end

theorem spl_many : ∀ (l acc : List Nat), (TL.spl [10] 0 acc l).length ≤ l.length + 1
  | [], acc => by rw [TL.spl_nil]; exact Nat.le_refl _
  | c :: r, acc => by
    cases h : TL.pre [10] (c :: r) with
    | true =>
      rw [TL.spl_hit h]
      have := spl_many r []
      exact Nat.succ_le_succ this
    | false =>
      rw [TL.spl_miss h]
      have := spl_many r (acc ++ [c])
      show _ ≤ r.length + 1 + 1
      omega
theorem spl_rows : ∀ (l acc : List Nat), ∀ x ∈ TL.spl [10] 0 acc l, (∀ c ∈ x, c ∈ acc ∨ c ∈ l) ∧ x.length ≤ acc.length + l.length
  | [], acc => fun x hx => by
    rw [TL.spl_nil] at hx
    rw [List.mem_singleton.mp hx]
    exact ⟨fun c hc => .inl hc, Nat.le_refl _⟩
  | c :: r, acc => fun x hx => by
    cases h : TL.pre [10] (c :: r) with
    | true =>
      rw [TL.spl_hit h] at hx
      rcases List.mem_cons.mp hx with rfl | hx
      · exact ⟨fun c hc => .inl hc, Nat.le_add_right _ _⟩
      · obtain ⟨h1, h2⟩ := spl_rows r [] x hx
        refine ⟨fun b hb => .inr (List.mem_cons_of_mem _ ((h1 b hb).resolve_left (fun z => nomatch z))), ?_⟩
        show _ ≤ acc.length + (r.length + 1)
        have h2 : x.length ≤ 0 + r.length := h2
        omega
    | false =>
      rw [TL.spl_miss h] at hx
      obtain ⟨h1, h2⟩ := spl_rows r (acc ++ [c]) x hx
      refine ⟨fun b hb => ?_, ?_⟩
      · rcases h1 b hb with h | h
        · rcases List.mem_append.mp h with h | h
          · exact .inl h
          · rw [List.mem_singleton.mp h]
            exact .inr List.mem_cons_self
        · exact .inr (List.mem_cons_of_mem _ h)
      · rw [List.length_append] at h2
        show _ ≤ acc.length + (r.length + 1)
        have h2 : x.length ≤ acc.length + 1 + r.length := h2
        omega

section
variable {P : Program} {w : World} {K : PySem.W.Frag} {mg : Str → Option Value} {base : Heap}
def someL : List Nat := TL.tl (Str.ofString " !\"#$&'()*+,-./0123456789:;<=>?@ABCDEFGHIJKLMNOPQRSTUVWXYZ[\\]^_`abcdefghijklmnopqrstuvwxyz{|}~")
theorem someL_at : someL.length = 94 ∧ (someL.all fun c => decide (32 ≤ c) && decide (c ≤ 126)) = true := by decide +kernel
theorem someL_S : Str.ofString " !\"#$&'()*+,-./0123456789:;<=>?@ABCDEFGHIJKLMNOPQRSTUVWXYZ[\\]^_`abcdefghijklmnopqrstuvwxyz{|}~" = S someL := (SX.S_tl _).symm
/-- signs from the blank to ~ -/
def PrL (t : List Nat) : Prop := ∀ c ∈ t, 32 ≤ c ∧ c ≤ 126
theorem PrL.asc {t : List Nat} (h : PrL t) : AscL t := fun c hc => by have := (h c hc).2; omega
theorem some_get {z : Int} (h0 : 0 ≤ z) (h1 : z < 94) : ∃ c, atI someL z = some c ∧ 32 ≤ c ∧ c ≤ 126 := by
  obtain ⟨n, rfl⟩ := Int.eq_ofNat_of_zero_le h0
  have hl := someL_at.1
  have hn : n < someL.length := by omega
  have := List.all_eq_true.mp someL_at.2 _ (List.getElem_mem hn)
  rw [Bool.and_eq_true] at this
  exact ⟨_, atI_nat (List.getElem?_eq_getElem hn), of_decide_eq_true this.1, of_decide_eq_true this.2⟩
theorem joinL_ones : ∀ l : List Nat, TL.joinL [] (l.map fun c => [c]) = l
  | [] => rfl
  | [a] => rfl
  | a :: b :: l => by
    have := joinL_ones (b :: l)
    show [a] ++ [] ++ TL.joinL [] ((b :: l).map fun c => [c]) = _
    rw [this]
    rfl
theorem join_ones (l : List Nat) : Txt.join (S []) (l.map fun c => S [c]) = S l := by
  have h := SX.join_S [] (l.map fun c => [c])
  rw [List.map_map] at h
  rw [joinL_ones] at h
  exact h
end

/-! ### rows that are made -/
def readB (b : List Nat) (d : Nat) : Option (Option Act) :=
  if b = [] ∨ b.head? = some 35 then some none
  else if wrd b = putW then
    if 0 ≤ keyL (wrd (rst b)) d ∧ 32 ∈ rst b then some (some (.put (keyL (wrd (rst b)) d) (rst (rst b)))) else none
  else if wrd b = cutW then
    if 0 ≤ keyL (rsp (rst b)) d then some (some (.cut (keyL (rsp (rst b)) d))) else none
  else none
theorem lsp_sp (n : Nat) {l : List Nat} (h : l.head? ≠ some 32) : lsp (List.replicate n 32 ++ l) = l := by
  induction n with
  | zero =>
    cases l with
    | nil => rfl
    | cons a l =>
      have e : (a == 32) = false := beq_eq_false_iff_ne.mpr fun z => h (by rw [z]; rfl)
      show (a :: l).dropWhile (· == 32) = a :: l
      rw [List.dropWhile_cons, if_neg (by rw [e]; decide)]
  | succ n ih =>
    rw [List.replicate_succ]
    exact ih
theorem readL_sp (n d : Nat) {b : List Nat} (h : b.head? ≠ some 32) : readL (List.replicate n 32 ++ b) d = readB b d := by
  show readB (lsp (List.replicate n 32 ++ b)) d = _
  rw [lsp_sp n h]
theorem wrd_app {p : List Nat} (r : List Nat) (h : 32 ∉ p) : wrd (p ++ 32 :: r) = p ∧ rst (p ++ 32 :: r) = r := by
  induction p with
  | nil => exact ⟨rfl, rfl⟩
  | cons a p ih =>
    obtain ⟨h1, h2⟩ := ih fun z => h (List.mem_cons_of_mem _ z)
    have e : (a != 32) = true := bne_iff_ne.mpr fun z => h (by rw [z]; exact List.mem_cons_self)
    unfold wrd rst
    rw [List.cons_append, List.takeWhile_cons, List.dropWhile_cons, if_pos e, if_pos e]
    exact ⟨congrArg (a :: ·) h1, h2⟩
theorem readB_put (r : List Nat) (d : Nat) : readB (putW ++ 32 :: r) d = if 0 ≤ keyL (wrd r) d ∧ 32 ∈ r then some (some (.put (keyL (wrd r) d) (rst r))) else none := by
  obtain ⟨h1, h2⟩ := wrd_app (p := putW) r (by decide)
  unfold readB
  rw [if_neg (by intro z; rcases z with z | z <;> cases z), if_pos h1, h2]
theorem readB_cut (r : List Nat) (d : Nat) : readB (cutW ++ 32 :: r) d = if 0 ≤ keyL (rsp r) d then some (some (.cut (keyL (rsp r) d))) else none := by
  obtain ⟨h1, h2⟩ := wrd_app (p := cutW) r (by decide)
  unfold readB
  rw [if_neg (by intro z; rcases z with z | z <;> cases z), if_neg (by rw [h1]; decide), if_pos h1, h2]
theorem readB_none {b : List Nat} (d : Nat) (h0 : b ≠ []) (h1 : b.head? ≠ some 35) (h2 : wrd b ≠ putW) (h3 : wrd b ≠ cutW) : readB b d = none := by
  unfold readB
  rw [if_neg (by intro z; exact z.elim h0 h1), if_neg h2, if_neg h3]
theorem keyL_bad {l : List Nat} (d : Nat) (h : digs l = false ∨ 9 < l.length) : ¬ 0 ≤ keyL l d := by
  unfold keyL
  rw [if_neg]
  · decide
  · rintro ⟨h1, h2, _⟩
    rcases h with h | h
    · rw [h] at h1; cases h1
    · omega
theorem digs_no {l : List Nat} {c : Nat} (hc : c ∈ l) (h : c < 48 ∨ 57 < c) : digs l = false := by
  cases hd : digs l with
  | false => rfl
  | true =>
    unfold digs at hd
    rw [Bool.and_eq_true] at hd
    have := List.all_eq_true.mp hd.2 c hc
    rw [Bool.and_eq_true] at this
    have h1 := of_decide_eq_true this.1
    have h2 := of_decide_eq_true this.2
    omega
theorem rsp_tail (x : List Nat) {t : List Nat} (ht : t ≠ []) (hn : 32 ∉ t) : rsp (x ++ t) = x ++ t := by
  unfold rsp
  rw [List.reverse_append]
  cases hr : t.reverse with
  | nil => exact absurd (List.reverse_eq_nil_iff.mp hr) ht
  | cons a r =>
    have ha : a ∈ t := List.mem_reverse.mp (by rw [hr]; exact List.mem_cons_self)
    have e : (a == 32) = false := beq_eq_false_iff_ne.mpr fun z => hn (by rw [← z]; exact ha)
    rw [List.cons_append, List.dropWhile_cons, if_neg (by rw [e]; decide), ← List.cons_append, ← hr, ← List.reverse_append, List.reverse_reverse]
theorem rsp_sp {t : List Nat} (n : Nat) (ht : t ≠ []) (hn : 32 ∉ t) : rsp (t ++ List.replicate n 32) = t := by
  unfold rsp
  rw [List.reverse_append, List.reverse_replicate]
  have h : (List.replicate n 32 ++ t.reverse).dropWhile (· == 32) = t.reverse := by
    refine lsp_sp n ?_
    cases hr : t.reverse with
    | nil => exact absurd (List.reverse_eq_nil_iff.mp hr) ht
    | cons a r =>
      intro z
      have ha : a ∈ t := List.mem_reverse.mp (by rw [hr]; exact List.mem_cons_self)
      have z : a = 32 := Option.some.inj z
      exact hn (by rw [← z]; exact ha)
  rw [h, List.reverse_reverse]
/-- a key's figures -/
structure Fig (kd : List Nat) (n : Nat) : Prop where
  ne : kd ≠ []
  dg : ∀ c ∈ kd, 48 ≤ c ∧ c ≤ 57
  l9 : kd.length ≤ 9
  vl : NumText.digitsVal kd = n
theorem Fig.digs {kd : List Nat} {n : Nat} (h : Fig kd n) : digs kd = true := by
  unfold My.digs
  rw [Bool.and_eq_true]
  refine ⟨?_, List.all_eq_true.mpr fun c hc => ?_⟩
  · cases kd with
    | nil => exact absurd rfl h.ne
    | cons a l => rfl
  · rw [Bool.and_eq_true]
    exact ⟨decide_eq_true (h.dg c hc).1, decide_eq_true (h.dg c hc).2⟩
theorem Fig.no32 {kd : List Nat} {n : Nat} (h : Fig kd n) : 32 ∉ kd := fun z => by have := (h.dg 32 z).1; omega
theorem Fig.key {kd : List Nat} {n d : Nat} (h : Fig kd n) : keyL kd d = if n < 2 ^ d then (n : Int) else -1 := by
  unfold keyL
  by_cases c : n < 2 ^ d
  · rw [if_pos ⟨h.digs, h.l9, by rw [h.vl]; exact c⟩, if_pos c, h.vl]
  · rw [if_neg (fun z => c (by rw [← h.vl]; exact z.2.2)), if_neg c]
theorem Fig.pr {kd : List Nat} {n : Nat} (h : Fig kd n) : PrL kd := fun c hc => by have := h.dg c hc; omega
theorem val_zero (z : Nat) (l : List Nat) : NumText.digitsVal (List.replicate z 48 ++ l) = NumText.digitsVal l := by
  unfold NumText.digitsVal
  rw [List.foldl_append]
  congr 1
  induction z with
  | zero => rfl
  | succ z ih => rw [List.replicate_succ, List.foldl_cons]; exact ih
theorem fig_num {n z : Nat} (h : n < 100000) (hz : z + (TL.numL n).length ≤ 9) : Fig (List.replicate z 48 ++ TL.numL n) n := by
  refine ⟨?_, fun c hc => ?_, ?_, ?_⟩
  · intro e
    exact TL.numL_ne n (List.append_eq_nil_iff.mp e).2
  · rcases List.mem_append.mp hc with hc | hc
    · rw [(List.mem_replicate.mp hc).2]
      decide
    · exact TL.numL_digits n c hc
  · rw [List.length_append, List.length_replicate]
    exact hz
  · rw [val_zero, TL.numL_val]
inductive Due where
  | non
  | bad
  | act (a : Act)
def dueR : Due → Option (Option Act)
  | .non => some none
  | .bad => none
  | .act a => some (some a)
theorem row_put {kd t : List Nat} {n m d : Nat} (h : Fig kd n) : readL (List.replicate m 32 ++ (putW ++ 32 :: (kd ++ 32 :: t))) d = dueR (if n < 2 ^ d then .act (.put n t) else .bad) := by
  rw [readL_sp m d (by show some 112 ≠ some 32; decide), readB_put]
  obtain ⟨h1, h2⟩ := wrd_app (p := kd) t h.no32
  rw [h1, h2, h.key]
  by_cases c : n < 2 ^ d
  · rw [if_pos c, if_pos c, if_pos ⟨Int.natCast_nonneg _, List.mem_append.mpr (.inr List.mem_cons_self)⟩]
    rfl
  · rw [if_neg c, if_neg c, if_neg (fun z => by have := z.1; omega)]
    rfl
theorem row_cut {kd : List Nat} {n m j d : Nat} (h : Fig kd n) : readL (List.replicate m 32 ++ (cutW ++ 32 :: (kd ++ List.replicate j 32))) d = dueR (if n < 2 ^ d then .act (.cut n) else .bad) := by
  rw [readL_sp m d (by show some 99 ≠ some 32; decide), readB_cut, rsp_sp j h.ne h.no32, h.key]
  by_cases c : n < 2 ^ d
  · rw [if_pos c, if_pos c, if_pos (Int.natCast_nonneg _)]
    rfl
  · rw [if_neg c, if_neg c, if_neg (by decide)]
    rfl
theorem row_none (m d : Nat) : readL (List.replicate m 32) d = dueR .non := by
  have h := readL_sp m d (b := []) (by decide)
  rw [List.append_nil] at h
  rw [h]
  rfl
theorem row_hash (m d : Nat) (t : List Nat) : readL (List.replicate m 32 ++ 35 :: t) d = dueR .non := by
  rw [readL_sp m d (by show some 35 ≠ some 32; decide)]
  rfl
/-- a text that cannot be read -/
structure BadB (b : List Nat) : Prop where
  hd : b.head? ≠ some 32
  pr : PrL b
  ln : b.length ≤ 40
  rd : ∀ d, readB b d = none
theorem pr_app {a b : List Nat} (h : PrL a) (h' : PrL b) : PrL (a ++ b) := fun c hc => (List.mem_append.mp hc).elim (h c) (h' c)
theorem pr_cons {a : Nat} {b : List Nat} (h : 32 ≤ a ∧ a ≤ 126) (h' : PrL b) : PrL (a :: b) := fun c hc => (List.mem_cons.mp hc).elim (fun e => by rw [e]; exact h) (h' c)
theorem pr_nil : PrL [] := fun c hc => nomatch hc
theorem pr_rep {c : Nat} (n : Nat) (h : 32 ≤ c ∧ c ≤ 126) : PrL (List.replicate n c) := fun x hx => by rw [(List.mem_replicate.mp hx).2]; exact h
theorem bad_put {r : List Nat} (hp : PrL r) (hl : r.length ≤ 36) (h : digs (wrd r) = false ∨ 9 < (wrd r).length ∨ 32 ∉ r) : BadB (putW ++ 32 :: r) := by
  refine ⟨by show some 112 ≠ some 32; decide, pr_app (fun c hc => by simp [putW] at hc; omega) (pr_cons (by decide) hp), by simp [putW]; omega, fun d => ?_⟩
  rw [readB_put, if_neg]
  rintro ⟨h1, h2⟩
  rcases h with h | h | h
  · exact keyL_bad d (.inl h) h1
  · exact keyL_bad d (.inr h) h1
  · exact h h2
theorem bad_cut {r : List Nat} (hp : PrL r) (hl : r.length ≤ 36) (h : digs (rsp r) = false ∨ 9 < (rsp r).length) : BadB (cutW ++ 32 :: r) := by
  refine ⟨by show some 99 ≠ some 32; decide, pr_app (fun c hc => by simp [cutW] at hc; omega) (pr_cons (by decide) hp), by simp [cutW]; omega, fun d => ?_⟩
  rw [readB_cut, if_neg (keyL_bad d h)]
theorem bad_word {w r : List Nat} (hp : PrL (w ++ 32 :: r)) (hl : (w ++ 32 :: r).length ≤ 40) (h0 : (w ++ 32 :: r).head? ≠ some 32 ∧ (w ++ 32 :: r).head? ≠ some 35) (h1 : 32 ∉ w) (h2 : w ≠ putW) (h3 : w ≠ cutW) : BadB (w ++ 32 :: r) := by
  have hw := (wrd_app (p := w) r h1).1
  exact ⟨h0.1, hp, hl, fun d => readB_none d (by simp) h0.2 (by rw [hw]; exact h2) (by rw [hw]; exact h3)⟩
theorem bad_row {b : List Nat} (h : BadB b) (m d : Nat) : readL (List.replicate m 32 ++ b) d = dueR .bad := by
  rw [readL_sp m d h.hd, h.rd]
  rfl

/-- what takes any exception takes one without a context -/
theorem takesN {X : Cx} {W : WX} (tk : Takes X W) : L2N.Takes X W := by
  rintro u s' ⟨a, B, sI, pins, σ, H, cls, d, e, I, nb, up, sky, more⟩
  refine tk u s' ⟨a, B, sI, pins, σ, H, cls, d, e, I, nb, up, ?_, more⟩
  rcases sky with ⟨h1, h2, h3, oe, vs, h4, h5, h6⟩ | h | h
  · exact .inl ⟨h1, h2, h3, oe, vs, h4, h5.zc, h6⟩
  · exact .inr (.inl (L2H.flyingZ_imp (fun _ z => z.zc) h))
  · exact .inr (.inr ⟨h.1, h.2.1, h.2.2.1, L2H.tracedZ_imp (fun _ z => z.zc) h.2.2.2⟩)

/-! ### the rows of a text, done on pairs -/
def runL (d : Nat) : Nat → List (List Nat) → List (Int × Str) → Except Nat (List (Int × Str))
  | _, [], kv => .ok kv
  | i, r :: rs, kv => match readL r d with
    | none => .error i
    | some none => runL d (i + 1) rs kv
    | some (some (.put k t)) => runL d (i + 1) rs (putI kv k (S t))
    | some (some (.cut k)) => match getI kv k with
      | none => .error i
      | some _ => runL d (i + 1) rs (popI kv k)
def ActIn (l : Nat) (row : List Nat) : Act → Prop
  | .put k t => 0 ≤ k ∧ k < 2 ^ l ∧ ∀ c ∈ t, c ∈ row
  | .cut k => 0 ≤ k ∧ k < 2 ^ l
theorem keyL_lt {l : List Nat} {d : Nat} (h : 0 ≤ keyL l d) : keyL l d < 2 ^ d := by
  unfold keyL at h ⊢
  by_cases c : digs l = true ∧ l.length ≤ 9 ∧ NumText.digitsVal l < 2 ^ d
  · rw [if_pos c]
    have e : ((2 ^ d : Nat) : Int) = 2 ^ d := by rw [Int.natCast_pow]; rfl
    rw [← e]
    exact Int.ofNat_lt.mpr c.2.2
  · rw [if_neg c] at h
    exact absurd h (by decide)
theorem readL_in {row : List Nat} {d : Nat} {a : Act} (h : readL row d = some (some a)) : ActIn d row a := by
  unfold readL at h
  split at h
  · cases h
  · split at h
    · split at h
      · rename_i c
        cases h
        exact ⟨c.1, keyL_lt c.1, fun x hx => lsp_mem (rst_mem (rst_mem hx))⟩
      · cases h
    · split at h
      · split at h
        · rename_i c
          cases h
          exact ⟨c, keyL_lt c⟩
        · cases h
      · cases h
theorem putI_new {kvs : List (Int × Str)} {k : Int} (x : Str) (h : ∀ e ∈ kvs, e.1 ≠ k) : putI kvs k x = kvs ++ [(k, x)] := by
  unfold putI
  rw [if_neg]
  intro c
  obtain ⟨e, he, q⟩ := List.any_eq_true.mp c
  exact h e he (of_decide_eq_true q)
theorem put_take {rows : List (Int × Str)} {i : Nat} {e : Int × Str} (hn : (rows.map (·.1)).Nodup) (he : rows[i]? = some e) : putI (rows.take i) e.1 e.2 = rows.take (i + 1) := by
  have e1 : rows.take (i + 1) = rows.take i ++ [e] := by rw [List.take_succ, he]; rfl
  rw [e1, putI_new]
  intro y hy z
  have hi := (List.getElem?_eq_some_iff.mp he).1
  have h1 : ((rows.take (i + 1)).map (·.1)).Nodup := hn.sublist (List.Sublist.map _ (List.take_sublist _ _))
  rw [e1, List.map_append, List.nodup_append] at h1
  exact h1.2.2 y.1 (List.mem_map_of_mem hy) e.1 (by simp) z
theorem TbOk.perm {l : Nat} {a b : List (Int × Str)} (h : TbOk l a) (p : b.Perm a) : TbOk l b :=
  ⟨(p.map (·.1)).nodup_iff.mpr h.nd, fun e he => h.rg e (p.mem_iff.mp he), fun e he => h.tx e (p.mem_iff.mp he)⟩
theorem TbAt.upd {C f : Addr} {H : Hp} {p d : Addr} {l : Nat} {kvs kvs' : List (Int × Str)} (h : TbAt C f H p d l kvs) (hl : kvs'.length ≤ 1000) : TbAt C f (L2.upd H d (.dK (convT kvs'))) p d l kvs' := by
  obtain ⟨⟨dx, a⟩, b, c⟩ := h
  exact ⟨⟨dx, by rw [upd_ne (fun z => by rw [z, b] at a; cases a)]; exact a⟩, upd_same, hl, c.2⟩
theorem ne_dK {H : Hp} {d a : Addr} {kv : List (Key × V)} {xs : List V} (hd : H d = some (.dK kv)) (ha : H a = some (.lst xs)) : a ≠ d := fun z => by
  rw [z, hd] at ha
  cases ha
/-! ### pairs in another row -/
theorem any_key {a : List (Int × Str)} {k : Int} : ((a.any fun e => decide (e.1 = k)) = true) ↔ k ∈ a.map (·.1) := by
  rw [List.any_eq_true, List.mem_map]
  exact ⟨fun ⟨e, h, q⟩ => ⟨e, h, of_decide_eq_true q⟩, fun ⟨e, h, q⟩ => ⟨e, h, decide_eq_true q⟩⟩
theorem putI_perm {a b : List (Int × Str)} (p : a.Perm b) (k : Int) (x : Str) : (putI a k x).Perm (putI b k x) := by
  have h := (p.map (·.1)).mem_iff (a := k)
  unfold putI
  by_cases c : (a.any fun e => decide (e.1 = k)) = true
  · rw [if_pos c, if_pos (any_key.mpr (h.mp (any_key.mp c)))]
    exact p.map _
  · rw [if_neg c, if_neg (fun z => c (any_key.mpr (h.mpr (any_key.mp z))))]
    exact p.append_right _
theorem popI_perm {a b : List (Int × Str)} (p : a.Perm b) (k : Int) : (popI a k).Perm (popI b k) := p.filter _
theorem getI_none {a : List (Int × Str)} {k : Int} (h : k ∉ a.map (·.1)) : getI a k = none := by
  unfold getI
  rw [List.find?_eq_none.mpr]
  · rfl
  · intro e he z
    exact h (List.mem_map.mpr ⟨e, he, of_decide_eq_true z⟩)
theorem getI_perm {a b : List (Int × Str)} (hn : (a.map (·.1)).Nodup) (p : a.Perm b) (k : Int) : getI a k = getI b k := by
  by_cases c : k ∈ a.map (·.1)
  · obtain ⟨t, h1, h2⟩ := getI_mem c
    rw [h1]
    exact (getI_of (e := (k, t)) ((p.map (·.1)).nodup_iff.mp hn) (p.mem_iff.mp h2)).symm
  · rw [getI_none c, getI_none fun z => c ((p.map (·.1)).mem_iff.mpr z)]
theorem putI_nd {a : List (Int × Str)} (h : (a.map (·.1)).Nodup) (k : Int) (x : Str) : ((putI a k x).map (·.1)).Nodup := by
  unfold putI
  by_cases c : (a.any fun e => decide (e.1 = k)) = true
  · rw [if_pos c]
    have em : (a.map fun e => if e.1 = k then (e.1, x) else e).map (·.1) = a.map (·.1) := by
      rw [List.map_map]
      refine List.map_congr_left fun e _ => ?_
      show (if e.1 = k then (e.1, x) else e).1 = e.1
      by_cases q : e.1 = k
      · rw [if_pos q]
      · rw [if_neg q]
    rw [em]
    exact h
  · rw [if_neg c, List.map_append, List.nodup_append]
    refine ⟨h, List.pairwise_singleton _ _, fun y hy z hz => ?_⟩
    have hz' : z = k := List.mem_singleton.mp hz
    subst hz'
    exact fun q => c (any_key.mpr (q ▸ hy))
theorem popI_nd {a : List (Int × Str)} (h : (a.map (·.1)).Nodup) (k : Int) : ((popI a k).map (·.1)).Nodup := h.sublist (List.Sublist.map _ List.filter_sublist)
def SameR : Except Nat (List (Int × Str)) → Except Nat (List (Int × Str)) → Prop
  | .ok x, .ok y => x.Perm y
  | .error i, .error j => i = j
  | _, _ => False
theorem run_perm {d : Nat} : ∀ (rs : List (List Nat)) (i : Nat) (a b : List (Int × Str)), (a.map (·.1)).Nodup → a.Perm b → SameR (runL d i rs a) (runL d i rs b)
  | [], i, a, b, _, p => p
  | r :: rs, i, a, b, hn, p => by
    rw [runL, runL]
    cases readL r d with
    | none => exact (rfl : i = i)
    | some o =>
      cases o with
      | none => exact run_perm rs (i + 1) a b hn p
      | some act =>
        cases act with
        | put k t => exact run_perm rs (i + 1) _ _ (putI_nd hn k _) (putI_perm p k _)
        | cut k =>
          show SameR (match getI a k with | none => .error i | some _ => runL d (i + 1) rs (popI a k)) (match getI b k with | none => .error i | some _ => runL d (i + 1) rs (popI b k))
          rw [← getI_perm hn p k]
          cases getI a k with
          | none => exact (rfl : i = i)
          | some v => exact run_perm rs (i + 1) _ _ (popI_nd hn k) (popI_perm p k)
theorem SameR.ok {x : List (Int × Str)} {r : Except Nat (List (Int × Str))} (h : SameR (.ok x) r) : ∃ y, r = .ok y ∧ x.Perm y := by
  cases r with
  | ok y => exact ⟨y, rfl, h⟩
  | error j => exact h.elim
theorem SameR.error {i : Nat} {r : Except Nat (List (Int × Str))} (h : SameR (.error i) r) : r = .error i := by
  cases r with
  | ok y => exact h.elim
  | error j => exact congrArg Except.error (Eq.symm h)
theorem run_ok {d : Nat} : ∀ (rs : List (List Nat)) (i : Nat) (a b : List (Int × Str)), TbOk d a → (∀ r ∈ rs, AscL r) → runL d i rs a = .ok b → TbOk d b ∧ b.length ≤ a.length + rs.length
  | [], i, a, b, h, _, e => by
    cases e
    exact ⟨h, Nat.le_refl _⟩
  | r :: rs, i, a, b, h, hr, e => by
    have hr' := fun x hx => hr x (List.mem_cons_of_mem _ hx)
    rw [runL] at e
    cases q : readL r d with
    | none => rw [q] at e; cases e
    | some o =>
      rw [q] at e
      cases o with
      | none =>
        obtain ⟨h1, h2⟩ := run_ok rs (i + 1) a b h hr' e
        exact ⟨h1, by rw [List.length_cons]; omega⟩
      | some act =>
        have hin := readL_in q
        cases act with
        | put k t =>
          have tx : txtOk (S t) = true := txt_of_tl fun c hc => by
            have := hr r List.mem_cons_self c (hin.2.2 c hc)
            omega
          obtain ⟨h1, h2⟩ := run_ok rs (i + 1) _ b (tbok_put h hin.1 hin.2.1 tx) hr' e
          have := put_length a k (S t)
          exact ⟨h1, by rw [List.length_cons]; omega⟩
        | cut k =>
          have e : (match getI a k with | none => Except.error i | some _ => runL d (i + 1) rs (popI a k)) = .ok b := e
          cases g : getI a k with
          | none => rw [g] at e; cases e
          | some v =>
            rw [g] at e
            obtain ⟨h1, h2⟩ := run_ok rs (i + 1) _ b (tbok_pop h) hr' e
            have := pop_length a k
            exact ⟨h1, by rw [List.length_cons]; omega⟩

section
variable {P : Program} {w : World} {K : PySem.W.Frag} {mg : Str → Option Value} {base : Heap} {Fam : Sys → Prop} {C B CT : Addr}
def spChanged (mg : Str → Option Value) (CT : Addr) (Fam : Sys → Prop) : Sp := fun vs H Q E => ∃ (S0 : Sys) (p d : Addr) (l : Nat) (kvs : List (Int × Str)) (tx : List Nat) (r : Nat), Fam S0 ∧ vs = [.ref p, .str (S tx), .int (l : Int)] ∧ TbAt CT S0.f H p d l kvs ∧ TbOk l kvs ∧ AscL tx ∧ kvs.length + tx.length ≤ 900 ∧ S0.ok H r ∧
  (∀ rows kv o d' H', rows.Perm kvs → runL l 0 (TL.spl [10] 0 [] tx) rows = .ok kv → Ext H H' → H o = none → H d' = none → S0.ok H' r → TbAt CT S0.f H' o d' l kv → TbOk l kv → Q (.ref o) H') ∧
  (∀ rows i, rows.Perm kvs → runL l 0 (TL.spl [10] 0 [] tx) rows = .error i → ∀ D, mg "BadRow" = some (.ref D) → ∀ dx H', Ext H H' → S0.ok H' r → H dx = none → H' dx = some (.xd [("row", .int (i : Int))]) → E (.ref D) (some dx) H')
theorem ok_changed {cc : Addr} (T : Txt K mg cc) (A : SlA P w K mg base Fam) (KT : K_Table K mg CT) (EI : ExcI K mg "BadRow" "BookError" "row" "BadRow.__init__" s_BadRow___init__ ["self", "row"] C B) : CalX P w K mg base 8 "changed" (spChanged mg CT Fam) := by
  have Z := T.Z
  have C_placed := ok_placed (P := P) (w := w) (base := base) T EI
  have F_BadRow := ok_brinit (P := P) (w := w) (base := base) T EI
  have C_Table := ok_tinit A KT
  have M_rows := ok_rows (P := P) (w := w) (base := base) T KT
  have M_put := ok_put (P := P) (w := w) (base := base) T KT
  have M_value := ok_value (P := P) (w := w) (base := base) T KT
  have M_cut := ok_cut (P := P) (w := w) (base := base) T KT
  refine calX_of T.d_changed sc_changed (fun vs H Q E h => ?_) (fun f cdv A' outer s H vs Q E hr h => ?_)
  · obtain ⟨S0, p, d, l, kvs, tx, r, _, rfl, _⟩ := h
    rfl
  obtain ⟨S0, p, d, l, kvs, tx, r, hF, rfl, tb, hk, ha, hsz, hok, q1, q2⟩ := h
  have G := A.good hF
  have e16 : sizeLine = 16777216 := sizeLine_eq
  obtain ⟨⟨dx, hp⟩, hd, hz, hl'⟩ := id tb
  refine ⟨_, (pss_cons (ps_set (i := 3) sc_changed.nd rfl (Or.inl rfl) (pe_mk C_Table hr (by omega) rfl (pa_cons (pe_fld (pv 0) rfl) (pa_cons (pv 2) pa_nil))))
  (pss_cons (ps_for (passes_of rfl) rfl (pi_list (pe_mt0 M_rows hr (by omega) (pv 0))) (pg_tup rfl (pgs_cons (pg_name (i := 4) sc_changed.nd rfl (Or.inl rfl)) (pgs_cons (pg_name (i := 5) sc_changed.nd rfl (Or.inl rfl)) pgs_nil))) (pss_one (ps_expr (pe_mtx M_put (takes_of rfl rfl rfl rfl) hr (by omega) (pv 3) (pa_cons (pv 4) (pa_cons (pv 5) pa_nil))))))
  (pss_cons (ps_for (passes_of rfl) rfl (pi_enum (by rfl) Z.enumerate (pa_cons (pe_split (pv 1) pe_str) pa_nil)) (pg_tup rfl (pgs_cons (pg_name (i := 6) sc_changed.nd rfl (Or.inl rfl)) (pgs_cons (pg_name (i := 7) sc_changed.nd rfl (Or.inl rfl)) pgs_nil))) (pss_cons (ps_set (i := 8) sc_changed.nd rfl (Or.inl rfl) (pe_cx C_placed (takes_of rfl rfl rfl rfl) hr (by omega) rfl (pa_cons (pv 7) (pa_cons (pv 6) (pa_cons (pv 2) pa_nil)))))
  (pss_one (ps_if (PW.pt (pw_and (pt_cmpR op_notN (pv 8) pe_non (nomark _)) (pw_and1 (pt_cmpR op_eq (pe_ix ix_tup (pv 8) pe_int (fun _ _ => rfl)) pe_str (nomark _))))) (pss_one (ps_expr (pe_mtx M_put (takes_of rfl rfl rfl rfl) hr (by omega) (pv 3) (pa_cons (pe_ix ix_tup (pv 8) pe_int (fun _ _ => rfl)) (pa_cons (pe_ix ix_tup (pv 8) pe_int (fun _ _ => rfl)) pa_nil))))) (pss_one (ps_if (pt_cmpR op_notN (pv 8) pe_non (nomark _)) (pss_cons (ps_if (pt_cmpR op_isN (pe_mtx M_value (takes_of rfl rfl rfl rfl) hr (by omega) (pv 3) (pa_cons (pe_ix ix_tup (pv 8) pe_int (fun _ _ => rfl)) pa_nil)) pe_non (nomark _)) (pss_one (ps_raiseIN EI F_BadRow hr (by omega) rfl (takesN (takes_of rfl rfl rfl rfl)) rfl (pv 6) te_var)) pss_nil)
  (pss_one (ps_expr (pe_mtx M_cut (takes_of rfl rfl rfl rfl) hr (by omega) (pv 3) (pa_cons (pe_ix ix_tup (pv 8) pe_int (fun _ _ => rfl)) pa_nil))))) pss_nil))))))
  (pss_one (ps_ret (pv 3)))))), ?_⟩
  have eNl : Str.ofString "\n" = S [10] := TL.ext_tl (by decide +kernel)
  refine ⟨_, rfl, p, CT, dx, _, _, rfl, hp, KT.cl, KT.n_seal, tbF_seal _ _ _, _, rfl, fun o ox no nox nex => ?_⟩
  have y1 : Ext H (upd (upd H ox (.own o)) o (.ins CT ox [])) := (Ext.new nox).trans (Ext.new (by rw [upd_ne nex.symm]; exact no))
  have ky1 : Kp H (upd (upd H ox (.own o)) o (.ins CT ox [])) := (Kp.new nox).trans (Kp.new (by rw [upd_ne nex.symm]; exact no))
  refine ⟨S0, o, ox, l, r, hF, rfl, upd_same, hl', G.keep ky1 hok, fun H1 d1 xo1 kp1 nd1 ok1 tb1 => ⟨rfl, ?_⟩⟩
  have x1 : Ext H H1 := xo1.ext y1 no
  have nd1' := y1.free nd1
  -- the rows
  have tbp := tb.ext x1
  obtain ⟨⟨dx', hp'⟩, _, _⟩ := id tbp
  refine ⟨_, rfl, p, dx', _, rfl, hp', (tbF_no _ _ _).2.2.2.2.1, S0.f, p, d, l, kvs, rfl, tbp, hk.nd, hk.tx, fun qr ys rows H2 x2 k2 nqr hqr hrows perm pw => ?_⟩
  have hk2 := hk.perm perm
  have tb2 := tb1.ext x2
  have hyl := hrows.len
  have rl := perm.length_eq
  refine ⟨qr, rfl, ⟨_, SqL.of hqr⟩, for_list (K := K) (a := qr) (xs := ys) (fun i σ H' => ∃ (y4 y5 : Option V), σ = [some (.ref p), some (.str (S tx)), some (.int (l : Int)), some (.ref o), y4, y5, none, none, none] ∧ Ext H H' ∧ S0.ok H' r ∧ TbAt CT S0.f H' o d1 l (rows.take i) ∧ H' qr = some (.lst ys) ∧ KvL H' ys rows)
    ⟨none, none, rfl, x1.trans x2, G.keep k2 ok1, tb2, hqr, hrows⟩ (fun i σ H' _ ⟨_, _, _, _, _, _, h, _⟩ => SqL.of h) ?_ ?_⟩
  · rintro i x σ H' hi ⟨y4, y5, rfl, xi, oki, tbi, hqi, hri⟩
    have hil := (List.getElem?_eq_some_iff.mp hi).1
    have he : rows[i]? = some (rows[i]'(by omega)) := List.getElem?_eq_getElem _
    obtain ⟨qe, rfl, hqe, hqx⟩ := hri.at_ i x _ hi he
    have hrg := hk2.rg _ (List.getElem_mem (show i < rows.length by omega))
    generalize rows[i]'(by omega) = e at he hqe hqx hrg
    obtain ⟨⟨dxo, hpo⟩, hdo, _⟩ := id tbi
    refine ⟨qe, _, rfl, SqT.of hqe, rfl, _, _, rfl, _, _, rfl, rfl, _, rfl, o, dxo, _, rfl, hpo, (tbF_no _ _ _).2.1, _, rfl, _, rfl, S0.f, o, d1, l, _, e.1, e.2, rfl, tbi, fun _ => ?_, fun h => absurd hrg h⟩
    rw [put_take hk2.nd he]
    refine ⟨_, _, rfl, xi.mut nd1', G.keep (Kp.dK hdo) oki, tbi.upd (by rw [List.length_take]; omega), by rw [upd_ne (ne_dK hdo hqi)]; exact hqi, hri.gr (Kp.dK hdo).gr⟩
  rintro σ H3 ⟨y4, y5, rfl, x3, ok3, tb3, _, _⟩
  rw [hyl, List.take_length] at tb3
  -- the text's rows
  refine ⟨_, rfl, ⟨_, rfl⟩, _, _, rfl, rfl, by decide +kernel, by rw [S_len]; omega, fun sp nsp => ?_⟩
  rw [eNl, SX.split_S (by simp) (by decide)]
  have rlm := spl_many tx []
  have rm := spl_rows tx []
  generalize TL.spl [10] 0 [] tx = trs at rlm rm q1 q2 ⊢
  have u4 := Ext.new (o := .lst ((trs.map S).map V.str)) nsp
  have hsp : upd H3 sp (.lst ((trs.map S).map V.str)) sp = some (.lst ((trs.map S).map V.str)) := upd_same
  have x4 := x3.trans u4
  have ok4 := G.keep (Kp.new (o := .lst ((trs.map S).map V.str)) nsp) ok3
  have tb4 := tb3.ext u4
  generalize upd H3 sp (.lst ((trs.map S).map V.str)) = H4 at hsp x4 ok4 tb4 ⊢
  refine ⟨sp, _, rfl, SqL.of hsp, for_it (walk_enum (K := K) (a := sp) (xs := (trs.map S).map V.str)) (fun i σ H' => ∃ (y4 y5 y6 y7 y8 : Option V) (kv : List (Int × Str)), σ = [some (.ref p), some (.str (S tx)), some (.int (l : Int)), some (.ref o), y4, y5, y6, y7, y8] ∧ Ext H H' ∧ S0.ok H' r ∧ TbAt CT S0.f H' o d1 l kv ∧ TbOk l kv ∧ kv.length ≤ rows.length + i ∧ H' sp = some (.lst ((trs.map S).map V.str)) ∧ runL l 0 trs rows = runL l i (trs.drop i) kv)
    ⟨_, _, none, none, none, rows, rfl, x4, ok4, tb4, hk2, by omega, hsp, by rw [List.drop_zero]⟩ (fun i σ H' _ ⟨_, _, _, _, _, _, _, _, _, _, _, _, h, _⟩ => SqL.of h) ?_ ?_⟩
  · rintro i x σ H5 H6 hi ⟨y4, y5, y6, y7, y8, kv, rfl, xi, oki, tbi, hki, hlen, hspi, hrun⟩ ⟨t, kx, vx, rfl, nt, rfl, e1, e2⟩
    rw [List.length_map, List.length_map] at hi
    have hr' : trs[i]? = some trs[i] := List.getElem?_eq_getElem hi
    have hmem := List.getElem_mem hi
    have hdr : trs.drop i = trs[i] :: trs.drop (i + 1) := List.drop_eq_getElem_cons hi
    rw [hdr] at hrun
    generalize trs[i] = row at hr' hmem hdr hrun
    have e1' : V.int (i : Int) = kx := Option.some.inj e1
    have e2' : V.str (S row) = vx := by
      have e2 : ((trs.map S).map V.str)[i]? = some vx := e2
      rw [List.getElem?_map, List.getElem?_map, hr'] at e2
      exact Option.some.inj e2
    subst e1' e2'
    have ut := Ext.new (o := .tup [.int (i : Int), .str (S row)]) nt
    refine ⟨t, _, rfl, SqT.of upd_same, rfl, _, _, rfl, _, _, rfl, rfl, ?_⟩
    have x6 := xi.trans ut
    have ok6 := G.keep (Kp.new (o := .tup [.int (i : Int), .str (S row)]) nt) oki
    have tb6 := tbi.ext ut
    have hsp6 := ut.lst hspi
    generalize upd H5 t (.tup [.int (i : Int), .str (S row)]) = H6 at x6 ok6 tb6 hsp6 ⊢
    obtain ⟨rc, rle⟩ := rm row hmem
    have rle : row.length ≤ 0 + tx.length := rle
    refine ⟨_, rfl, _, rfl, _, rfl, row, l, (i : Int), rfl, ha.sub (fun c hc => (rc c hc).resolve_left (fun z => nomatch z)), by omega, hl', by omega, by omega, fun e H7 s7 => ?_, fun a e q4 H7 s7 nq4 hq4 => ?_, fun e D hD dx7 H7 s7 ndx hdx => ?_⟩
    · refine ⟨_, rfl, rfl, _, rfl, iteF ?_⟩
      refine iteF ?_
      refine ⟨_, rfl, rfl, _, rfl, iteF ?_⟩
      refine ⟨_, _, _, _, _, kv, rfl, x6.trans (Ext.of_same s7), G.keep (kp_same s7) ok6, tb6.ext (Ext.of_same s7), hki, by omega, (Ext.of_same s7).lst hsp6, ?_⟩
      rw [hrun, runL, e]
    · have x7 := x6.trans (Ext.of_same s7)
      have tb7 := tb6.ext (Ext.of_same s7)
      have ok7 := G.keep (kp_same s7) ok6
      have hsp7 := (Ext.of_same s7).lst hsp6
      have hin := readL_in e
      obtain ⟨⟨dxo, hpo⟩, hdo, _⟩ := id tb7
      refine ⟨_, rfl, rfl, _, rfl, iteT ?_⟩
      cases a with
      | put k tt =>
        refine ⟨_, rfl, q4, _, 0, _, rfl, rfl, SqT.of hq4, rfl, rfl, _, rfl, ?_⟩
        refine iteT ?_
        refine ⟨_, rfl, o, dxo, _, rfl, hpo, (tbF_no _ _ _).2.1, _, rfl, q4, _, 1, _, rfl, rfl, SqT.of hq4, rfl, _, rfl, q4, _, 2, _, rfl, rfl, SqT.of hq4, rfl, S0.f, o, d1, l, _, k, S tt, rfl, tb7, fun _ => ?_, fun h => absurd ⟨hin.1, hin.2.1⟩ h⟩
        have pl := put_length kv k (S tt)
        have htt : txtOk (S tt) = true := txt_of_tl fun c hc => by
          have := ha c ((rc c (hin.2.2 c hc)).resolve_left (fun z => nomatch z))
          omega
        refine ⟨_, _, _, _, _, putI kv k (S tt), rfl, x7.mut nd1', G.keep (Kp.dK hdo) ok7, tb7.upd (by omega), tbok_put hki hin.1 hin.2.1 htt, by omega, by rw [upd_ne (ne_dK hdo hsp7)]; exact hsp7, ?_⟩
        rw [hrun, runL, e]
      | cut k =>
        refine ⟨_, rfl, q4, _, 0, _, rfl, rfl, SqT.of hq4, rfl, rfl, _, rfl, ?_⟩
        refine iteF ?_
        refine ⟨_, rfl, rfl, _, rfl, iteT ?_⟩
        refine ⟨_, rfl, o, dxo, _, rfl, hpo, (tbF_no _ _ _).2.2.2.1, _, rfl, q4, _, 1, _, rfl, rfl, SqT.of hq4, rfl, S0.f, o, d1, l, _, k, rfl, tb7, fun _ => ?_, fun h => absurd ⟨hin.1, hin.2⟩ h⟩
        cases hg : getI kv k with
        | none =>
          refine ⟨rfl, _, rfl, iteT ?_⟩
          refine ⟨_, rfl, _, rfl, by omega, by omega, fun dx8 n8 => ?_⟩
          refine q2 rows i perm ?_ _ EI.gC dx8 _ (x7.mut (x7.free n8)) (G.keep (Kp.new n8) ok7) (x7.free n8) upd_same
          rw [hrun, runL, e]
          show (match getI kv k with | none => Except.error i | some _ => _) = _
          rw [hg]
        | some v =>
          refine ⟨rfl, _, rfl, iteF ?_⟩
          refine ⟨_, rfl, o, dxo, _, rfl, hpo, (tbF_no _ _ _).2.2.1, _, rfl, q4, _, 1, _, rfl, rfl, SqT.of hq4, rfl, S0.f, o, d1, l, _, k, rfl, tb7, fun _ => ?_, fun h => absurd ⟨hin.1, hin.2, by rw [hg]; rfl⟩ h⟩
          have pl := pop_length kv k
          refine ⟨_, _, _, _, _, popI kv k, rfl, x7.mut nd1', G.keep (Kp.dK hdo) ok7, tb7.upd (by omega), tbok_pop hki, by omega, by rw [upd_ne (ne_dK hdo hsp7)]; exact hsp7, ?_⟩
          rw [hrun, runL, e]
          show (match getI kv k with | none => Except.error i | some _ => _) = _
          rw [hg]
    · rw [EI.gC] at hD
      cases hD
      refine q2 rows i perm ?_ _ EI.gC dx7 H7 (x6.trans (Ext.of_same s7)) (G.keep (kp_same s7) ok6) (x6.free ndx) hdx
      rw [hrun, runL, e]
  · rintro σ H5 ⟨y4, y5, y6, y7, y8, kv, rfl, x5, ok5, tb5, hk5, hlen, hsp5, hrun⟩
    rw [List.length_map, List.length_map, List.drop_length] at hrun
    exact ⟨_, rfl, q1 rows kv o d1 H5 perm hrun x5 no nd1' ok5 tb5 hk5⟩
end

/-! ### the way of a key -/
def wayT : Nat → List (Int × Str) → Int → List Tm × List (Int × Str)
  | 0, rows, _ => ([], rows)
  | l + 1, rows, k => if rows.length ≤ 1 then ([], rows) else
    (partT l (rows.filter (bitK l (1 - k / 2 ^ l % 2))) :: (wayT l (rows.filter (bitK l (k / 2 ^ l % 2))) k).1, (wayT l (rows.filter (bitK l (k / 2 ^ l % 2))) k).2)
theorem wayT_few {l : Nat} {rows : List (Int × Str)} {k : Int} (h : rows.length ≤ 1) : wayT l rows k = ([], rows) := by
  cases l with
  | zero => rfl
  | succ l => exact if_pos h
theorem wayT_more {l : Nat} {rows : List (Int × Str)} {k : Int} (h : 2 ≤ rows.length) : wayT (l + 1) rows k =
    (partT l (rows.filter (bitK l (1 - k / 2 ^ l % 2))) :: (wayT l (rows.filter (bitK l (k / 2 ^ l % 2))) k).1, (wayT l (rows.filter (bitK l (k / 2 ^ l % 2))) k).2) := if_neg (by omega)
theorem bit01 (k : Int) (l : Nat) : k / 2 ^ l % 2 = 0 ∨ k / 2 ^ l % 2 = 1 := by
  have h1 := Int.emod_nonneg (k / 2 ^ l) (show (2 : Int) ≠ 0 by decide)
  have h2 := Int.emod_lt_of_pos (k / 2 ^ l) (show (0 : Int) < 2 by decide)
  omega
theorem wayT_len : ∀ (l : Nat) (rows : List (Int × Str)) (k : Int), (wayT l rows k).1.length ≤ l
  | 0, _, _ => Nat.le_refl _
  | l + 1, rows, k => by
    by_cases h : rows.length ≤ 1
    · rw [wayT_few h]
      exact Nat.zero_le _
    · rw [wayT_more (by omega)]
      have := wayT_len l (rows.filter (bitK l (k / 2 ^ l % 2))) k
      show _ + 1 ≤ _
      omega
theorem wayT_dep : ∀ (l : Nat) (rows : List (Int × Str)) (k : Int), ∀ t ∈ (wayT l rows k).1, t.dep ≤ l + 1
  | 0, _, _ => fun t h => nomatch h
  | l + 1, rows, k => by
    by_cases h : rows.length ≤ 1
    · rw [wayT_few h]
      exact fun t h => nomatch h
    · rw [wayT_more (by omega)]
      intro t ht
      rcases List.mem_cons.mp ht with rfl | ht
      · exact Nat.le_succ_of_le (partT_dep l _)
      · exact Nat.le_succ_of_le (wayT_dep l _ k t ht)
theorem wayT_end : ∀ (l : Nat) (rows : List (Int × Str)) (k : Int), RowsOk l rows → (wayT l rows k).2.length ≤ 1 ∧ ∀ e ∈ (wayT l rows k).2, e ∈ rows
  | 0, rows, k, h => ⟨h.zero, fun e he => he⟩
  | l + 1, rows, k, h => by
    by_cases c : rows.length ≤ 1
    · rw [wayT_few c]
      exact ⟨c, fun e he => he⟩
    · rw [wayT_more (by omega)]
      obtain ⟨a, b⟩ := wayT_end l (rows.filter (bitK l (k / 2 ^ l % 2))) k h.part
      exact ⟨a, fun e he => (List.mem_filter.mp (b e he)).1⟩
theorem costP_way {l n a b : Nat} (h : a + b = n) (hn : 2 ≤ n) : costP l a + costP l b ≤ costP (l + 1) n := by
  have := costP_split (l := l) h hn
  omega

/-! ### the end of a way -/
def EndV (H : Hp) (e : V) (rows : List (Int × Str)) : Prop := (rows = [] ∧ e = .non) ∨ ∃ (x : Int × Str) (qe : Addr), rows = [x] ∧ e = .ref qe ∧ H qe = some (.tup [.int x.1, .str x.2]) ∧ txtOk x.2 = true
theorem EndV.gr {H H' : Hp} {e : V} {rows : List (Int × Str)} (h : EndV H e rows) (x : Gr H H') : EndV H' e rows := by
  rcases h with h | ⟨y, qe, h1, h2, h3, h4⟩
  · exact .inl h
  · exact .inr ⟨y, qe, h1, h2, x.keep _ _ h3 True.intro (fun _ z => nomatch z), h4⟩

section
variable {P : Program} {w : World} {K : PySem.W.Frag} {mg : Str → Option Value} {base : Heap} {Fam : Sys → Prop} {C : Addr}
structure WayV (S : Sys) (H H' : Hp) (v : V) (w : List Tm × List (Int × Str)) : Prop where
  ex : ∃ (q o : Addr) (e : V) (ys : List V), v = .ref q ∧ H' q = some (.tup [.ref o, e]) ∧ H o = none ∧ H q = none ∧ H' o = some (.lst ys) ∧ DenL S H' ys w.1 ∧ EndV H' e w.2
def spWay (mg : Str → Option Value) (C : Addr) (Fam : Sys → Prop) : Sp := fun vs H Q E => ∃ (S : Sys) (p d : Addr) (l : Nat) (kvs : List (Int × Str)) (k : Int) (r : Nat), Fam S ∧ vs = [.ref p, .int k] ∧ TbAt C S.f H p d l kvs ∧ TbOk l kvs ∧ l ≤ 20 ∧ S.ok H (r + costP l kvs.length) ∧
  (0 ≤ k ∧ k < 2 ^ l → ∀ v rows H', Ext H H' → S.ok H' r → rows.Perm kvs → rows.Pairwise (fun a b => a.1 ≤ b.1) → WayV S H H' v (wayT l rows k) → Q v H') ∧ (¬ (0 ≤ k ∧ k < 2 ^ l) → ∀ D, mg "NoPlace" = some (.ref D) → E (.ref D) none H)
theorem ok_wayN {cc : Addr} (T : Txt K mg cc) (A : SlA P w K mg base Fam) (KT : K_Table K mg C) : MetN P w K mg base 25 C "way" (spWay mg C Fam) := by
  have Z := T.Z
  have M_asked := ok_askedN (P := P) (w := w) (base := base) T KT
  have M_rows := ok_rows (P := P) (w := w) (base := base) T KT
  have C_parted := ok_parted (P := P) (w := w) (base := base) T
  have C_part_top := ok_part T A (ok_none_seal T A) (ok_parted T) 21
  refine metN_of KT.cl KT.m_way sc_Table_way (fun vs H Q E h => ?_) (fun f cdv A' outer s H vs Q E hr h => ?_)
  · obtain ⟨S, p, d, l, kvs, k, r, _, rfl, _⟩ := h
    rfl
  obtain ⟨S, p, d, l, kvs, k, r, hF, rfl, ht, hk, hl, hok, q1, q2⟩ := h
  have hu := hu_of hr
  have G := A.good hF
  have e16 : sizeLine = 16777216 := sizeLine_eq
  obtain ⟨⟨dx, hp⟩, hd, hz, hl'⟩ := id ht
  refine ⟨_, (pss_cons (ps_expr (pe_mtn M_asked (L2N.takes_of rfl rfl rfl rfl) hr (by omega) (pv 0) (pa_cons (pv 1) pa_nil)))
  (pss_cons (ps_set (i := 2) sc_Table_way.nd rfl (Or.inl rfl) (pe_mt0 M_rows hr (by omega) (pv 0)))
  (pss_cons (ps_set (i := 3) sc_Table_way.nd rfl (Or.inl rfl) (pe_fld (pv 0) rfl))
  (pss_cons (ps_set (i := 4) sc_Table_way.nd rfl (Or.inl rfl) (pe_lst pa_nil))
  (pss_cons (ps_while (passes_of rfl) (pt_cmpR op_gt (pe_callB call_len_seq rfl Z.len PySem.boot_len (pa_cons (pv 2) pa_nil)) pe_int (nomark _)) (pss_cons (ps_set (i := 3) sc_Table_way.nd rfl (Or.inl rfl) (pe_op op_sub (pv 3) pe_int))
  (pss_cons (ps_set (i := 5) sc_Table_way.nd rfl (Or.inl rfl) (pe_c C_parted hr (by omega) rfl (pa_cons (pv 2) (pa_cons (pv 3) pa_nil))))
  (pss_cons (ps_set (i := 6) sc_Table_way.nd rfl (Or.inl rfl) (pe_op op_odd (pe_op op_shrN (pv 1) (pv 3)) pe_int))
  (pss_cons (ps_expr (pe_bm PySem.F.plainAttrs_list PySem.F.slot_list_append PySem.F.type_list_append mt_append (pv 4) (pa_cons (pe_c C_part_top hr (by omega) rfl (pa_cons (pe_fld (pv 0) rfl) (pa_cons (pe_ix ix_tup (pv 5) (pe_op op_sub pe_int (pv 6)) (fun _ _ => rfl)) (pa_cons (pv 3) pa_nil)))) pa_nil)))
  (pss_one (ps_set (i := 2) sc_Table_way.nd rfl (Or.inl rfl) (pe_ix ix_tup (pv 5) (pv 6) (fun _ _ => rfl)))))))))
  (pss_cons (ps_if (pt_cmpR op_eq (pe_callB call_len_seq rfl Z.len PySem.boot_len (pa_cons (pv 2) pa_nil)) pe_int (nomark _)) (pss_one (ps_ret (pe_tup (pa_cons (pv 4) (pa_cons pe_non pa_nil))))) pss_nil)
  (pss_one (ps_ret (pe_tup (pa_cons (pv 4) (pa_cons (pe_ix ix_list (pv 2) pe_int (fun _ _ => rfl)) pa_nil))))))))))), ?_⟩
  refine ⟨_, rfl, p, dx, _, rfl, hp, (tbF_no _ _ _).1, _, rfl, S.f, p, dx, d, l, k, rfl, hp, hl', fun hin => ?_, fun hout D hD => q2 hout D hD⟩
  refine ⟨_, rfl, p, dx, _, rfl, hp, (tbF_no _ _ _).2.2.2.2.1, S.f, p, d, l, kvs, rfl, ht, hk.nd, hk.tx, fun qr ys rows H1 x1 k1 nq hqr hrows perm pw => ?_⟩
  refine ⟨_, rfl, p, C, dx, _, _, rfl, x1.ins hp, KT.cl, KT.n_depth, tbF_depth _ _ _, by show 0 ≤ sizeLine; decide, fun o no => ?_⟩
  have hro := rows_ok hk perm
  have hrl := perm.length_eq
  have noH := x1.free no
  have hin0 := hin.1
  obtain ⟨W, hW⟩ : ∃ W, wayT l rows k = W := ⟨_, rfl⟩
  have q3 := fun v H' x ok => q1 hin v rows H' x ok perm pw
  rw [hW] at q3
  have u1 := Ext.new (o := .lst []) no
  refine ⟨fun m σ H' => ∃ (q : Addr) (xs : List V) (rws : List (Int × Str)) (vs : List V) (ts : List Tm) (y5 y6 : Option V), σ = [some (.ref p), some (.int k), some (.ref q), some (.int (m : Int)), some (.ref o), y5, y6] ∧ Ext H H' ∧ H' o = some (.lst vs) ∧ H' q = some (.lst xs) ∧ q ≠ o ∧ KvL H' xs rws ∧ RowsOk m rws ∧ m ≤ 20 ∧ rws.length ≤ 1000 ∧ DenL S H' vs ts ∧ ts.length + m = l ∧ S.ok H' (r + costP m rws.length) ∧ ts ++ (wayT m rws k).1 = W.1 ∧ (wayT m rws k).2 = W.2,
    ⟨l, qr, ys, rows, [], [], none, none, rfl, x1.trans u1, upd_same, u1.lst hqr, (fun z => by rw [z, no] at hqr; cases hqr), hrows.gr u1.gr, hro, hl, by omega, DenL.nil, by show 0 + l = l; omega, by rw [hrl]; exact G.keep (k1.trans (Kp.new no)) hok, by rw [hW]; rfl, by rw [hW]⟩, ?_⟩
  rintro m σ H2 ⟨q, xs, rws, vs, ts, y5, y6, rfl, x2, ho, hq, nqo, hxs, hr2, hm20, hrz, hden, htm, ok2, e1, e2⟩
  have hxl := hxs.len
  refine ⟨_, rfl, q, xs, rfl, .inl (SqL.of hq), _, _, rfl, rfl, _, rfl, ?_⟩
  by_cases c : rws.length ≤ 1
  · rw [decide_eq_false (show ¬ (1 : Int) < (xs.length : Int) by omega)]
    refine iteF ?_
    rw [wayT_few c] at e1 e2
    rw [List.append_nil] at e1
    have e2 : rws = W.2 := e2
    refine ⟨_, rfl, q, xs, rfl, .inl (SqL.of hq), rfl, _, rfl, ite2 (fun c2 => ?_) (fun c2 => ?_)⟩
    · have c2' : (xs.length : Int) = 0 := V.int.inj (of_decide_eq_true c2)
      refine ⟨_, rfl, by show 2 ≤ sizeLine; decide, fun t nt => ?_⟩
      have u := Ext.new (o := .tup [.ref o, .non]) nt
      refine q3 _ _ (x2.trans u) (G.less (G.keep (Kp.new nt) ok2) (by omega)) ⟨t, o, .non, vs, rfl, upd_same, noH, x2.free nt, u.lst ho, by rw [← e1]; exact hden.mono G u.gr, .inl ⟨?_, rfl⟩⟩
      rw [← e2]
      exact List.eq_nil_of_length_eq_zero (by omega)
    · have n0 : xs.length ≠ 0 := fun z => c2 (decide_eq_true (by rw [z] <;> rfl))
      obtain ⟨x, hx⟩ : ∃ x, rws = [x] := List.length_eq_one_iff.mp (by omega)
      obtain ⟨v0, hv0⟩ : ∃ v0, xs[0]? = some v0 := ⟨xs[0]'(by omega), List.getElem?_eq_getElem _⟩
      obtain ⟨qe, rfl, hqe, hqx⟩ := hxs.at_ 0 v0 x hv0 (by rw [hx]; rfl)
      refine ⟨_, rfl, _, rfl, q, xs, 0, _, rfl, rfl, SqL.of hq, atI_nat hv0, by show 2 ≤ sizeLine; decide, fun t nt => ?_⟩
      have u := Ext.new (o := .tup [.ref o, .ref qe]) nt
      exact q3 _ _ (x2.trans u) (G.less (G.keep (Kp.new nt) ok2) (by omega)) ⟨t, o, .ref qe, vs, rfl, upd_same, noH, x2.free nt, u.lst ho, by rw [← e1]; exact hden.mono G u.gr, .inr ⟨x, qe, by rw [← e2]; exact hx, rfl, u.tup hqe, hqx⟩⟩
  rw [decide_eq_true (show (1 : Int) < (xs.length : Int) by omega)]
  refine iteT ?_
  obtain ⟨m, rfl⟩ : ∃ j, m = j + 1 := by
    cases m with
    | zero => have := hr2.zero; omega
    | succ j => exact ⟨j, rfl⟩
  rw [wayT_more (by omega)] at e1 e2
  refine ⟨fun σ' H' => ∃ m', m' < m + 1 ∧ _, fun _ _ h => h, ?_⟩
  refine ⟨_, rfl, _, _, rfl, rfl, ?_⟩
  show gName 3 (V.int (((m + 1 : Nat) : Int) - 1)) _ _ _
  rw [show (((m + 1 : Nat) : Int) - 1) = (m : Int) by omega]
  refine ⟨_, rfl, _, rfl, q, xs, rws, m, rfl, SqL.of hq, hxs, hr2.1, hrz, fun tq p1 p2 as bs H3 x3 k3 n31 n32 htq hp1 hp2 ha hb => ?_⟩
  obtain ⟨n, hn⟩ := Int.eq_ofNat_of_zero_le (Int.ediv_nonneg hin0 (Int.le_of_lt (show (0 : Int) < 2 ^ m from Int.pow_pos (by decide))))
  refine ⟨_, rfl, _, rfl, _, m, rfl, rfl, n, by rw [hn], rfl, ?_⟩
  have hbit : k / 2 ^ m % 2 = ((n % 2 : Nat) : Int) := by rw [hn]; omega
  have hsp := filter_split (rows := rws) m
  have hcw : costP m (rws.filter (bitK m (k / 2 ^ m % 2))).length + costP m (rws.filter (bitK m (1 - k / 2 ^ m % 2))).length ≤ costP (m + 1) rws.length := by
    rcases bit01 k m with h | h
    · rw [h]
      exact costP_way (a := (rws.filter (bitK m 0)).length) (b := (rws.filter (bitK m 1)).length) hsp (by omega)
    · rw [h]
      exact costP_way (a := (rws.filter (bitK m 1)).length) (b := (rws.filter (bitK m 0)).length) (by omega) (by omega)
  -- the part that is gone into, and the other one
  obtain ⟨pb, po, yb, yo, npb, ib, io, hpb, hpo, hyb, hyo⟩ : ∃ (pb po : Addr) (yb yo : List V), H2 pb = none ∧ atI [V.ref p1, V.ref p2] ((n % 2 : Nat) : Int) = some (.ref pb) ∧ atI [V.ref p1, V.ref p2] (1 - ((n % 2 : Nat) : Int)) = some (.ref po) ∧ H3 pb = some (.lst yb) ∧ H3 po = some (.lst yo) ∧
      KvL H3 yb (rws.filter (bitK m (k / 2 ^ m % 2))) ∧ KvL H3 yo (rws.filter (bitK m (1 - k / 2 ^ m % 2))) := by
    rw [hbit]
    rcases Nat.mod_two_eq_zero_or_one n with h | h
    · rw [h]
      exact ⟨p1, p2, as, bs, n31, rfl, rfl, hp1, hp2, ha, hb⟩
    · rw [h]
      exact ⟨p2, p1, bs, as, n32, rfl, rfl, hp2, hp1, hb, ha⟩
  have hp3 := (x2.trans x3).ins hp
  have ho3 := x3.lst ho
  have lb := List.length_filter_le (bitK m (k / 2 ^ m % 2)) rws
  have lo := List.length_filter_le (bitK m (1 - k / 2 ^ m % 2)) rws
  refine ⟨_, rfl, .inl ⟨rfl, _, SqL.of ho3⟩, ?_⟩
  refine ⟨_, rfl, p, C, dx, _, _, rfl, hp3, KT.cl, KT.n_seal, tbF_seal _ _ _, _, rfl, _, rfl, _, _, rfl, rfl, tq, _, _, _, rfl, rfl, SqT.of htq, io, _, rfl, ?_⟩
  refine ⟨S, po, yo, _, m, r + costP m (rws.filter (bitK m (k / 2 ^ m % 2))).length, hF, rfl, SqL.of hpo, hyo, hr2.part, by omega, by omega, G.less (G.keep k3 ok2) (by omega), fun v H4 x4 ok4 d4 => ?_⟩
  have ho4 := x4.lst ho3
  have hvl := hden.len
  refine ⟨o, vs, v, rfl, rfl, ho4, by omega, ?_⟩
  have x5 := (x2.trans x3).trans x4
  have k5 := Kp.lst (o := .lst (vs ++ [v])) ho4
  have npo : pb ≠ o := fun z => by rw [z, ho] at npb; cases npb
  refine ⟨_, rfl, _, rfl, tq, _, _, _, rfl, rfl, SqT.of (by rw [upd_ne (fun z => by rw [← z, x4.tup htq] at ho4; cases ho4)]; exact x4.tup htq), ib, ?_⟩
  refine ⟨m, Nat.lt_succ_self _, pb, yb, _, vs ++ [v], ts ++ [partT m (rws.filter (bitK m (1 - k / 2 ^ m % 2)))], _, _, rfl, x5.mut noH, upd_same, by rw [upd_ne npo]; exact x4.lst hpb, npo, (hyb.gr x4.gr).gr k5.gr, hr2.part, by omega, by omega,
    ((hden.mono G (x3.trans x4).gr).mono G k5.gr).append (DenL.one (G.mono k5.gr d4)), by rw [List.length_append]; show ts.length + 1 + m = l; omega, G.keep k5 ok4, by rw [← e1]; simp, e2⟩
end

/-! ### rows of a key and a text as data -/
theorem kv_dps {K : PySem.W.Frag} {H : Hp} : ∀ {rows : List (Int × Str)} {vs us : List V}, KvL H vs rows → KvL H us rows → ∃ ds, DpAll K H vs ds ∧ DpAll K H us ds ∧ PyData.canLayAll0 ds = true ∧ PyData.depthAll ds ≤ 1
  | [], vs, us, h, h' => by
    obtain rfl : vs = [] := List.length_eq_zero_iff.mp h.len
    obtain rfl : us = [] := List.length_eq_zero_iff.mp h'.len
    exact ⟨[], .nil, .nil, rfl, Nat.zero_le _⟩
  | e :: rows, [], us, h, h' => absurd h.len (by simp)
  | e :: rows, v :: vs, [], h, h' => absurd h'.len (by simp)
  | e :: rows, v :: vs, u :: us, h, h' => by
    obtain ⟨q, rfl, hq, hx⟩ := h.at_ 0 v e rfl rfl
    obtain ⟨q', rfl, hq', _⟩ := h'.at_ 0 u e rfl rfl
    obtain ⟨ds, a1, a2, c, d⟩ := kv_dps (K := K) (rows := rows) (vs := vs) (us := us) ⟨by have := h.len; simpa using this, fun j v' e' p1 p2 => h.at_ (j + 1) v' e' p1 p2⟩ ⟨by have := h'.len; simpa using this, fun j v' e' p1 p2 => h'.at_ (j + 1) v' e' p1 p2⟩
    refine ⟨.tuple [.int e.1, .str e.2] :: ds, .cons (.tup (SqT.of hq) (.cons (.int _) (.cons (.str _) .nil))) a1, .cons (.tup (SqT.of hq') (.cons (.int _) (.cons (.str _) .nil))) a2, ?_, ?_⟩
    · show (PyData.canLay0 (.tuple [.int e.1, .str e.2]) && PyData.canLayAll0 ds) = true
      rw [c, Bool.and_true]
      show (true && (txtOk e.2 && true)) = true
      rw [hx]
      rfl
    · show max (max 0 (max 0 0) + 1) (PyData.depthAll ds) ≤ 1
      omega
theorem kv_eqd {K : PySem.W.Frag} {H : Hp} {a b : Addr} {rows : List (Int × Str)} {vs us : List V} (ha : SqL K H a vs) (hb : SqL K H b us) (h : KvL H vs rows) (h' : KvL H us rows) :
    ∃ d, Dp K H (.ref a) d ∧ Dp K H (.ref b) d ∧ SeqAt.shaped d = true ∧ PyData.eqv d d = true := by
  obtain ⟨ds, a1, a2, c, d⟩ := kv_dps (K := K) h h'
  have c' : (PyData.list ds).canLay0 = true := c
  exact ⟨.list ds, .lst ha a1, .lst hb a2, shaped_of c' (by show PyData.depthAll ds + 1 ≤ 64; omega), eqv_self c'⟩

section
variable {P : Program} {w : World} {K : PySem.W.Frag} {mg : Str → Option Value} {S : Sys}
theorem WayV.ext (G : S.Good K) {H0 H H' : Hp} {v : V} {wt : List Tm × List (Int × Str)} (h : WayV S H0 H v wt) (x : Ext H H') : WayV S H0 H' v wt := by
  obtain ⟨q, o, e, ys, h1, h2, h3, h4, h5, h6, h7⟩ := h.ex
  exact ⟨q, o, e, ys, h1, x.tup h2, h3, h4, x.lst h5, h6.mono G x.gr, h7.gr x.gr⟩
theorem way_dp (G : S.Good K) {H0 H0' H : Hp} {v v' : V} {wt : List Tm × List (Int × Str)} (h : WayV S H0 H v wt) (h' : WayV S H0' H v' wt) (hd : ∀ t ∈ wt.1, t.dep ≤ 50) :
    ∃ d, Dp K H v d ∧ Dp K H v' d ∧ SeqAt.shaped d = true ∧ PyData.eqv d d = true := by
  obtain ⟨q, o, e, ys, rfl, h2, _, _, h5, h6, h7⟩ := h.ex
  obtain ⟨q', o', e', ys', rfl, h2', _, _, h5', h6', h7'⟩ := h'.ex
  obtain ⟨ds, a, b, c, dl⟩ := DenL.same G h6 h6' hd
  obtain ⟨de, f1, f2, f3, f4⟩ : ∃ de, Dp K H e de ∧ Dp K H e' de ∧ de.canLay0 = true ∧ de.depth ≤ 1 := by
    rcases h7 with ⟨g1, rfl⟩ | ⟨y, qe, g1, rfl, g3, g4⟩
    · rcases h7' with ⟨_, rfl⟩ | ⟨y', qe', g1', _⟩
      · exact ⟨.none, .non, .non, rfl, Nat.zero_le _⟩
      · rw [g1] at g1'; cases g1'
    · rcases h7' with ⟨g1', _⟩ | ⟨y', qe', g1', rfl, g3', g4'⟩
      · rw [g1] at g1'; cases g1'
      · rw [g1] at g1'
        cases g1'
        refine ⟨.tuple [.int y.1, .str y.2], .tup (SqT.of g3) (.cons (.int _) (.cons (.str _) .nil)), .tup (SqT.of g3') (.cons (.int _) (.cons (.str _) .nil)), ?_, by show max 0 (max 0 0) + 1 ≤ 1; decide⟩
        show (true && (txtOk y.2 && true)) = true
        rw [g4]
        rfl
  have lay : (PyData.tuple [.list ds, de]).canLay0 = true := by
    show (PyData.canLayAll0 ds && (de.canLay0 && true)) = true
    rw [c, f3]
    rfl
  have dep : (PyData.tuple [.list ds, de]).depth ≤ 64 := by
    show max (PyData.depthAll ds + 1) (max de.depth 0) + 1 ≤ 64
    omega
  exact ⟨.tuple [.list ds, de], .tup (SqT.of h2) (.cons (.lst (SqL.of h5) a) (.cons f1 .nil)), .tup (SqT.of h2') (.cons (.lst (SqL.of h5') b) (.cons f2 .nil)), shaped_of lay dep, eqv_self lay⟩
/-- keys of the depth -/
def InL (l : Nat) (ks : List Int) : Prop := ∀ k ∈ ks, 0 ≤ k ∧ k < 2 ^ l
theorem xor1_in {l : Nat} {k : Int} (h1 : 1 ≤ l) (h : 0 ≤ k ∧ k < 2 ^ l) : 0 ≤ Builtin.bitXor k 1 ∧ Builtin.bitXor k 1 < 2 ^ l := by
  obtain ⟨n, rfl⟩ := Int.eq_ofNat_of_zero_le h.1
  rw [Bits.bitXor_pp h.1 (by decide)]
  refine ⟨Int.natCast_nonneg _, ?_⟩
  have e : ((2 ^ l : Nat) : Int) = 2 ^ l := by rw [Int.natCast_pow]; rfl
  have h2 : n < 2 ^ l := by have := h.2; omega
  have h3 : (1 : Nat) < 2 ^ l := Nat.one_lt_two_pow (by omega)
  have := Nat.xor_lt_two_pow h2 h3
  rw [← e]
  show (((n : Int).toNat ^^^ (1 : Int).toNat : Nat) : Int) < _
  rw [Int.toNat_natCast]
  exact Int.ofNat_lt.mpr this
theorem cut_mem {xs : List V} {lo hi : Option Int} {x : V} (h : x ∈ cutV xs lo hi) : x ∈ xs := by
  unfold cutV at h
  exact List.mem_of_mem_drop (List.mem_of_mem_take h)
end

theorem getI_put (kvs : List (Int × Str)) (k : Int) (x : Str) : getI (putI kvs k x) k = some x := by
  have h := valV_put (convT kvs) (Sum.inl k) (Sum.inl k) (V.str x)
  rw [if_pos rfl, conv_put, conv_get] at h
  cases e : getI (putI kvs k x) k with
  | none => rw [e] at h; cases h
  | some y => rw [e] at h; cases h; rfl
theorem getI_pop (kvs : List (Int × Str)) (k : Int) : getI (popI kvs k) k = none := by
  unfold getI popI
  rw [List.find?_eq_none.mpr]
  · rfl
  · intro e he
    have := (List.mem_filter.mp he).2
    simpa using this

/-! ### heaps where some lists may change -/
structure ExtM (M : List Addr) (H H' : Hp) : Prop where
  keep : ∀ a o, a ∉ M → H a = some o → (∀ kvs, o ≠ .dT kvs) → H' a = some o
  grow : ∀ a kvs, H a = some (.dT kvs) → ∃ more, H' a = some (.dT (kvs ++ more))
  was : ∀ a ∈ M, ∃ xs, H a = some (.lst xs)
section
variable {M : List Addr} {H H' H2 : Hp}
theorem ExtM.off (h : ExtM M H H') {a : Addr} {o : HO} (e : H a = some o) (n : ∀ xs, o ≠ .lst xs) : a ∉ M := fun hm => by
  obtain ⟨xs, z⟩ := h.was a hm
  rw [e] at z
  exact n xs (Option.some.inj z)
theorem ExtM.gr (h : ExtM M H H') : Gr H H' := ⟨fun a o e s n => h.keep a o (h.off e fun xs z => by subst z; exact s.elim) e n, h.grow⟩
theorem ExtM.lst (h : ExtM M H H') {a : Addr} {xs : List V} (hm : a ∉ M) (e : H a = some (.lst xs)) : H' a = some (.lst xs) := h.keep _ _ hm e fun _ z => nomatch z
theorem ExtM.ins (h : ExtM M H H') {a C dx : Addr} {fs : List (Str × V)} (e : H a = some (.ins C dx fs)) : H' a = some (.ins C dx fs) := h.keep _ _ (h.off e fun _ z => nomatch z) e fun _ z => nomatch z
theorem ExtM.dK (h : ExtM M H H') {a : Addr} {ks : List (Key × V)} (e : H a = some (.dK ks)) : H' a = some (.dK ks) := h.keep _ _ (h.off e fun _ z => nomatch z) e fun _ z => nomatch z
theorem ExtM.tup (h : ExtM M H H') {a : Addr} {xs : List V} (e : H a = some (.tup xs)) : H' a = some (.tup xs) := h.keep _ _ (h.off e fun _ z => nomatch z) e fun _ z => nomatch z
theorem Ext.m (x : Ext H H') (M : List Addr) (hw : ∀ a ∈ M, ∃ xs, H a = some (.lst xs)) : ExtM M H H' := ⟨fun a o _ e n => x.keep a o e n, x.grow, hw⟩
theorem ExtM.then (h : ExtM M H H') (x : Ext H' H2) : ExtM M H H2 := by
  refine ⟨fun a o hm e n => x.keep a o (h.keep a o hm e n) n, fun a ks e => ?_, h.was⟩
  obtain ⟨m1, e1⟩ := h.grow a ks e
  obtain ⟨m2, e2⟩ := x.grow a _ e1
  exact ⟨m1 ++ m2, by rw [e2, List.append_assoc]⟩
/-- a list of M is set -/
theorem ExtM.set (h : ExtM M H H') {a : Addr} {o : HO} (ha : a ∈ M) : ExtM M H (upd H' a o) := by
  refine ⟨fun b u hm e n => ?_, fun b ks e => ?_, h.was⟩
  · rw [upd_ne (fun z => hm (by rw [z]; exact ha))]
    exact h.keep b u hm e n
  · obtain ⟨m1, e1⟩ := h.grow b ks e
    refine ⟨m1, ?_⟩
    rw [upd_ne]
    · exact e1
    · rintro rfl
      obtain ⟨xs, z⟩ := h.was _ ha
      rw [e] at z
      cases z
theorem ExtM.free (h : ExtM M H H') {a : Addr} (n : H' a = none) (hm : a ∉ M) : H a = none := by
  cases q : H a with
  | none => rfl
  | some o =>
    by_cases c : ∃ kvs, o = .dT kvs
    · obtain ⟨kvs, rfl⟩ := c
      obtain ⟨m, e1⟩ := h.grow a kvs q
      rw [e1] at n
      cases n
    · rw [h.keep a o hm q fun kvs z => c ⟨kvs, z⟩] at n
      cases n
theorem ExtM.wide {M' : List Addr} (h : ExtM M H H') (hs : ∀ a ∈ M, a ∈ M') (hw : ∀ a ∈ M', ∃ xs, H a = some (.lst xs)) : ExtM M' H H' := ⟨fun a o hm e n => h.keep a o (fun z => hm (hs a z)) e n, h.grow, hw⟩
theorem TbAt.extM {C f p d : Addr} {l : Nat} {kvs : List (Int × Str)} (h : TbAt C f H p d l kvs) (x : ExtM M H H') : TbAt C f H' p d l kvs := by
  obtain ⟨⟨dx, a⟩, b, c⟩ := h
  exact ⟨⟨dx, x.ins a⟩, x.dK b, c⟩
end

/-! ### pairs by rising keys -/
def srtI (kv : List (Int × Str)) : List (Int × Str) := kv.mergeSort fun a b => decide (a.1 ≤ b.1)
theorem srt_perm (kv : List (Int × Str)) : (srtI kv).Perm kv := List.mergeSort_perm _ _
theorem srt_pw (kv : List (Int × Str)) : (srtI kv).Pairwise fun a b => a.1 ≤ b.1 := by
  have h := List.pairwise_mergeSort (le := fun a b : Int × Str => decide (a.1 ≤ b.1)) (fun a b c h1 h2 => by
    have h1 := of_decide_eq_true h1
    have h2 := of_decide_eq_true h2
    exact decide_eq_true (by omega)) (fun a b => by
    rcases Int.le_total a.1 b.1 with h | h
    · rw [decide_eq_true h]; rfl
    · rw [decide_eq_true h, Bool.or_true]) kv
  exact h.imp fun h => of_decide_eq_true h
theorem srt_eq {l : Nat} {kv kv' rows : List (Int × Str)} (h : TbOk l kv) (q : kv'.Perm kv) (p : rows.Perm kv') (pw : rows.Pairwise fun a b => a.1 ≤ b.1) : rows = srtI kv :=
  kv_same h.nd (p.trans q) (srt_perm kv) pw (srt_pw kv)
/-! ### entries -/
abbrev En := List Nat × List (Int × Str)
def headT (l : Nat) (kv : List (Int × Str)) : Tm := .sl "table" (.int (l : Int)) (partT l (srtI kv))
def leafT (l : Nat) (e : En) : Tm := .sl "leaf" (.str (S e.1)) (headT l e.2)
def kpF (f : Addr) (l : Int) (t b v : Addr) : List (Str × V) := [("seal", .ref f), ("depth", .int l), ("texts", .ref t), ("tables", .ref b), ("leaves", .ref v)]
theorem kpF_at (f : Addr) (l : Int) (t b v : Addr) : (kpF f l t b v).lookup ("seal" : Str) = some (.ref f) ∧ (kpF f l t b v).lookup ("depth" : Str) = some (.int l) ∧ (kpF f l t b v).lookup ("texts" : Str) = some (.ref t) ∧ (kpF f l t b v).lookup ("tables" : Str) = some (.ref b) ∧ (kpF f l t b v).lookup ("leaves" : Str) = some (.ref v) :=
  ⟨by kernel_rfl, by kernel_rfl, by kernel_rfl, by kernel_rfl, by kernel_rfl⟩
theorem kpF_no (f : Addr) (l : Int) (t b v : Addr) : ∀ m ∈ (["add", "size", "first", "within", "text", "table_head", "head", "path", "growth", "way", "paper"] : List Str), (kpF f l t b v).lookup m = none := by
  intro m hm
  rcases List.mem_cons.mp hm with rfl | hm
  · kernel_rfl
  rcases List.mem_cons.mp hm with rfl | hm
  · kernel_rfl
  rcases List.mem_cons.mp hm with rfl | hm
  · kernel_rfl
  rcases List.mem_cons.mp hm with rfl | hm
  · kernel_rfl
  rcases List.mem_cons.mp hm with rfl | hm
  · kernel_rfl
  rcases List.mem_cons.mp hm with rfl | hm
  · kernel_rfl
  rcases List.mem_cons.mp hm with rfl | hm
  · kernel_rfl
  rcases List.mem_cons.mp hm with rfl | hm
  · kernel_rfl
  rcases List.mem_cons.mp hm with rfl | hm
  · kernel_rfl
  rcases List.mem_cons.mp hm with rfl | hm
  · kernel_rfl
  rcases List.mem_cons.mp hm with rfl | hm
  · kernel_rfl
  cases hm
theorem kpF_mk (f : Addr) (l : Int) (t b v : Addr) : putF "leaves" (.ref v) (putF "tables" (.ref b) (putF "texts" (.ref t) (putF "depth" (.int l) (putF "seal" (.ref f) [])))) = kpF f l t b v := by kernel_rfl
/-- a keeper, its three lists, its tables -/
structure KpAt (CK CT : Addr) (S0 : Sys) (H : Hp) (p : Addr) (l : Nat) (t b v : Addr) (es : List En) : Prop where
  at_ : ∃ dx, H p = some (.ins CK dx (kpF S0.f (l : Int) t b v))
  tx : H t = some (.lst (es.map fun e => V.str (S e.1)))
  tb : ∃ qs : List Addr, H b = some (.lst (qs.map V.ref)) ∧ qs.length = es.length ∧ ∀ (i : Nat) (q : Addr) (e : En), qs[i]? = some q → es[i]? = some e → ∃ d kv, kv.Perm e.2 ∧ TbAt CT S0.f H q d l kv
  lv : ∃ ls, H v = some (.lst ls) ∧ DenL S0 H ls (es.map (leafT l))
  ok : ∀ e ∈ es, TbOk l e.2 ∧ e.2.length ≤ 199 ∧ txtOk (S e.1) = true
  sz : l ≤ 16 ∧ es.length ≤ 300
  ne : t ≠ b ∧ t ≠ v ∧ b ≠ v
section
variable {K : PySem.W.Frag} {CK CT : Addr} {S0 : Sys} {H H' : Hp} {p : Addr} {l : Nat} {t b v : Addr} {es : List En}
theorem KpAt.ext (G : S0.Good K) (h : KpAt CK CT S0 H p l t b v es) (x : Ext H H') : KpAt CK CT S0 H' p l t b v es := by
  obtain ⟨⟨dx, h1⟩, h2, ⟨qs, h3, h4, h5⟩, ⟨ls, h6, h7⟩, h8, h9, h10⟩ := h
  refine ⟨⟨dx, x.ins h1⟩, x.lst h2, ⟨qs, x.lst h3, h4, fun i q e a c => ?_⟩, ⟨ls, x.lst h6, h7.mono G x.gr⟩, h8, h9, h10⟩
  obtain ⟨d, kv, g1, g2⟩ := h5 i q e a c
  exact ⟨d, kv, g1, g2.ext x⟩
theorem KpAt.extM {M : List Addr} (G : S0.Good K) (h : KpAt CK CT S0 H p l t b v es) (x : ExtM M H H') (ht : t ∉ M) (hb : b ∉ M) (hv : v ∉ M) : KpAt CK CT S0 H' p l t b v es := by
  obtain ⟨⟨dx, h1⟩, h2, ⟨qs, h3, h4, h5⟩, ⟨ls, h6, h7⟩, h8, h9, h10⟩ := h
  refine ⟨⟨dx, x.ins h1⟩, x.lst ht h2, ⟨qs, x.lst hb h3, h4, fun i q e a c => ?_⟩, ⟨ls, x.lst hv h6, h7.mono G x.gr⟩, h8, h9, h10⟩
  obtain ⟨d, kv, g1, g2⟩ := h5 i q e a c
  exact ⟨d, kv, g1, g2.extM x⟩
end
/-- a size asked: left out, or a number -/
def szV : Option Int → V
  | none => .non
  | some i => .int i
def cntOf (n : Nat) : Option Int → Option Nat
  | none => some n
  | some i => if 0 ≤ i ∧ i ≤ (n : Int) then some i.toNat else none
theorem cnt_le {n k : Nat} {sz : Option Int} (h : cntOf n sz = some k) : k ≤ n := by
  cases sz with
  | none => cases h; exact Nat.le_refl _
  | some i =>
    have h : (if 0 ≤ i ∧ i ≤ (n : Int) then some i.toNat else none) = some k := h
    by_cases c : 0 ≤ i ∧ i ≤ (n : Int)
    · rw [if_pos c] at h
      cases h
      omega
    · rw [if_neg c] at h
      cases h

section
variable {P : Program} {w : World} {K : PySem.W.Frag} {mg : Str → Option Value} {base : Heap} {Fam : Sys → Prop} {CK CT : Addr}
theorem kno {f : Addr} {l : Int} {t b v : Addr} (m : Str) (h : m ∈ (["add", "size", "first", "within", "text", "table_head", "head", "path", "growth", "way", "paper"] : List Str) := by decide +kernel) : (kpF f l t b v).lookup m = none := kpF_no f l t b v m h
/-- the count of entries -/
def spKSize (CK CT : Addr) (Fam : Sys → Prop) : Sp := fun vs H Q _ => ∃ (S0 : Sys) (p : Addr) (l : Nat) (t b v : Addr) (es : List En), Fam S0 ∧ vs = [.ref p] ∧ KpAt CK CT S0 H p l t b v es ∧ Q (.int (es.length : Int)) H
theorem ok_ksize {cc : Addr} (T : Txt K mg cc) (KK : K_Keeper K mg CK) : Met P w K mg base 1 CK "size" (spKSize CK CT Fam) [] := by
  have Z := T.Z
  refine met_of KK.cl KK.m_size sc_Keeper_size (fun vs H Q E h => ?_) (fun f cdv A' outer s H vs Q E hr h => ?_)
  · obtain ⟨S0, p, l, t, b, v, es, _, rfl, _⟩ := h
    rfl
  obtain ⟨S0, p, l, t, b, v, es, hF, rfl, hk, q⟩ := h
  obtain ⟨dx, hp⟩ := hk.at_
  refine ⟨_, (pss_one (ps_ret (pe_callB call_len_seq rfl Z.len PySem.boot_len (pa_cons (pe_fld (pv 0) rfl) pa_nil)))), ?_⟩
  refine ⟨_, rfl, p, CK, dx, _, _, rfl, hp, KK.cl, KK.n_texts, (kpF_at _ _ _ _ _).2.2.1, t, _, rfl, .inl (SqL.of hk.tx), ?_⟩
  rw [List.length_map]
  exact q
def spFirst (mg : Str → Option Value) (CK CT : Addr) (Fam : Sys → Prop) : Sp := fun vs H Q E => ∃ (S0 : Sys) (p : Addr) (l : Nat) (t b v : Addr) (es : List En) (sz : Option Int) (r : Nat), Fam S0 ∧ vs = [.ref p, szV sz] ∧ KpAt CK CT S0 H p l t b v es ∧ S0.ok H r ∧
  (∀ k, cntOf es.length sz = some k → ∀ q ys H', Ext H H' → Kp H H' → H q = none → H' q = some (.lst ys) → DenL S0 H' ys ((es.map (leafT l)).take k) → Q (.ref q) H') ∧
  (cntOf es.length sz = none → ∀ D, mg "NoPlace" = some (.ref D) → E (.ref D) none H)
theorem ok_first {cc : Addr} (T : Txt K mg cc) (A : SlA P w K mg base Fam) (KK : K_Keeper K mg CK) : MetR P w K mg base 1 CK "first" (spFirst mg CK CT Fam) := by
  have Z := T.Z
  obtain ⟨C_NoPlace, g_NoPlace, F_NoPlace⟩ := T.x_NoPlace.ex
  refine metR_of KK.cl KK.m_first sc_Keeper_first (fun vs H Q E h => ?_) (fun f cdv A' outer s H vs Q E hr h => ?_)
  · obtain ⟨S0, p, l, t, b, v, es, sz, r, _, rfl, _⟩ := h
    rfl
  obtain ⟨S0, p, l, t, b, v, es, sz, r, hF, rfl, hk, hok, q1, q2⟩ := h
  have G := A.good hF
  obtain ⟨dx, hp⟩ := hk.at_
  obtain ⟨ls, hv, hls⟩ := hk.lv
  have hll := hls.len
  rw [List.length_map] at hll
  refine ⟨_, (pss_cons (ps_if (pt_cmpR op_isN (pv 1) pe_non (nomark _)) (pss_one (ps_ret (pe_callTy call_list_of rfl Z.list (by decide +kernel) (pa_cons (pe_fld (pv 0) rfl) pa_nil)))) pss_nil)
  (pss_cons (ps_if (pt_not (pt_chain op_le op_le pe_int (pv 1) (pe_callB call_len_seq rfl Z.len PySem.boot_len (pa_cons (pe_fld (pv 0) rfl) pa_nil)))) (pss_one (ps_raiseX F_NoPlace g_NoPlace rfl (takes_of rfl rfl rfl rfl) rfl)) pss_nil)
  (pss_one (ps_ret (pe_slice sl_list (pe_fld (pv 0) rfl) po_none (po_some (pv 1))))))), ?_⟩
  have kf := kpF_at S0.f (l : Int) t b v
  cases sz with
  | none =>
    refine ⟨_, rfl, rfl, _, rfl, iteT ?_⟩
    refine ⟨_, rfl, p, CK, dx, _, _, rfl, hp, KK.cl, KK.n_leaves, kf.2.2.2.2, v, ls, rfl, .inl (SqL.of hv), fun q nq => ?_⟩
    refine q1 _ rfl q ls _ (Ext.new nq) (Kp.new nq) nq upd_same ?_
    rw [List.take_of_length_le (by rw [List.length_map]; exact Nat.le_refl _)]
    exact hls.mono G (Kp.new nq).gr
  | some i =>
    refine ⟨_, rfl, rfl, _, rfl, iteF ?_⟩
    have bad : ¬ (0 ≤ i ∧ i ≤ (es.length : Int)) → cntOf es.length (some i) = none := fun h => if_neg h
    refine ⟨_, rfl, _, _, rfl, rfl, _, rfl, ite2 (fun c => ?_) (fun c => ?_)⟩
    · have c' : (0 : Int) ≤ i := of_decide_eq_true c
      refine ⟨_, rfl, p, CK, dx, _, _, rfl, hp, KK.cl, KK.n_leaves, kf.2.2.2.2, v, ls, rfl, .inl (SqL.of hv), _, _, rfl, rfl, _, rfl, ?_⟩
      rw [hll]
      by_cases c2 : i ≤ (es.length : Int)
      · rw [decide_eq_true c2]
        refine iteF ?_
        refine ⟨_, rfl, p, CK, dx, _, _, rfl, hp, KK.cl, KK.n_leaves, kf.2.2.2.2, _, rfl, i, rfl, v, ls, rfl, SqL.of hv, fun q nq => ?_⟩
        obtain ⟨n, rfl⟩ := Int.eq_ofNat_of_zero_le c'
        rw [cut_to]
        refine q1 n ?_ q _ _ (Ext.new nq) (Kp.new nq) nq upd_same ((hls.take n).mono G (Kp.new nq).gr)
        show (if 0 ≤ (n : Int) ∧ (n : Int) ≤ (es.length : Int) then some ((n : Int)).toNat else none) = some n
        rw [if_pos ⟨c', c2⟩, Int.toNat_natCast]
      · rw [decide_eq_false c2]
        exact iteT (q2 (bad fun z => c2 z.2) _ g_NoPlace)
    · have c' : ¬ (0 : Int) ≤ i := of_decide_eq_false (Bool.eq_false_iff.mpr c)
      exact ⟨_, rfl, iteT (q2 (bad fun z => c' z.1) _ g_NoPlace)⟩
def spWithin (mg : Str → Option Value) : Sp := fun vs H Q E => ∃ (x : V) (i n : Int), vs = [x, .int i, .int n] ∧ (0 ≤ i ∧ i < n → Q .non H) ∧ (¬ (0 ≤ i ∧ i < n) → ∀ D, mg "NoPlace" = some (.ref D) → E (.ref D) none H)
theorem ok_within {cc : Addr} (T : Txt K mg cc) (KK : K_Keeper K mg CK) : MetR P w K mg base 1 CK "within" (spWithin mg) := by
  have Z := T.Z
  obtain ⟨C_NoPlace, g_NoPlace, F_NoPlace⟩ := T.x_NoPlace.ex
  refine metR_of KK.cl KK.m_within sc_Keeper_within (fun vs H Q E h => ?_) (fun f cdv A' outer s H vs Q E hr h => ?_)
  · obtain ⟨x, i, n, rfl, _⟩ := h
    rfl
  obtain ⟨x, i, n, rfl, q1, q2⟩ := h
  refine ⟨_, (pss_one (ps_if (pt_not (pt_chain op_le op_lt pe_int (pv 1) (pv 2))) (pss_one (ps_raiseX F_NoPlace g_NoPlace rfl (takes_of rfl rfl rfl rfl) rfl)) pss_nil)), ?_⟩
  refine ⟨_, rfl, _, _, rfl, rfl, _, rfl, ite2 (fun c => ?_) (fun c => ?_)⟩
  · have c' : (0 : Int) ≤ i := of_decide_eq_true c
    refine ⟨_, rfl, _, _, rfl, rfl, _, rfl, ?_⟩
    by_cases c2 : i < n
    · rw [decide_eq_true c2]
      exact iteF (q1 ⟨c', c2⟩)
    · rw [decide_eq_false c2]
      exact iteT (q2 (fun z => c2 z.2) _ g_NoPlace)
  · have c' : ¬ (0 : Int) ≤ i := of_decide_eq_false (Bool.eq_false_iff.mpr c)
    exact ⟨_, rfl, iteT (q2 (fun z => c' z.1) _ g_NoPlace)⟩
end

section
variable {P : Program} {w : World} {K : PySem.W.Frag} {mg : Str → Option Value} {base : Heap} {Fam : Sys → Prop} {CK CT : Addr}
def spKText (mg : Str → Option Value) (CK CT : Addr) (Fam : Sys → Prop) : Sp := fun vs H Q E => ∃ (S0 : Sys) (p : Addr) (l : Nat) (t b v : Addr) (es : List En) (i : Int), Fam S0 ∧ vs = [.ref p, .int i] ∧ KpAt CK CT S0 H p l t b v es ∧
  (∀ (n : Nat) e, i = (n : Int) → es[n]? = some e → Q (.str (S e.1)) H) ∧ (¬ (0 ≤ i ∧ i < (es.length : Int)) → ∀ D, mg "NoPlace" = some (.ref D) → E (.ref D) none H)
theorem get_in {α : Type} {es : List α} {i : Int} (h : 0 ≤ i ∧ i < (es.length : Int)) : ∃ (n : Nat) (e : α), i = (n : Int) ∧ es[n]? = some e := by
  obtain ⟨n, rfl⟩ := Int.eq_ofNat_of_zero_le h.1
  exact ⟨n, es[n]'(by omega), rfl, List.getElem?_eq_getElem _⟩
theorem ok_ktext {cc : Addr} (T : Txt K mg cc) (KK : K_Keeper K mg CK) : MetR P w K mg base 2 CK "text" (spKText mg CK CT Fam) := by
  have Z := T.Z
  have M_within := ok_within (P := P) (w := w) (base := base) T KK
  refine metR_of KK.cl KK.m_text sc_Keeper_text (fun vs H Q E h => ?_) (fun f cdv A' outer s H vs Q E hr h => ?_)
  · obtain ⟨S0, p, l, t, b, v, es, i, _, rfl, _⟩ := h
    rfl
  obtain ⟨S0, p, l, t, b, v, es, i, hF, rfl, hk, q1, q2⟩ := h
  obtain ⟨dx, hp⟩ := hk.at_
  have kf := kpF_at S0.f (l : Int) t b v
  refine ⟨_, (pss_cons (ps_expr (pe_mtx M_within (takes_of rfl rfl rfl rfl) hr (by omega) (pv 0) (pa_cons (pv 1) (pa_cons (pe_callB call_len_seq rfl Z.len PySem.boot_len (pa_cons (pe_fld (pv 0) rfl) pa_nil)) pa_nil))))
  (pss_one (ps_ret (pe_ix ix_list (pe_fld (pv 0) rfl) (pv 1) (fun _ _ => rfl))))), ?_⟩
  refine ⟨_, rfl, p, dx, _, rfl, hp, kno "within", _, rfl, _, rfl, p, CK, dx, _, _, rfl, hp, KK.cl, KK.n_texts, kf.2.2.1, t, _, rfl, .inl (SqL.of hk.tx), .ref p, i, _, rfl, fun hin => ?_, fun hout D hD => q2 (by rw [List.length_map] at hout; exact hout) D hD⟩
  rw [List.length_map] at hin
  obtain ⟨n, e, rfl, he⟩ := get_in hin
  exact ⟨_, rfl, p, CK, dx, _, _, rfl, hp, KK.cl, KK.n_texts, kf.2.2.1, _, rfl, t, _, _, _, rfl, rfl, SqL.of hk.tx, atI_nat (by rw [List.getElem?_map, he]; rfl), q1 n e rfl he⟩
def spKTHead (mg : Str → Option Value) (CK CT : Addr) (Fam : Sys → Prop) : Sp := fun vs H Q E => ∃ (S0 : Sys) (p : Addr) (l : Nat) (t b v : Addr) (es : List En) (i : Int) (r : Nat), Fam S0 ∧ vs = [.ref p, .int i] ∧ KpAt CK CT S0 H p l t b v es ∧ S0.ok H (r + 6601) ∧
  (∀ (n : Nat) e, i = (n : Int) → es[n]? = some e → ∀ u H', Ext H H' → S0.ok H' r → S0.den H' u (headT l e.2) → Q u H') ∧ (¬ (0 ≤ i ∧ i < (es.length : Int)) → ∀ D, mg "NoPlace" = some (.ref D) → E (.ref D) none H)
theorem ok_kthead {cc : Addr} (T : Txt K mg cc) (A : SlA P w K mg base Fam) (KT : K_Table K mg CT) (KK : K_Keeper K mg CK) : MetR P w K mg base 26 CK "table_head" (spKTHead mg CK CT Fam) := by
  have Z := T.Z
  have M_within := ok_within (P := P) (w := w) (base := base) T KK
  have M_head := ok_thead T A KT
  refine metR_of KK.cl KK.m_table_head sc_Keeper_table_head (fun vs H Q E h => ?_) (fun f cdv A' outer s H vs Q E hr h => ?_)
  · obtain ⟨S0, p, l, t, b, v, es, i, r, _, rfl, _⟩ := h
    rfl
  obtain ⟨S0, p, l, t, b, v, es, i, r, hF, rfl, hk, hok, q1, q2⟩ := h
  have G := A.good hF
  obtain ⟨dx, hp⟩ := hk.at_
  obtain ⟨qs, hb, hql, hq⟩ := hk.tb
  have kf := kpF_at S0.f (l : Int) t b v
  refine ⟨_, (pss_cons (ps_expr (pe_mtx M_within (takes_of rfl rfl rfl rfl) hr (by omega) (pv 0) (pa_cons (pv 1) (pa_cons (pe_callB call_len_seq rfl Z.len PySem.boot_len (pa_cons (pe_fld (pv 0) rfl) pa_nil)) pa_nil))))
  (pss_one (ps_ret (pe_mt0 M_head hr (by omega) (pe_ix ix_list (pe_fld (pv 0) rfl) (pv 1) (fun _ _ => rfl)))))), ?_⟩
  refine ⟨_, rfl, p, dx, _, rfl, hp, kno "within", _, rfl, _, rfl, p, CK, dx, _, _, rfl, hp, KK.cl, KK.n_texts, kf.2.2.1, t, _, rfl, .inl (SqL.of hk.tx), .ref p, i, _, rfl, fun hin => ?_, fun hout D hD => q2 (by rw [List.length_map] at hout; exact hout) D hD⟩
  rw [List.length_map] at hin
  obtain ⟨n, e, rfl, he⟩ := get_in hin
  have hn := (List.getElem?_eq_some_iff.mp he).1
  have hqn : qs[n]? = some (qs[n]'(by omega)) := List.getElem?_eq_getElem _
  generalize qs[n]'(by omega) = qn at hqn
  obtain ⟨d, kv, pm, tb⟩ := hq n qn e hqn he
  obtain ⟨⟨dx', hp'⟩, _, _⟩ := id tb
  obtain ⟨hke, hkl, _⟩ := hk.ok e (List.mem_of_getElem? he)
  have cp := costP_le hk.sz.1 (show kv.length ≤ 200 by rw [pm.length_eq]; omega)
  refine ⟨_, rfl, p, CK, dx, _, _, rfl, hp, KK.cl, KK.n_tables, kf.2.2.2.1, _, rfl, b, _, _, _, rfl, rfl, SqL.of hb, atI_nat (by rw [List.getElem?_map, hqn]; rfl), qn, dx', _, rfl, hp', (tbF_no _ _ _).2.2.2.2.2.1, S0, qn, d, l, kv, r, hF, rfl, tb, hke.perm pm, by have := hk.sz.1; omega, G.less hok (by omega), fun u rows H' x ok pr pw du => ?_⟩
  rw [srt_eq hke pm pr pw] at du
  exact q1 n e rfl he u H' x ok du
def spKHead (mg : Str → Option Value) (CK CT : Addr) (Fam : Sys → Prop) : Sp := fun vs H Q E => ∃ (S0 : Sys) (p : Addr) (l : Nat) (t b v : Addr) (es : List En) (sz : Option Int) (r : Nat), Fam S0 ∧ vs = [.ref p, szV sz] ∧ KpAt CK CT S0 H p l t b v es ∧ S0.ok H (r + 320) ∧
  (∀ k, cntOf es.length sz = some k → ∀ u H', Ext H H' → S0.ok H' r → S0.den H' u (.sl "book" (.int (k : Int)) (topT ((es.map (leafT l)).take k))) → Q u H') ∧
  (cntOf es.length sz = none → ∀ D, mg "NoPlace" = some (.ref D) → E (.ref D) none H)
theorem khead_body {cc : Addr} (T : Txt K mg cc) (A : SlA P w K mg base Fam) (KK : K_Keeper K mg CK) : ∀ (f : Addr) (cdv : Value) (A' : Around) (outer : List Env) (s : Shared) (H : Hp) (vs : List V) (Q : VK) (E : XK), Room 16 (A'.deeper (envOfC "Keeper.head" (defScope s_Keeper_head) s.heap.objs.size f cdv)) → spKHead mg CK CT Fam vs H Q E →
      ∃ t, PSs (cxOf (L2.CX P w) P w K mg base N_Keeper_head "Keeper.head" (defScope s_Keeper_head) f cdv A' outer s H E) (defBody s_Keeper_head) t ∧ t { nx := fun _ H' => Q .non H', rt := Q } (start N_Keeper_head vs) H := by
  intro f cdv A' outer s H vs Q E hr h
  have Z := T.Z
  have M_first := ok_first (CT := CT) T A KK
  have C_top_of := ok_top_of T A 10
  have C_book_seal := ok_book_seal T A
  obtain ⟨S0, p, l, t, b, v, es, sz, r, hF, rfl, hk, hok, q1, q2⟩ := h
  have G := A.good hF
  obtain ⟨dx, hp⟩ := hk.at_
  have kf := kpF_at S0.f (l : Int) t b v
  refine ⟨_, (pss_cons (ps_set (i := 2) sc_Keeper_head.nd rfl (Or.inl rfl) (pe_mtx M_first (takes_of rfl rfl rfl rfl) hr (by omega) (pv 0) (pa_cons (pv 1) pa_nil)))
  (pss_one (ps_ret (pe_c C_book_seal hr (by omega) rfl (pa_cons (pe_fld (pv 0) rfl) (pa_cons (pe_callB call_len_seq rfl Z.len PySem.boot_len (pa_cons (pv 2) pa_nil)) (pa_cons (pe_c C_top_of hr (by omega) rfl (pa_cons (pe_fld (pv 0) rfl) (pa_cons (pv 2) pa_nil))) pa_nil))))))), ?_⟩
  refine ⟨_, rfl, p, dx, _, rfl, hp, kno "first", _, rfl, S0, p, l, t, b, v, es, sz, _, hF, rfl, hk, hok, fun k hc q ys H1 x1 k1 nq hq hd => ?_, q2⟩
  have hle := cnt_le hc
  have hl := hd.len
  rw [List.length_take, List.length_map] at hl
  have h20 := hk.sz.2
  have hp1 := x1.ins hp
  have ct := costT_le k
  refine ⟨_, rfl, p, CK, dx, _, _, rfl, hp1, KK.cl, KK.n_seal, kf.1, _, rfl, q, ys, rfl, .inl (SqL.of hq), _, rfl, p, CK, dx, _, _, rfl, hp1, KK.cl, KK.n_seal, kf.1, _, rfl, S0, q, ys, _, r + 1, hF, rfl, SqL.of hq, hd, by decide, by rw [List.length_take, List.length_map]; show _ ≤ 512; omega, by rw [List.length_take, List.length_map]; omega, ?_, fun u H2 x2 ok2 d2 => ?_⟩
  · rw [List.length_take, List.length_map, Nat.min_eq_left hle]
    exact G.less (G.keep k1 hok) (by omega)
  · refine ⟨S0, .int (ys.length : Int), u, .int (ys.length : Int), _, r, hF, rfl, ok2, G.int _ ok2, d2, fun u2 H3 x3 ok3 d3 => q1 k hc u2 H3 ((x1.trans x2).trans x3) ok3 ?_⟩
    rw [hl, Nat.min_eq_left hle] at d3
    exact d3
theorem ok_khead {cc : Addr} (T : Txt K mg cc) (A : SlA P w K mg base Fam) (KK : K_Keeper K mg CK) : MetRD P w K mg base 17 CK "head" (spKHead mg CK CT Fam) [] :=
  metRD_of 2 1 KK.cl KK.m_head (by simp) rfl (fun T kV doc pm an cdv ct us its hu hi => match us, its, hu, hi with | [_, _], [_], _, _ => ⟨_, rfl, rfl⟩) sc_Keeper_head (fun vs H Q E h => by obtain ⟨S0, p, l, t, b, v, es, sz, r, _, rfl, _⟩ := h; rfl) (khead_body T A KK)
theorem ok_khead0 {cc : Addr} (T : Txt K mg cc) (A : SlA P w K mg base Fam) (KK : K_Keeper K mg CK) : MetRD P w K mg base 17 CK "head" (spKHead mg CK CT Fam) [.non] :=
  metRD_of 1 0 KK.cl KK.m_head (by simp) rfl (fun T kV doc pm an cdv ct us its hu hi => match us, its, hu, hi with | [_], [_], _, _ => ⟨_, rfl, rfl⟩) sc_Keeper_head (fun vs H Q E h => by obtain ⟨S0, p, l, t, b, v, es, sz, r, _, rfl, _⟩ := h; rfl) (khead_body T A KK)
end

/-! ### paths -/
def plen (place n : Nat) : Nat :=
  if h : n < 2 then 0 else if place < splitN n then plen place (splitN n) + 1 else plen (place - splitN n) (n - splitN n) + 1
termination_by n
decreasing_by
  · exact splitN_lt (by omega)
  · have := splitN_pos n
    omega
theorem plen_one {place n : Nat} (h : n < 2) : plen place n = 0 := by rw [plen, dif_pos h]
theorem plen_low {place n : Nat} (h : 2 ≤ n) (hp : place < splitN n) : plen place n = plen place (splitN n) + 1 := by rw [plen, dif_neg (by omega), if_pos hp]
theorem plen_high {place n : Nat} (h : 2 ≤ n) (hp : ¬ place < splitN n) : plen place n = plen (place - splitN n) (n - splitN n) + 1 := by rw [plen, dif_neg (by omega), if_neg hp]
theorem plen_le : ∀ (k place n : Nat), n ≤ 2 ^ k → plen place n ≤ k
  | k, place, n, h => by
    by_cases h2 : n < 2
    · rw [plen_one h2]
      exact Nat.zero_le _
    · cases k with
      | zero => simp at h; omega
      | succ k =>
        obtain ⟨a, b⟩ := splitN_le_pow (show 2 ≤ n by omega) h
        by_cases hp : place < splitN n
        · rw [plen_low (by omega) hp]
          have := plen_le k place (splitN n) a
          omega
        · rw [plen_high (by omega) hp]
          have := plen_le k (place - splitN n) (n - splitN n) b
          omega
def pathT (ts : List Tm) (place : Nat) : List Tm :=
  if h : ts.length < 2 then [] else
    if place < splitN ts.length then pathT (ts.take (splitN ts.length)) place ++ [topT (ts.drop (splitN ts.length))]
    else pathT (ts.drop (splitN ts.length)) (place - splitN ts.length) ++ [topT (ts.take (splitN ts.length))]
termination_by ts.length
decreasing_by
  · rw [List.length_take]
    have := splitN_lt (n := ts.length) (by omega)
    omega
  · rw [List.length_drop]
    have := splitN_pos ts.length
    omega
theorem pathT_one {ts : List Tm} {place : Nat} (h : ts.length < 2) : pathT ts place = [] := by rw [pathT, dif_pos h]
theorem pathT_low {ts : List Tm} {place : Nat} (h : 2 ≤ ts.length) (hp : place < splitN ts.length) : pathT ts place = pathT (ts.take (splitN ts.length)) place ++ [topT (ts.drop (splitN ts.length))] := by
  rw [pathT, dif_neg (by omega), if_pos hp]
theorem pathT_high {ts : List Tm} {place : Nat} (h : 2 ≤ ts.length) (hp : ¬ place < splitN ts.length) : pathT ts place = pathT (ts.drop (splitN ts.length)) (place - splitN ts.length) ++ [topT (ts.take (splitN ts.length))] := by
  rw [pathT, dif_neg (by omega), if_neg hp]
theorem pathT_len (ts : List Tm) (place : Nat) : (pathT ts place).length = plen place ts.length := by
  by_cases h : ts.length < 2
  · rw [pathT_one h, plen_one h]
    rfl
  · have hs := splitN_lt (n := ts.length) (by omega)
    have hs0 := splitN_pos ts.length
    have e1 : (ts.take (splitN ts.length)).length = splitN ts.length := by
      rw [List.length_take]
      omega
    have e2 : (ts.drop (splitN ts.length)).length = ts.length - splitN ts.length := List.length_drop
    by_cases hp : place < splitN ts.length
    · rw [pathT_low (by omega) hp, plen_low (by omega) hp, List.length_append, pathT_len, e1]
      rfl
    · rw [pathT_high (by omega) hp, plen_high (by omega) hp, List.length_append, pathT_len, e2]
      rfl
termination_by ts.length
decreasing_by
  · rw [List.length_take]; omega
  · rw [List.length_drop]; omega
theorem pathT_mem {ts : List Tm} {place : Nat} {P : Tm → Prop} (hp : ∀ us : List Tm, (∀ t ∈ us, t ∈ ts) → us.length ≤ ts.length → P (topT us)) : ∀ t ∈ pathT ts place, P t := by
  intro t ht
  rw [pathT] at ht
  split at ht
  · cases ht
  · rename_i h
    have hs := splitN_lt (n := ts.length) (by omega)
    have hs0 := splitN_pos ts.length
    split at ht
    · rcases List.mem_append.mp ht with h1 | h1
      · exact pathT_mem (fun us hu hl => hp us (fun t h => List.mem_of_mem_take (hu t h)) (by rw [List.length_take] at hl; omega)) t h1
      · rw [List.mem_singleton.mp h1]
        exact hp _ (fun t h => List.mem_of_mem_drop h) (by rw [List.length_drop]; omega)
    · rcases List.mem_append.mp ht with h1 | h1
      · exact pathT_mem (fun us hu hl => hp us (fun t h => List.mem_of_mem_drop (hu t h)) (by rw [List.length_drop] at hl; omega)) t h1
      · rw [List.mem_singleton.mp h1]
        exact hp _ (fun t h => List.mem_of_mem_take h) (by rw [List.length_take]; omega)
termination_by ts.length
decreasing_by
  · rw [List.length_drop]; omega
  · rw [List.length_take]; omega
/-- a path is asked -/
def spPath (K : PySem.W.Frag) (Fam : Sys → Prop) (k : Nat) : Sp := fun vs H Q _ => ∃ (S : Sys) (a : Addr) (xs : List V) (ts : List Tm) (place r : Nat), Fam S ∧ vs = [.ref S.f, .ref a, .int (place : Int)] ∧ SqL K H a xs ∧ DenL S H xs ts ∧ k ≠ 0 ∧ ts.length ≤ 2 ^ (k - 1) ∧ ts.length ≤ 1000 ∧ place < ts.length ∧ S.ok H (r + costT ts.length) ∧
  ∀ p ys H', Ext H H' → H p = none → H' p = some (.lst ys) → S.ok H' r → DenL S H' ys (pathT ts place) → Q (.ref p) H'
/-! ### what a leaf and a path come to -/
/-- the tops by the way from above, and whether the place lies in the first part -/
def sidesT (place n : Nat) (path : List Tm) : List (Tm × Bool) :=
  if h : n < 2 then [] else
    if place < splitN n then (path.getLastD nonT, true) :: sidesT place (splitN n) path.dropLast
    else (path.getLastD nonT, false) :: sidesT (place - splitN n) (n - splitN n) path.dropLast
termination_by n
decreasing_by
  · exact splitN_lt (by omega)
  · have := splitN_pos n
    omega
theorem sidesT_one {place n : Nat} {path : List Tm} (h : n < 2) : sidesT place n path = [] := by rw [sidesT, dif_pos h]
theorem sidesT_low {place n : Nat} {path : List Tm} (h : 2 ≤ n) (hp : place < splitN n) : sidesT place n path = (path.getLastD nonT, true) :: sidesT place (splitN n) path.dropLast := by rw [sidesT, dif_neg (by omega), if_pos hp]
theorem sidesT_high {place n : Nat} {path : List Tm} (h : 2 ≤ n) (hp : ¬ place < splitN n) : sidesT place n path = (path.getLastD nonT, false) :: sidesT (place - splitN n) (n - splitN n) path.dropLast := by rw [sidesT, dif_neg (by omega), if_neg hp]
def stepT (s : Tm × Bool) (t : Tm) : Tm := if s.2 = true then pairT t s.1 else pairT s.1 t
def riseT (leaf : Tm) (ss : List (Tm × Bool)) : Tm := ss.foldr stepT leaf
theorem riseT_cons (leaf : Tm) (s : Tm × Bool) (ss : List (Tm × Bool)) : riseT leaf (s :: ss) = stepT s (riseT leaf ss) := rfl
theorem sidesT_len (place n : Nat) (path : List Tm) : (sidesT place n path).length = plen place n := by
  by_cases h : n < 2
  · rw [sidesT_one h, plen_one h]
    rfl
  · have hs := splitN_lt (n := n) (by omega)
    have hs0 := splitN_pos n
    by_cases hp : place < splitN n
    · rw [sidesT_low (by omega) hp, plen_low (by omega) hp, List.length_cons, sidesT_len]
    · rw [sidesT_high (by omega) hp, plen_high (by omega) hp, List.length_cons, sidesT_len]
termination_by n
theorem getLastD_concat {α : Type} (l : List α) (x d : α) : (l ++ [x]).getLastD d = x := by
  rw [List.getLastD_eq_getLast?, List.getLast?_concat]
  rfl
/-- the way of a leaf of a row, by its own path, comes to the row's top -/
theorem rise_path (ts : List Tm) (place : Nat) (h : place < ts.length) : riseT (ts.getD place nonT) (sidesT place ts.length (pathT ts place)) = topT ts := by
  by_cases h2 : ts.length < 2
  · rw [sidesT_one h2, topT_single (by omega), show place = 0 by omega]
    rfl
  · have hs := splitN_lt (n := ts.length) (by omega)
    have hs0 := splitN_pos ts.length
    have e1 : (ts.take (splitN ts.length)).length = splitN ts.length := by
      rw [List.length_take]
      omega
    have e2 : (ts.drop (splitN ts.length)).length = ts.length - splitN ts.length := List.length_drop
    by_cases hp : place < splitN ts.length
    · rw [pathT_low (by omega) hp, sidesT_low (by omega) hp, getLastD_concat, List.dropLast_concat, topT_more (ts := ts) (by omega)]
      rw [riseT_cons]
      have ih := rise_path (ts.take (splitN ts.length)) place (by omega)
      rw [e1] at ih
      have eg : (ts.take (splitN ts.length)).getD place nonT = ts.getD place nonT := by
        rw [List.getD_eq_getElem?_getD, List.getD_eq_getElem?_getD, List.getElem?_take_of_lt hp]
      rw [eg] at ih
      rw [ih]
      rfl
    · rw [pathT_high (by omega) hp, sidesT_high (by omega) hp, getLastD_concat, List.dropLast_concat, topT_more (ts := ts) (by omega)]
      rw [riseT_cons]
      have ih := rise_path (ts.drop (splitN ts.length)) (place - splitN ts.length) (by omega)
      rw [e2] at ih
      have eg : (ts.drop (splitN ts.length)).getD (place - splitN ts.length) nonT = ts.getD place nonT := by
        rw [List.getD_eq_getElem?_getD, List.getD_eq_getElem?_getD, List.getElem?_drop, show splitN ts.length + (place - splitN ts.length) = place by omega]
      rw [eg] at ih
      rw [ih]
      rfl
termination_by ts.length

section
variable {P : Program} {w : World} {K : PySem.W.Frag} {mg : Str → Option Value} {base : Heap} {Fam : Sys → Prop}
theorem ok_path_of1 {cc : Addr} {k j : Nat} (T : Txt K mg cc) (A : SlA P w K mg base Fam) (C_split : Cal P w K mg base 1 "split" spSplit []) (C_top_of : ∀ k, Cal P w K mg base (k + j) "top_of" (spTop K Fam k) []) (C_path_of : Cal P w K mg base (k + j + 1) "path_of" (spPath K Fam k) []) : Cal P w K mg base (k + j + 2) "path_of" (spPath K Fam (k + 1)) [] := by
  have Z := T.Z
  have C_top_of := C_top_of (k + 1)
  refine cal_of T.d_path_of sc_path_of (fun vs H Q E h => ?_) (fun f cdv A' outer s H vs Q E hr h => ?_)
  · obtain ⟨S, a, xs, ts, old, r, _, rfl, _⟩ := h
    rfl
  obtain ⟨S, a, xs, ts, place, r, hF, rfl, hS, hD, _, hk, hl, ho, hok, q⟩ := h
  have hlen := hD.len
  have G := A.good hF
  refine ⟨_, (pss_cons (ps_if (pt_cmpR op_eq (pe_callB call_len_seq rfl Z.len PySem.boot_len (pa_cons (pv 1) pa_nil)) pe_int (nomark _)) (pss_one (ps_ret (pe_lst pa_nil))) pss_nil)
  (pss_cons (ps_set (i := 3) sc_path_of.nd rfl (Or.inl rfl) (pe_c C_split hr (by omega) rfl (pa_cons (pe_callB call_len_seq rfl Z.len PySem.boot_len (pa_cons (pv 1) pa_nil)) pa_nil)))
  (pss_cons (ps_if (pt_cmpR op_lt (pv 2) (pv 3) (nomark _)) (pss_one (ps_ret (pe_op op_cat (pe_c C_path_of hr (by omega) rfl (pa_cons (pv 0) (pa_cons (pe_slice sl_list (pv 1) po_none (po_some (pv 3))) (pa_cons (pv 2) pa_nil)))) (pe_lst (pa_cons (pe_c C_top_of hr (by omega) rfl (pa_cons (pv 0) (pa_cons (pe_slice sl_list (pv 1) (po_some (pv 3)) po_none) pa_nil))) pa_nil))))) pss_nil)
  (pss_one (ps_ret (pe_op op_cat (pe_c C_path_of hr (by omega) rfl (pa_cons (pv 0) (pa_cons (pe_slice sl_list (pv 1) (po_some (pv 3)) po_none) (pa_cons (pe_op op_sub (pv 2) (pv 3)) pa_nil)))) (pe_lst (pa_cons (pe_c C_top_of hr (by omega) rfl (pa_cons (pv 0) (pa_cons (pe_slice sl_list (pv 1) po_none (po_some (pv 3))) pa_nil))) pa_nil)))))))), ?_⟩
  -- one leaf
  refine ⟨_, rfl, a, _, rfl, .inl hS, rfl, _, rfl, ite2 (fun c => ?_) (fun c => ?_)⟩
  · have c' : (xs.length : Int) = 1 := V.int.inj (of_decide_eq_true c)
    refine ⟨Nat.zero_le _, fun p hp => ?_⟩
    refine q p [] _ (Ext.new hp) hp upd_same (G.less (G.keep (Kp.new hp) hok) (by omega)) ?_
    rw [pathT_one (by omega)]
    exact DenL.nil
  have n1 : xs.length ≠ 1 := fun z => c (decide_eq_true (by rw [z] <;> rfl))
  have h2 : 2 ≤ ts.length := by omega
  have hsl := splitN_lt h2
  have hsp := splitN_pos ts.length
  have hk1 : ts.length ≤ 2 ^ k := hk
  obtain ⟨k', rfl⟩ : ∃ k', k = k' + 1 := by
    cases k with
    | zero => simp at hk1; omega
    | succ k' => exact ⟨k', rfl⟩
  obtain ⟨b1, b2⟩ := splitN_le_pow h2 hk1
  have hcs := costT_split h2
  have lg := Nat.log2_le_self ts.length
  refine ⟨_, rfl, a, _, rfl, .inl hS, ts.length, by rw [hlen] <;> rfl, h2, by omega, ?_⟩
  have lt1 : (ts.take (splitN ts.length)).length = splitN ts.length := by
    rw [List.length_take]
    omega
  have ld1 : (ts.drop (splitN ts.length)).length = ts.length - splitN ts.length := List.length_drop
  refine ⟨_, rfl, _, rfl, _, _, rfl, rfl, _, rfl, ite2 (fun c => ?_) (fun c => ?_)⟩
  · -- in the first part
    have c' : (place : Int) < ((splitN ts.length : Nat) : Int) := of_decide_eq_true c
    refine ⟨_, rfl, _, rfl, _, rfl, ((splitN ts.length : Nat) : Int), rfl, a, _, rfl, hS, fun p hp => ?_⟩
    rw [cut_to]
    have x1 := Ext.new (o := .lst (xs.take (splitN ts.length))) hp
    have k1 := Kp.new (o := .lst (xs.take (splitN ts.length))) hp
    refine ⟨_, rfl, S, p, _, ts.take (splitN ts.length), place, r + costT (ts.length - splitN ts.length), hF, rfl, SqL.of upd_same, (hD.take _).mono G k1.gr, by omega, ?_, ?_, ?_, ?_, fun p1 ys H1 x2 np1 hp1 ok1 d1 => ?_⟩
    · rw [lt1]
      exact b1
    · omega
    · omega
    · rw [lt1]
      exact G.less (G.keep k1 hok) (by omega)
    have xx := x1.trans x2
    refine ⟨_, rfl, _, rfl, _, rfl, ((splitN ts.length : Nat) : Int), rfl, a, _, rfl, xx.seq hS, fun p2 hp2 => ?_⟩
    rw [cut_from]
    have x3 := Ext.new (o := .lst (xs.drop (splitN ts.length))) hp2
    have k3 := Kp.new (o := .lst (xs.drop (splitN ts.length))) hp2
    refine ⟨S, p2, _, ts.drop (splitN ts.length), r, hF, rfl, SqL.of upd_same, ((hD.drop _).mono G xx.gr).mono G k3.gr, by omega, ?_, ?_, ?_, fun v2 H2 x4 ok2 d2 => ?_⟩
    · rw [ld1]
      exact Nat.le_trans b2 (Nat.pow_le_pow_right (by decide) (by omega))
    · omega
    · rw [ld1]
      exact G.keep k3 ok1
    refine ⟨by show 1 ≤ sizeLine; decide, fun p3 hp3 => ?_⟩
    have e1 : H2 p1 = some (.lst ys) := x4.lst (x3.lst hp1)
    have l1 := d1.len
    rw [pathT_len, lt1] at l1
    have gl := plen_le k' place (splitN ts.length) b1
    have kk : k' ≤ 1000 := by
      have := hr.dp
      have e0 : recursionLimit = 1000 := rfl
      omega
    refine ⟨p1, p3, ys, [v2], rfl, rfl, by rw [upd_ne (ne_of_none e1 hp3)]; exact e1, upd_same, ?_, fun p4 hp4 => ?_⟩
    · rw [l1]
      show _ + 1 ≤ _
      rw [sizeLine_eq]
      omega
    have x5 := (Ext.new (o := .lst [v2]) hp3).trans (Ext.new (o := .lst (ys ++ [v2])) hp4)
    have np4 := (((xx.trans x3).trans x4).free ((Ext.new (o := .lst [v2]) hp3).free hp4))
    refine q p4 _ _ (((xx.trans x3).trans x4).trans x5) np4 upd_same (G.keep ((Kp.new hp3).trans (Kp.new hp4)) ok2) ?_
    rw [pathT_low (by omega) (by omega)]
    exact (d1.mono G ((x3.trans x4).trans x5).gr).append (DenL.one (G.mono x5.gr d2))
  · -- in the rest
    have c' : ¬ (place : Int) < ((splitN ts.length : Nat) : Int) := of_decide_eq_false (Bool.eq_false_iff.mpr c)
    refine ⟨_, rfl, _, rfl, _, rfl, ((splitN ts.length : Nat) : Int), rfl, a, _, rfl, hS, fun p hp => ?_⟩
    rw [cut_from]
    have x1 := Ext.new (o := .lst (xs.drop (splitN ts.length))) hp
    have k1 := Kp.new (o := .lst (xs.drop (splitN ts.length))) hp
    refine ⟨_, rfl, _, rfl, _, _, rfl, rfl, S, p, _, ts.drop (splitN ts.length), place - splitN ts.length, r + costT (splitN ts.length), hF, ?_, SqL.of upd_same, (hD.drop _).mono G k1.gr, by omega, ?_, ?_, ?_, ?_, fun p1 ys H1 x2 np1 hp1 ok1 d1 => ?_⟩
    · rw [show ((place - splitN ts.length : Nat) : Int) = (place : Int) - ((splitN ts.length : Nat) : Int) by omega]
      rfl
    · rw [ld1]
      exact b2
    · omega
    · omega
    · rw [ld1]
      exact G.less (G.keep k1 hok) (by omega)
    have xx := x1.trans x2
    refine ⟨_, rfl, _, rfl, _, rfl, ((splitN ts.length : Nat) : Int), rfl, a, _, rfl, xx.seq hS, fun p2 hp2 => ?_⟩
    rw [cut_to]
    have x3 := Ext.new (o := .lst (xs.take (splitN ts.length))) hp2
    have k3 := Kp.new (o := .lst (xs.take (splitN ts.length))) hp2
    refine ⟨S, p2, _, ts.take (splitN ts.length), r, hF, rfl, SqL.of upd_same, ((hD.take _).mono G xx.gr).mono G k3.gr, by omega, ?_, ?_, ?_, fun v2 H2 x4 ok2 d2 => ?_⟩
    · rw [lt1]
      exact Nat.le_trans b1 (Nat.pow_le_pow_right (by decide) (by omega))
    · omega
    · rw [lt1]
      exact G.keep k3 ok1
    refine ⟨by show 1 ≤ sizeLine; decide, fun p3 hp3 => ?_⟩
    have e1 : H2 p1 = some (.lst ys) := x4.lst (x3.lst hp1)
    have l1 := d1.len
    rw [pathT_len, ld1] at l1
    have gl := plen_le k' (place - splitN ts.length) (ts.length - splitN ts.length) b2
    have kk : k' ≤ 1000 := by
      have := hr.dp
      have e0 : recursionLimit = 1000 := rfl
      omega
    refine ⟨p1, p3, ys, [v2], rfl, rfl, by rw [upd_ne (ne_of_none e1 hp3)]; exact e1, upd_same, ?_, fun p4 hp4 => ?_⟩
    · rw [l1]
      show _ + 1 ≤ _
      rw [sizeLine_eq]
      omega
    have x5 := (Ext.new (o := .lst [v2]) hp3).trans (Ext.new (o := .lst (ys ++ [v2])) hp4)
    have np4 := (((xx.trans x3).trans x4).free ((Ext.new (o := .lst [v2]) hp3).free hp4))
    refine q p4 _ _ (((xx.trans x3).trans x4).trans x5) np4 upd_same (G.keep ((Kp.new hp3).trans (Kp.new hp4)) ok2) ?_
    rw [pathT_high (by omega) (by omega)]
    exact (d1.mono G ((x3.trans x4).trans x5).gr).append (DenL.one (G.mono x5.gr d2))
theorem ok_path_of {cc : Addr} {j : Nat} (T : Txt K mg cc) (A : SlA P w K mg base Fam) (C_split : Cal P w K mg base 1 "split" spSplit []) (C_top_of : ∀ k, Cal P w K mg base (k + j) "top_of" (spTop K Fam k) []) : ∀ k : Nat, Cal P w K mg base (k + j + 1) "path_of" (spPath K Fam k) []
  | 0 => by
    obtain ⟨f, fd, ps, ds, F, m, kp, b, v⟩ := (cal_no (P := P) (w := w) (base := base) T.d_path_of (0 + j + 1)).ex
    exact ⟨f, fd, ps, ds, F.imp fun vs H Q E h => by obtain ⟨_, _, _, _, _, _, _, _, _, _, z, _⟩ := h; exact absurd rfl z, m, kp, b, v⟩
  | k + 1 => cal_mono (ok_path_of1 T A C_split C_top_of (ok_path_of T A C_split C_top_of k)) (by omega)
end

/-! ### growths -/
def growT (ts : List Tm) (old : Nat) : List Tm :=
  if h : 0 < old ∧ old < ts.length then
    if old ≤ splitN ts.length then growT (ts.take (splitN ts.length)) old ++ [topT (ts.drop (splitN ts.length))]
    else growT (ts.drop (splitN ts.length)) (old - splitN ts.length) ++ [topT (ts.take (splitN ts.length))]
  else if old = 0 then [] else [topT ts]
termination_by ts.length
decreasing_by
  · rw [List.length_take]
    have := splitN_lt (n := ts.length) (by omega)
    omega
  · rw [List.length_drop]
    have := splitN_pos ts.length
    omega
theorem growT_zero (ts : List Tm) : growT ts 0 = [] := by rw [growT, dif_neg (by omega), if_pos rfl]
theorem growT_all {ts : List Tm} (h : ts.length ≠ 0) : growT ts ts.length = [topT ts] := by rw [growT, dif_neg (by omega), if_neg h]
theorem growT_low {ts : List Tm} {old : Nat} (h0 : 0 < old) (h1 : old < ts.length) (h : old ≤ splitN ts.length) : growT ts old = growT (ts.take (splitN ts.length)) old ++ [topT (ts.drop (splitN ts.length))] := by
  rw [growT, dif_pos ⟨h0, h1⟩, if_pos h]
theorem growT_high {ts : List Tm} {old : Nat} (h0 : 0 < old) (h1 : old < ts.length) (h : ¬ old ≤ splitN ts.length) : growT ts old = growT (ts.drop (splitN ts.length)) (old - splitN ts.length) ++ [topT (ts.take (splitN ts.length))] := by
  rw [growT, dif_pos ⟨h0, h1⟩, if_neg h]
/-- two to the k leaves: at most k + 1 tops -/
theorem growT_len : ∀ (k : Nat) (ts : List Tm) (old : Nat), ts.length ≤ 2 ^ k → (growT ts old).length ≤ k + 1
  | k, ts, old, hl => by
    by_cases h : 0 < old ∧ old < ts.length
    · obtain ⟨h0, h1⟩ := h
      have h2 : 2 ≤ ts.length := by omega
      cases k with
      | zero => simp at hl; omega
      | succ k =>
        obtain ⟨a, b⟩ := splitN_le_pow h2 hl
        by_cases q : old ≤ splitN ts.length
        · rw [growT_low h0 h1 q, List.length_append]
          have := growT_len k (ts.take (splitN ts.length)) old (by rw [List.length_take]; omega)
          simp
          omega
        · rw [growT_high h0 h1 q, List.length_append]
          have := growT_len k (ts.drop (splitN ts.length)) (old - splitN ts.length) (by rw [List.length_drop]; omega)
          simp
          omega
    · rw [growT, dif_neg h]
      split <;> simp
theorem growT_mem {ts : List Tm} {old : Nat} {P : Tm → Prop} (hp : ∀ us : List Tm, (∀ t ∈ us, t ∈ ts) → us.length ≤ ts.length → P (topT us)) : ∀ t ∈ growT ts old, P t := by
  intro t ht
  rw [growT] at ht
  split at ht
  · rename_i h
    have hs := splitN_lt (n := ts.length) (by omega)
    have hs0 := splitN_pos ts.length
    split at ht
    · rcases List.mem_append.mp ht with h1 | h1
      · exact growT_mem (fun us hu hl => hp us (fun t h => List.mem_of_mem_take (hu t h)) (by rw [List.length_take] at hl; omega)) t h1
      · rw [List.mem_singleton.mp h1]
        exact hp _ (fun t h => List.mem_of_mem_drop h) (by rw [List.length_drop]; omega)
    · rcases List.mem_append.mp ht with h1 | h1
      · exact growT_mem (fun us hu hl => hp us (fun t h => List.mem_of_mem_drop (hu t h)) (by rw [List.length_drop] at hl; omega)) t h1
      · rw [List.mem_singleton.mp h1]
        exact hp _ (fun t h => List.mem_of_mem_take h) (by rw [List.length_take]; omega)
  · split at ht
    · cases ht
    · rw [List.mem_singleton.mp ht]
      exact hp ts (fun _ h => h) (Nat.le_refl _)
termination_by ts.length
decreasing_by
  · rw [List.length_drop]; omega
  · rw [List.length_take]; omega
/-- a growth is asked: two to the k leaves at most -/
def spGrow (K : PySem.W.Frag) (Fam : Sys → Prop) (k : Nat) : Sp := fun vs H Q _ => ∃ (S : Sys) (a : Addr) (xs : List V) (ts : List Tm) (old r : Nat), Fam S ∧ vs = [.ref S.f, .ref a, .int (old : Int)] ∧ SqL K H a xs ∧ DenL S H xs ts ∧ k ≠ 0 ∧ ts.length ≤ 2 ^ (k - 1) ∧ ts.length ≤ 1000 ∧ old ≤ ts.length ∧ S.ok H (r + costT ts.length) ∧
  ∀ p ys H', Ext H H' → H p = none → H' p = some (.lst ys) → S.ok H' r → DenL S H' ys (growT ts old) → Q (.ref p) H'

section
variable {P : Program} {w : World} {K : PySem.W.Frag} {mg : Str → Option Value} {base : Heap} {Fam : Sys → Prop}
theorem ok_growth_of1 {cc : Addr} {k j : Nat} (T : Txt K mg cc) (A : SlA P w K mg base Fam) (C_split : Cal P w K mg base 1 "split" spSplit []) (C_top_of : ∀ k, Cal P w K mg base (k + j) "top_of" (spTop K Fam k) []) (C_growth_of : Cal P w K mg base (k + j + 1) "growth_of" (spGrow K Fam k) []) : Cal P w K mg base (k + j + 2) "growth_of" (spGrow K Fam (k + 1)) [] := by
  have Z := T.Z
  have C_top_of := C_top_of (k + 1)
  refine cal_of T.d_growth_of sc_growth_of (fun vs H Q E h => ?_) (fun f cdv A' outer s H vs Q E hr h => ?_)
  · obtain ⟨S, a, xs, ts, old, r, _, rfl, _⟩ := h
    rfl
  obtain ⟨S, a, xs, ts, old, r, hF, rfl, hS, hD, _, hk, hl, ho, hok, q⟩ := h
  have hlen := hD.len
  have G := A.good hF
  refine ⟨_, (pss_cons (ps_if (pt_cmpR op_eq (pv 2) pe_int (nomark _)) (pss_one (ps_ret (pe_lst pa_nil))) pss_nil)
  (pss_cons (ps_if (pt_cmpR op_eq (pv 2) (pe_callB call_len_seq rfl Z.len PySem.boot_len (pa_cons (pv 1) pa_nil)) (nomark _)) (pss_one (ps_ret (pe_lst (pa_cons (pe_c C_top_of hr (by omega) rfl (pa_cons (pv 0) (pa_cons (pv 1) pa_nil))) pa_nil)))) pss_nil)
  (pss_cons (ps_set (i := 3) sc_growth_of.nd rfl (Or.inl rfl) (pe_c C_split hr (by omega) rfl (pa_cons (pe_callB call_len_seq rfl Z.len PySem.boot_len (pa_cons (pv 1) pa_nil)) pa_nil)))
  (pss_cons (ps_if (pt_cmpR op_le (pv 2) (pv 3) (nomark _)) (pss_one (ps_ret (pe_op op_cat (pe_c C_growth_of hr (by omega) rfl (pa_cons (pv 0) (pa_cons (pe_slice sl_list (pv 1) po_none (po_some (pv 3))) (pa_cons (pv 2) pa_nil)))) (pe_lst (pa_cons (pe_c C_top_of hr (by omega) rfl (pa_cons (pv 0) (pa_cons (pe_slice sl_list (pv 1) (po_some (pv 3)) po_none) pa_nil))) pa_nil))))) pss_nil)
  (pss_one (ps_ret (pe_op op_cat (pe_c C_growth_of hr (by omega) rfl (pa_cons (pv 0) (pa_cons (pe_slice sl_list (pv 1) (po_some (pv 3)) po_none) (pa_cons (pe_op op_sub (pv 2) (pv 3)) pa_nil)))) (pe_lst (pa_cons (pe_c C_top_of hr (by omega) rfl (pa_cons (pv 0) (pa_cons (pe_slice sl_list (pv 1) po_none (po_some (pv 3))) pa_nil))) pa_nil))))))))), ?_⟩
  -- from nothing
  refine ⟨_, rfl, rfl, _, rfl, ite2 (fun c => ?_) (fun c => ?_)⟩
  · have c' : (old : Int) = 0 := V.int.inj (of_decide_eq_true c)
    have e : old = 0 := by omega
    subst e
    refine ⟨Nat.zero_le _, fun p hp => ?_⟩
    refine q p [] _ (Ext.new hp) hp upd_same (G.less (G.keep (Kp.new hp) hok) (by omega)) ?_
    rw [growT_zero]
    exact DenL.nil
  have n0 : old ≠ 0 := fun z => c (decide_eq_true (by rw [z]; rfl))
  -- all of it
  refine ⟨_, rfl, _, rfl, a, _, rfl, .inl hS, rfl, _, rfl, ite2 (fun c => ?_) (fun c => ?_)⟩
  · have c' : (old : Int) = (xs.length : Int) := V.int.inj (of_decide_eq_true c)
    have e : old = ts.length := by omega
    subst e
    refine ⟨_, rfl, _, rfl, S, a, xs, ts, r, hF, rfl, hS, hD, by omega, hk, hl, hok, fun v H1 x1 ok1 d1 => ?_⟩
    refine ⟨by show 1 ≤ sizeLine; decide, fun p hp => ?_⟩
    refine q p [v] _ (x1.trans (Ext.new hp)) (x1.free hp) upd_same (G.keep (Kp.new hp) ok1) ?_
    rw [growT_all n0]
    exact DenL.one (G.mono (Kp.new hp).gr d1)
  have n1 : old ≠ ts.length := fun z => c (decide_eq_true (by rw [z, hlen] <;> rfl))
  have h2 : 2 ≤ ts.length := by omega
  have hsl := splitN_lt h2
  have hsp := splitN_pos ts.length
  have hk1 : ts.length ≤ 2 ^ k := hk
  obtain ⟨k', rfl⟩ : ∃ k', k = k' + 1 := by
    cases k with
    | zero => simp at hk1; omega
    | succ k' => exact ⟨k', rfl⟩
  obtain ⟨b1, b2⟩ := splitN_le_pow h2 hk1
  have hcs := costT_split h2
  have lg := Nat.log2_le_self ts.length
  refine ⟨_, rfl, a, _, rfl, .inl hS, ts.length, by rw [hlen] <;> rfl, h2, by omega, ?_⟩
  have lt1 : (ts.take (splitN ts.length)).length = splitN ts.length := by
    rw [List.length_take]
    omega
  have ld1 : (ts.drop (splitN ts.length)).length = ts.length - splitN ts.length := List.length_drop
  refine ⟨_, rfl, _, rfl, _, _, rfl, rfl, _, rfl, ite2 (fun c => ?_) (fun c => ?_)⟩
  · -- in the first part
    have c' : (old : Int) ≤ ((splitN ts.length : Nat) : Int) := of_decide_eq_true c
    refine ⟨_, rfl, _, rfl, _, rfl, ((splitN ts.length : Nat) : Int), rfl, a, _, rfl, hS, fun p hp => ?_⟩
    rw [cut_to]
    have x1 := Ext.new (o := .lst (xs.take (splitN ts.length))) hp
    have k1 := Kp.new (o := .lst (xs.take (splitN ts.length))) hp
    refine ⟨_, rfl, S, p, _, ts.take (splitN ts.length), old, r + costT (ts.length - splitN ts.length), hF, rfl, SqL.of upd_same, (hD.take _).mono G k1.gr, by omega, ?_, ?_, ?_, ?_, fun p1 ys H1 x2 np1 hp1 ok1 d1 => ?_⟩
    · rw [lt1]
      exact b1
    · omega
    · omega
    · rw [lt1]
      exact G.less (G.keep k1 hok) (by omega)
    have xx := x1.trans x2
    refine ⟨_, rfl, _, rfl, _, rfl, ((splitN ts.length : Nat) : Int), rfl, a, _, rfl, xx.seq hS, fun p2 hp2 => ?_⟩
    rw [cut_from]
    have x3 := Ext.new (o := .lst (xs.drop (splitN ts.length))) hp2
    have k3 := Kp.new (o := .lst (xs.drop (splitN ts.length))) hp2
    refine ⟨S, p2, _, ts.drop (splitN ts.length), r, hF, rfl, SqL.of upd_same, ((hD.drop _).mono G xx.gr).mono G k3.gr, by omega, ?_, ?_, ?_, fun v2 H2 x4 ok2 d2 => ?_⟩
    · rw [ld1]
      exact Nat.le_trans b2 (Nat.pow_le_pow_right (by decide) (by omega))
    · omega
    · rw [ld1]
      exact G.keep k3 ok1
    refine ⟨by show 1 ≤ sizeLine; decide, fun p3 hp3 => ?_⟩
    have e1 : H2 p1 = some (.lst ys) := x4.lst (x3.lst hp1)
    have l1 := d1.len
    have gl := growT_len k' (ts.take (splitN ts.length)) old (by rw [lt1]; exact b1)
    have kk : k' ≤ 1000 := by
      have := hr.dp
      have e0 : recursionLimit = 1000 := rfl
      omega
    refine ⟨p1, p3, ys, [v2], rfl, rfl, by rw [upd_ne (ne_of_none e1 hp3)]; exact e1, upd_same, ?_, fun p4 hp4 => ?_⟩
    · rw [l1]
      show _ + 1 ≤ _
      rw [sizeLine_eq]
      omega
    have x5 := (Ext.new (o := .lst [v2]) hp3).trans (Ext.new (o := .lst (ys ++ [v2])) hp4)
    have np4 := (((xx.trans x3).trans x4).free ((Ext.new (o := .lst [v2]) hp3).free hp4))
    refine q p4 _ _ (((xx.trans x3).trans x4).trans x5) np4 upd_same (G.keep ((Kp.new hp3).trans (Kp.new hp4)) ok2) ?_
    rw [growT_low (by omega) (by omega) (by omega)]
    exact (d1.mono G ((x3.trans x4).trans x5).gr).append (DenL.one (G.mono x5.gr d2))
  · -- in the rest
    have c' : ¬ (old : Int) ≤ ((splitN ts.length : Nat) : Int) := of_decide_eq_false (Bool.eq_false_iff.mpr c)
    refine ⟨_, rfl, _, rfl, _, rfl, ((splitN ts.length : Nat) : Int), rfl, a, _, rfl, hS, fun p hp => ?_⟩
    rw [cut_from]
    have x1 := Ext.new (o := .lst (xs.drop (splitN ts.length))) hp
    have k1 := Kp.new (o := .lst (xs.drop (splitN ts.length))) hp
    refine ⟨_, rfl, _, rfl, _, _, rfl, rfl, S, p, _, ts.drop (splitN ts.length), old - splitN ts.length, r + costT (splitN ts.length), hF, ?_, SqL.of upd_same, (hD.drop _).mono G k1.gr, by omega, ?_, ?_, ?_, ?_, fun p1 ys H1 x2 np1 hp1 ok1 d1 => ?_⟩
    · rw [show ((old - splitN ts.length : Nat) : Int) = (old : Int) - ((splitN ts.length : Nat) : Int) by omega]
      rfl
    · rw [ld1]
      exact b2
    · omega
    · omega
    · rw [ld1]
      exact G.less (G.keep k1 hok) (by omega)
    have xx := x1.trans x2
    refine ⟨_, rfl, _, rfl, _, rfl, ((splitN ts.length : Nat) : Int), rfl, a, _, rfl, xx.seq hS, fun p2 hp2 => ?_⟩
    rw [cut_to]
    have x3 := Ext.new (o := .lst (xs.take (splitN ts.length))) hp2
    have k3 := Kp.new (o := .lst (xs.take (splitN ts.length))) hp2
    refine ⟨S, p2, _, ts.take (splitN ts.length), r, hF, rfl, SqL.of upd_same, ((hD.take _).mono G xx.gr).mono G k3.gr, by omega, ?_, ?_, ?_, fun v2 H2 x4 ok2 d2 => ?_⟩
    · rw [lt1]
      exact Nat.le_trans b1 (Nat.pow_le_pow_right (by decide) (by omega))
    · omega
    · rw [lt1]
      exact G.keep k3 ok1
    refine ⟨by show 1 ≤ sizeLine; decide, fun p3 hp3 => ?_⟩
    have e1 : H2 p1 = some (.lst ys) := x4.lst (x3.lst hp1)
    have l1 := d1.len
    have gl := growT_len k' (ts.drop (splitN ts.length)) (old - splitN ts.length) (by rw [ld1]; exact b2)
    have kk : k' ≤ 1000 := by
      have := hr.dp
      have e0 : recursionLimit = 1000 := rfl
      omega
    refine ⟨p1, p3, ys, [v2], rfl, rfl, by rw [upd_ne (ne_of_none e1 hp3)]; exact e1, upd_same, ?_, fun p4 hp4 => ?_⟩
    · rw [l1]
      show _ + 1 ≤ _
      rw [sizeLine_eq]
      omega
    have x5 := (Ext.new (o := .lst [v2]) hp3).trans (Ext.new (o := .lst (ys ++ [v2])) hp4)
    have np4 := (((xx.trans x3).trans x4).free ((Ext.new (o := .lst [v2]) hp3).free hp4))
    refine q p4 _ _ (((xx.trans x3).trans x4).trans x5) np4 upd_same (G.keep ((Kp.new hp3).trans (Kp.new hp4)) ok2) ?_
    rw [growT_high (by omega) (by omega) (by omega)]
    exact (d1.mono G ((x3.trans x4).trans x5).gr).append (DenL.one (G.mono x5.gr d2))
theorem ok_growth_of {cc : Addr} {j : Nat} (T : Txt K mg cc) (A : SlA P w K mg base Fam) (C_split : Cal P w K mg base 1 "split" spSplit []) (C_top_of : ∀ k, Cal P w K mg base (k + j) "top_of" (spTop K Fam k) []) : ∀ k : Nat, Cal P w K mg base (k + j + 1) "growth_of" (spGrow K Fam k) []
  | 0 => by
    obtain ⟨f, fd, ps, ds, F, m, kp, b, v⟩ := (cal_no (P := P) (w := w) (base := base) T.d_growth_of (0 + j + 1)).ex
    exact ⟨f, fd, ps, ds, F.imp fun vs H Q E h => by obtain ⟨_, _, _, _, _, _, _, _, _, _, z, _⟩ := h; exact absurd rfl z, m, kp, b, v⟩
  | k + 1 => cal_mono (ok_growth_of1 T A C_split C_top_of (ok_growth_of T A C_split C_top_of k)) (by omega)
end

section
variable {P : Program} {w : World} {K : PySem.W.Frag} {mg : Str → Option Value} {base : Heap} {Fam : Sys → Prop} {CK CT : Addr}
def plIn (n : Nat) (sz : Option Int) (i : Int) : Prop := ∃ k, cntOf n sz = some k ∧ 0 ≤ i ∧ i < (k : Int)
def spKPath (mg : Str → Option Value) (CK CT : Addr) (Fam : Sys → Prop) : Sp := fun vs H Q E => ∃ (S0 : Sys) (p : Addr) (l : Nat) (t b v : Addr) (es : List En) (i : Int) (sz : Option Int) (r : Nat), Fam S0 ∧ vs = [.ref p, .int i, szV sz] ∧ KpAt CK CT S0 H p l t b v es ∧ S0.ok H (r + 320) ∧
  (∀ k n, cntOf es.length sz = some k → i = ((n : Nat) : Int) → n < k → ∀ q ys H', Ext H H' → H q = none → H' q = some (.lst ys) → S0.ok H' r → DenL S0 H' ys (pathT ((es.map (leafT l)).take k) n) → Q (.ref q) H') ∧
  (¬ plIn es.length sz i → ∀ D, mg "NoPlace" = some (.ref D) → ∀ H', Ext H H' → S0.ok H' r → E (.ref D) none H')
theorem kpath_body {cc : Addr} (T : Txt K mg cc) (A : SlA P w K mg base Fam) (KK : K_Keeper K mg CK) : ∀ (f : Addr) (cdv : Value) (A' : Around) (outer : List Env) (s : Shared) (H : Hp) (vs : List V) (Q : VK) (E : XK), Room 16 (A'.deeper (envOfC "Keeper.path" (defScope s_Keeper_path) s.heap.objs.size f cdv)) → spKPath mg CK CT Fam vs H Q E →
      ∃ t, PSs (cxOf (L2.CX P w) P w K mg base N_Keeper_path "Keeper.path" (defScope s_Keeper_path) f cdv A' outer s H E) (defBody s_Keeper_path) t ∧ t { nx := fun _ H' => Q .non H', rt := Q } (start N_Keeper_path vs) H := by
  intro f cdv A' outer s H vs Q E hr h
  have Z := T.Z
  have M_first := ok_first (CT := CT) T A KK
  have M_within := ok_within (P := P) (w := w) (base := base) T KK
  have C_path_of := ok_path_of T A (ok_split T) (ok_top_of T A) 10
  obtain ⟨S0, p, l, t, b, v, es, i, sz, r, hF, rfl, hk, hok, q1, q2⟩ := h
  have G := A.good hF
  obtain ⟨dx, hp⟩ := hk.at_
  have kf := kpF_at S0.f (l : Int) t b v
  refine ⟨_, (pss_cons (ps_set (i := 3) sc_Keeper_path.nd rfl (Or.inl rfl) (pe_mtx M_first (takes_of rfl rfl rfl rfl) hr (by omega) (pv 0) (pa_cons (pv 2) pa_nil)))
  (pss_cons (ps_expr (pe_mtx M_within (takes_of rfl rfl rfl rfl) hr (by omega) (pv 0) (pa_cons (pv 1) (pa_cons (pe_callB call_len_seq rfl Z.len PySem.boot_len (pa_cons (pv 3) pa_nil)) pa_nil))))
  (pss_one (ps_ret (pe_c C_path_of hr (by omega) rfl (pa_cons (pe_fld (pv 0) rfl) (pa_cons (pv 3) (pa_cons (pv 1) pa_nil)))))))), ?_⟩
  refine ⟨_, rfl, p, dx, _, rfl, hp, kno "first", _, rfl, S0, p, l, t, b, v, es, sz, _, hF, rfl, hk, hok, fun k hc q ys H1 x1 k1 nq hq hd => ?_, fun hc D hD => q2 (fun ⟨k, z, _⟩ => by rw [hc] at z; cases z) D hD H (Ext.refl _) (G.less hok (by omega))⟩
  have hle := cnt_le hc
  have hl := hd.len
  rw [List.length_take, List.length_map, Nat.min_eq_left hle] at hl
  have h20 := hk.sz.2
  have hp1 := x1.ins hp
  have ct := costT_le k
  have ltk : ((es.map (leafT l)).take k).length = k := by rw [List.length_take, List.length_map, Nat.min_eq_left hle]
  refine ⟨_, rfl, p, dx, _, rfl, hp1, kno "within", _, rfl, _, rfl, q, ys, rfl, .inl (SqL.of hq), .ref p, i, _, rfl, fun hin => ?_, fun hout D hD => q2 (fun ⟨k', z, z1, z2⟩ => hout ?_) D hD H1 x1 (G.less (G.keep k1 hok) (by omega))⟩
  · obtain ⟨n, rfl⟩ := Int.eq_ofNat_of_zero_le hin.1
    have hnk : n < k := by omega
    refine ⟨_, rfl, p, CK, dx, _, _, rfl, hp1, KK.cl, KK.n_seal, kf.1, _, rfl, _, rfl, S0, q, ys, _, n, r, hF, rfl, SqL.of hq, hd, by decide, by rw [ltk]; show _ ≤ 512; omega, by omega, by omega, by rw [ltk]; exact G.less (G.keep k1 hok) (by omega), fun q3 zs H2 x2 nq3 hq3 ok2 d2 => ?_⟩
    exact q1 k n hc rfl hnk q3 zs H2 (x1.trans x2) (x1.free nq3) hq3 ok2 d2
  · rw [hc] at z
    cases z
    omega
theorem ok_kpath {cc : Addr} (T : Txt K mg cc) (A : SlA P w K mg base Fam) (KK : K_Keeper K mg CK) : MetRD P w K mg base 17 CK "path" (spKPath mg CK CT Fam) [] :=
  metRD_of 3 1 KK.cl KK.m_path (by simp) rfl (fun T kV doc pm an cdv ct us its hu hi => match us, its, hu, hi with | [_, _, _], [_], _, _ => ⟨_, rfl, rfl⟩) sc_Keeper_path (fun vs H Q E h => by obtain ⟨S0, p, l, t, b, v, es, i, sz, r, _, rfl, _⟩ := h; rfl) (kpath_body T A KK)
theorem ok_kpath0 {cc : Addr} (T : Txt K mg cc) (A : SlA P w K mg base Fam) (KK : K_Keeper K mg CK) : MetRD P w K mg base 17 CK "path" (spKPath mg CK CT Fam) [.non] :=
  metRD_of 2 0 KK.cl KK.m_path (by simp) rfl (fun T kV doc pm an cdv ct us its hu hi => match us, its, hu, hi with | [_, _], [_], _, _ => ⟨_, rfl, rfl⟩) sc_Keeper_path (fun vs H Q E h => by obtain ⟨S0, p, l, t, b, v, es, i, sz, r, _, rfl, _⟩ := h; rfl) (kpath_body T A KK)
def olIn (n : Nat) (sz : Option Int) (i : Int) : Prop := ∃ k, cntOf n sz = some k ∧ 0 ≤ i ∧ i ≤ (k : Int)
def spKGrow (mg : Str → Option Value) (CK CT : Addr) (Fam : Sys → Prop) : Sp := fun vs H Q E => ∃ (S0 : Sys) (p : Addr) (l : Nat) (t b v : Addr) (es : List En) (i : Int) (sz : Option Int) (r : Nat), Fam S0 ∧ vs = [.ref p, .int i, szV sz] ∧ KpAt CK CT S0 H p l t b v es ∧ S0.ok H (r + 320) ∧
  (∀ k n, cntOf es.length sz = some k → i = ((n : Nat) : Int) → n ≤ k → ∀ q ys H', Ext H H' → H q = none → H' q = some (.lst ys) → S0.ok H' r → DenL S0 H' ys (growT ((es.map (leafT l)).take k) n) → Q (.ref q) H') ∧
  (¬ olIn es.length sz i → ∀ D, mg "NoPlace" = some (.ref D) → ∀ H', Ext H H' → S0.ok H' r → E (.ref D) none H')
theorem kgrow_body {cc : Addr} (T : Txt K mg cc) (A : SlA P w K mg base Fam) (KK : K_Keeper K mg CK) : ∀ (f : Addr) (cdv : Value) (A' : Around) (outer : List Env) (s : Shared) (H : Hp) (vs : List V) (Q : VK) (E : XK), Room 16 (A'.deeper (envOfC "Keeper.growth" (defScope s_Keeper_growth) s.heap.objs.size f cdv)) → spKGrow mg CK CT Fam vs H Q E →
      ∃ t, PSs (cxOf (L2.CX P w) P w K mg base N_Keeper_growth "Keeper.growth" (defScope s_Keeper_growth) f cdv A' outer s H E) (defBody s_Keeper_growth) t ∧ t { nx := fun _ H' => Q .non H', rt := Q } (start N_Keeper_growth vs) H := by
  intro f cdv A' outer s H vs Q E hr h
  have Z := T.Z
  have M_first := ok_first (CT := CT) T A KK
  have M_within := ok_within (P := P) (w := w) (base := base) T KK
  have C_growth_of := ok_growth_of T A (ok_split T) (ok_top_of T A) 10
  obtain ⟨S0, p, l, t, b, v, es, i, sz, r, hF, rfl, hk, hok, q1, q2⟩ := h
  have G := A.good hF
  obtain ⟨dx, hp⟩ := hk.at_
  have kf := kpF_at S0.f (l : Int) t b v
  refine ⟨_, (pss_cons (ps_set (i := 3) sc_Keeper_growth.nd rfl (Or.inl rfl) (pe_mtx M_first (takes_of rfl rfl rfl rfl) hr (by omega) (pv 0) (pa_cons (pv 2) pa_nil)))
  (pss_cons (ps_expr (pe_mtx M_within (takes_of rfl rfl rfl rfl) hr (by omega) (pv 0) (pa_cons (pv 1) (pa_cons (pe_op op_add (pe_callB call_len_seq rfl Z.len PySem.boot_len (pa_cons (pv 3) pa_nil)) pe_int) pa_nil))))
  (pss_one (ps_ret (pe_c C_growth_of hr (by omega) rfl (pa_cons (pe_fld (pv 0) rfl) (pa_cons (pv 3) (pa_cons (pv 1) pa_nil)))))))), ?_⟩
  refine ⟨_, rfl, p, dx, _, rfl, hp, kno "first", _, rfl, S0, p, l, t, b, v, es, sz, _, hF, rfl, hk, hok, fun k hc q ys H1 x1 k1 nq hq hd => ?_, fun hc D hD => q2 (fun ⟨k, z, _⟩ => by rw [hc] at z; cases z) D hD H (Ext.refl _) (G.less hok (by omega))⟩
  have hle := cnt_le hc
  have hl := hd.len
  rw [List.length_take, List.length_map, Nat.min_eq_left hle] at hl
  have h20 := hk.sz.2
  have hp1 := x1.ins hp
  have ct := costT_le k
  have ltk : ((es.map (leafT l)).take k).length = k := by rw [List.length_take, List.length_map, Nat.min_eq_left hle]
  refine ⟨_, rfl, p, dx, _, rfl, hp1, kno "within", _, rfl, _, rfl, q, ys, rfl, .inl (SqL.of hq), _, _, rfl, rfl, .ref p, i, _, rfl, fun hin => ?_, fun hout D hD => q2 (fun ⟨k', z, z1, z2⟩ => hout ?_) D hD H1 x1 (G.less (G.keep k1 hok) (by omega))⟩
  · obtain ⟨n, rfl⟩ := Int.eq_ofNat_of_zero_le hin.1
    have hnk : n ≤ k := by omega
    refine ⟨_, rfl, p, CK, dx, _, _, rfl, hp1, KK.cl, KK.n_seal, kf.1, _, rfl, _, rfl, S0, q, ys, _, n, r, hF, rfl, SqL.of hq, hd, by decide, by rw [ltk]; show _ ≤ 512; omega, by omega, by omega, by rw [ltk]; exact G.less (G.keep k1 hok) (by omega), fun q3 zs H2 x2 nq3 hq3 ok2 d2 => ?_⟩
    exact q1 k n hc rfl hnk q3 zs H2 (x1.trans x2) (x1.free nq3) hq3 ok2 d2
  · rw [hc] at z
    cases z
    omega
theorem ok_kgrow {cc : Addr} (T : Txt K mg cc) (A : SlA P w K mg base Fam) (KK : K_Keeper K mg CK) : MetRD P w K mg base 17 CK "growth" (spKGrow mg CK CT Fam) [] :=
  metRD_of 3 1 KK.cl KK.m_growth (by simp) rfl (fun T kV doc pm an cdv ct us its hu hi => match us, its, hu, hi with | [_, _, _], [_], _, _ => ⟨_, rfl, rfl⟩) sc_Keeper_growth (fun vs H Q E h => by obtain ⟨S0, p, l, t, b, v, es, i, sz, r, _, rfl, _⟩ := h; rfl) (kgrow_body T A KK)
theorem ok_kgrow0 {cc : Addr} (T : Txt K mg cc) (A : SlA P w K mg base Fam) (KK : K_Keeper K mg CK) : MetRD P w K mg base 17 CK "growth" (spKGrow mg CK CT Fam) [.non] :=
  metRD_of 2 0 KK.cl KK.m_growth (by simp) rfl (fun T kV doc pm an cdv ct us its hu hi => match us, its, hu, hi with | [_, _], [_], _, _ => ⟨_, rfl, rfl⟩) sc_Keeper_growth (fun vs H Q E h => by obtain ⟨S0, p, l, t, b, v, es, i, sz, r, _, rfl, _⟩ := h; rfl) (kgrow_body T A KK)
end

section
variable {P : Program} {w : World} {K : PySem.W.Frag} {mg : Str → Option Value} {base : Heap} {Fam : Sys → Prop} {CK CT : Addr}
theorem WayV.back {S0 : Sys} {H0 H H' : Hp} {v : V} {wt : List Tm × List (Int × Str)} (h : WayV S0 H H' v wt) (x : Ext H0 H) : WayV S0 H0 H' v wt := by
  obtain ⟨q, o, e, ys, h1, h2, h3, h4, h5⟩ := h.ex
  exact ⟨q, o, e, ys, h1, h2, x.free h3, x.free h4, h5⟩
def spKWay (mg : Str → Option Value) (CK CT : Addr) (Fam : Sys → Prop) : Sp := fun vs H Q E => ∃ (S0 : Sys) (p : Addr) (l : Nat) (t b v : Addr) (es : List En) (i k : Int) (r : Nat), Fam S0 ∧ vs = [.ref p, .int i, .int k] ∧ KpAt CK CT S0 H p l t b v es ∧ S0.ok H (r + 6601) ∧
  (∀ (n : Nat) e, i = (n : Int) → es[n]? = some e → 0 ≤ k → k < 2 ^ l → ∀ u H', Ext H H' → S0.ok H' r → WayV S0 H H' u (wayT l (srtI e.2) k) → Q u H') ∧
  (¬ ((0 ≤ i ∧ i < (es.length : Int)) ∧ 0 ≤ k ∧ k < 2 ^ l) → ∀ D, mg "NoPlace" = some (.ref D) → E (.ref D) none H)
theorem ok_kway {cc : Addr} (T : Txt K mg cc) (A : SlA P w K mg base Fam) (KT : K_Table K mg CT) (KK : K_Keeper K mg CK) : MetR P w K mg base 26 CK "way" (spKWay mg CK CT Fam) := by
  have Z := T.Z
  have M_within := ok_within (P := P) (w := w) (base := base) T KK
  have M_way := (ok_wayN T A KT).weak
  refine metR_of KK.cl KK.m_way sc_Keeper_way (fun vs H Q E h => ?_) (fun f cdv A' outer s H vs Q E hr h => ?_)
  · obtain ⟨S0, p, l, t, b, v, es, i, k, r, _, rfl, _⟩ := h
    rfl
  obtain ⟨S0, p, l, t, b, v, es, i, k, r, hF, rfl, hk, hok, q1, q2⟩ := h
  have G := A.good hF
  obtain ⟨dx, hp⟩ := hk.at_
  obtain ⟨qs, hb, hql, hq⟩ := hk.tb
  have kf := kpF_at S0.f (l : Int) t b v
  refine ⟨_, (pss_cons (ps_expr (pe_mtx M_within (takes_of rfl rfl rfl rfl) hr (by omega) (pv 0) (pa_cons (pv 1) (pa_cons (pe_callB call_len_seq rfl Z.len PySem.boot_len (pa_cons (pe_fld (pv 0) rfl) pa_nil)) pa_nil))))
  (pss_one (ps_ret (pe_mtx M_way (takes_of rfl rfl rfl rfl) hr (by omega) (pe_ix ix_list (pe_fld (pv 0) rfl) (pv 1) (fun _ _ => rfl)) (pa_cons (pv 2) pa_nil))))), ?_⟩
  refine ⟨_, rfl, p, dx, _, rfl, hp, kno "within", _, rfl, _, rfl, p, CK, dx, _, _, rfl, hp, KK.cl, KK.n_texts, kf.2.2.1, t, _, rfl, .inl (SqL.of hk.tx), .ref p, i, _, rfl, fun hin => ?_, fun hout D hD => q2 (fun z => hout (by rw [List.length_map]; exact z.1)) D hD⟩
  rw [List.length_map] at hin
  obtain ⟨n, e, rfl, he⟩ := get_in hin
  have hn := (List.getElem?_eq_some_iff.mp he).1
  have hqn : qs[n]? = some (qs[n]'(by omega)) := List.getElem?_eq_getElem _
  generalize qs[n]'(by omega) = qn at hqn
  obtain ⟨d, kv, pm, tb⟩ := hq n qn e hqn he
  obtain ⟨⟨dx', hp'⟩, _, _⟩ := id tb
  obtain ⟨hke, hkl, _⟩ := hk.ok e (List.mem_of_getElem? he)
  have cp := costP_le hk.sz.1 (show kv.length ≤ 200 by rw [pm.length_eq]; omega)
  refine ⟨_, rfl, p, CK, dx, _, _, rfl, hp, KK.cl, KK.n_tables, kf.2.2.2.1, _, rfl, b, _, _, _, rfl, rfl, SqL.of hb, atI_nat (by rw [List.getElem?_map, hqn]; rfl), qn, dx', _, rfl, hp', (tbF_no _ _ _).2.2.2.2.2.2.1, _, rfl, S0, qn, d, l, kv, k, r, hF, rfl, tb, hke.perm pm, by have := hk.sz.1; omega, G.less hok (by omega), fun hin2 u rows H' x ok pr pw du => ?_, fun hout D hD => q2 (fun z => hout z.2) D hD⟩
  rw [srt_eq hke pm pr pw] at du
  exact q1 n e rfl he hin2.1 hin2.2 u H' x ok du
/-- a paper -/
structure PapV (S0 : Sys) (H H' : Hp) (u : V) (l : Nat) (e : En) (path : List Tm) (wt : List Tm × List (Int × Str)) : Prop where
  ex : ∃ (q pq : Addr) (hv wv : V) (ys : List V), u = .ref q ∧ H' q = some (.tup [.str (S e.1), hv, .ref pq, wv]) ∧ H pq = none ∧ H' pq = some (.lst ys) ∧ DenL S0 H' ys path ∧ S0.den H' hv (headT l e.2) ∧ WayV S0 H H' wv wt ∧ ∀ o e', H' (match wv with | .ref a => a | _ => 0) = some (.tup [.ref o, e']) → o ≠ pq
def spKPaper (mg : Str → Option Value) (CK CT : Addr) (Fam : Sys → Prop) : Sp := fun vs H Q E => ∃ (S0 : Sys) (p : Addr) (l : Nat) (t b v : Addr) (es : List En) (i k : Int) (sz : Option Int) (r : Nat), Fam S0 ∧ vs = [.ref p, .int i, .int k, szV sz] ∧ KpAt CK CT S0 H p l t b v es ∧ S0.ok H (r + 13522) ∧
  (∀ c n e, cntOf es.length sz = some c → i = ((n : Nat) : Int) → n < c → es[n]? = some e → 0 ≤ k → k < 2 ^ l → ∀ u H', Ext H H' → S0.ok H' r → PapV S0 H H' u l e (pathT ((es.map (leafT l)).take c) n) (wayT l (srtI e.2) k) → Q u H') ∧
  (¬ (plIn es.length sz i ∧ 0 ≤ k ∧ k < 2 ^ l) → ∀ D, mg "NoPlace" = some (.ref D) → ∀ H', Ext H H' → S0.ok H' r → E (.ref D) none H')
theorem kpaper_body {cc : Addr} (T : Txt K mg cc) (A : SlA P w K mg base Fam) (KT : K_Table K mg CT) (KK : K_Keeper K mg CK) : ∀ (f : Addr) (cdv : Value) (A' : Around) (outer : List Env) (s : Shared) (H : Hp) (vs : List V) (Q : VK) (E : XK), Room 26 (A'.deeper (envOfC "Keeper.paper" (defScope s_Keeper_paper) s.heap.objs.size f cdv)) → spKPaper mg CK CT Fam vs H Q E →
      ∃ t, PSs (cxOf (L2.CX P w) P w K mg base N_Keeper_paper "Keeper.paper" (defScope s_Keeper_paper) f cdv A' outer s H E) (defBody s_Keeper_paper) t ∧ t { nx := fun _ H' => Q .non H', rt := Q } (start N_Keeper_paper vs) H := by
  intro f cdv A' outer s H vs Q E hr h
  have Z := T.Z
  have M_path := ok_kpath (CT := CT) T A KK
  have M_text := ok_ktext (P := P) (w := w) (base := base) (Fam := Fam) (CT := CT) T KK
  have M_table_head := ok_kthead T A KT KK
  have M_way := ok_kway T A KT KK
  obtain ⟨S0, p, l, t, b, v, es, i, k, sz, r, hF, rfl, hk, hok, q1, q2⟩ := h
  have G := A.good hF
  obtain ⟨dx, hp⟩ := hk.at_
  refine ⟨_, (pss_cons (ps_set (i := 4) sc_Keeper_paper.nd rfl (Or.inl rfl) (pe_mtd M_path (takes_of rfl rfl rfl rfl) hr (by omega) (pv 0) (pa_cons (pv 1) (pa_cons (pv 3) pa_nil))))
  (pss_one (ps_ret (pe_tup (pa_cons (pe_mtx M_text (takes_of rfl rfl rfl rfl) hr (by omega) (pv 0) (pa_cons (pv 1) pa_nil)) (pa_cons (pe_mtx M_table_head (takes_of rfl rfl rfl rfl) hr (by omega) (pv 0) (pa_cons (pv 1) pa_nil)) (pa_cons (pv 4) (pa_cons (pe_mtx M_way (takes_of rfl rfl rfl rfl) hr (by omega) (pv 0) (pa_cons (pv 1) (pa_cons (pv 2) pa_nil))) pa_nil)))))))), ?_⟩
  refine ⟨_, rfl, p, dx, _, rfl, hp, kno "path", _, rfl, _, rfl, S0, p, l, t, b, v, es, i, sz, r + 13202, hF, rfl, hk, hok, fun c n hc hi hn q ys H1 x1 nq hq ok1 d1 => ?_, fun hout D hD H' x ok => q2 (fun z => hout z.1) D hD H' x (G.less ok (by omega))⟩
  subst hi
  have hle := cnt_le hc
  obtain ⟨e, he⟩ : ∃ e, es[n]? = some e := ⟨es[n]'(by omega), List.getElem?_eq_getElem _⟩
  have hk1 := hk.ext G x1
  have hp1 := x1.ins hp
  have inn : (0 : Int) ≤ (n : Int) ∧ (n : Int) < (es.length : Int) := by omega
  refine ⟨_, rfl, p, dx, _, rfl, hp1, kno "text", _, rfl, S0, p, l, t, b, v, es, (n : Int), hF, rfl, hk1, fun n' e' hi' he' => ?_, fun z => absurd inn z⟩
  obtain rfl : n = n' := by omega
  rw [he] at he'
  cases he'
  refine ⟨_, rfl, p, dx, _, rfl, hp1, kno "table_head", _, rfl, S0, p, l, t, b, v, es, (n : Int), r + 6601, hF, rfl, hk1, ok1, fun n' e' hi' he' u H2 x2 ok2 d2 => ?_, fun z => absurd inn z⟩
  obtain rfl : n = n' := by omega
  rw [he] at he'
  cases he'
  have hk2 := hk1.ext G x2
  have hp2 := x2.ins hp1
  refine ⟨_, rfl, _, rfl, p, dx, _, rfl, hp2, kno "way", _, rfl, _, rfl, S0, p, l, t, b, v, es, (n : Int), k, r, hF, rfl, hk2, ok2, fun n' e' hi' he' k0 k1 u2 H3 x3 ok3 d3 => ?_, fun hout D hD => q2 (fun z => hout ⟨inn, z.2⟩) D hD H2 (x1.trans x2) (G.less ok2 (by omega))⟩
  obtain rfl : n = n' := by omega
  rw [he] at he'
  cases he'
  refine ⟨by show 4 ≤ sizeLine; decide, fun qt nqt => ?_⟩
  have x4 := Ext.new (o := .tup [.str (S e.1), u, .ref q, u2]) nqt
  have xx := (((x1.trans x2).trans x3).trans x4)
  refine q1 c n e hc rfl hn he k0 k1 _ _ xx (G.keep (Kp.new nqt) ok3) ⟨qt, q, u, u2, ys, rfl, upd_same, nq, ((x2.trans x3).trans x4).lst hq, d1.mono G ((x2.trans x3).trans x4).gr, G.mono (x3.trans x4).gr d2, (d3.ext G x4).back (x1.trans x2), ?_⟩
  obtain ⟨a, o, ee, zs, rfl, g2, g3, _, _⟩ := d3.ex
  intro o' e' h'
  have g4 := x4.tup g2
  have h' : upd H3 qt (.tup [.str (S e.1), u, .ref q, .ref a]) a = some (.tup [.ref o', e']) := h'
  rw [g4] at h'
  cases h'
  exact fun z => by rw [z, x2.lst hq] at g3; cases g3
theorem ok_kpaper {cc : Addr} (T : Txt K mg cc) (A : SlA P w K mg base Fam) (KT : K_Table K mg CT) (KK : K_Keeper K mg CK) : MetRD P w K mg base 27 CK "paper" (spKPaper mg CK CT Fam) [] :=
  metRD_of 4 1 KK.cl KK.m_paper (by simp) rfl (fun T kV doc pm an cdv ct us its hu hi => match us, its, hu, hi with | [_, _, _, _], [_], _, _ => ⟨_, rfl, rfl⟩) sc_Keeper_paper (fun vs H Q E h => by obtain ⟨S0, p, l, t, b, v, es, i, k, sz, r, _, rfl, _⟩ := h; rfl) (kpaper_body T A KT KK)
end

section
variable {P : Program} {w : World} {K : PySem.W.Frag} {mg : Str → Option Value} {base : Heap} {Fam : Sys → Prop} {CK CT C B : Addr}
def spKInit (CK CT : Addr) (Fam : Sys → Prop) : Sp := fun vs H Q _ => ∃ (S0 : Sys) (p dx : Addr) (l : Nat) (r : Nat), Fam S0 ∧ vs = [.ref p, .ref S0.f, .int (l : Int)] ∧ H p = some (.ins CK dx []) ∧ l ≤ 16 ∧ S0.ok H r ∧ ∀ H' t b v, ExtO p H H' → Kp H H' → H t = none → H b = none → H v = none → S0.ok H' r → KpAt CK CT S0 H' p l t b v [] → Q .non H'
theorem free_put {H : Hp} {p d C dx : Addr} {fs : List (Str × V)} (h : upd H p (.ins C dx fs) d = none) : H d = none := by
  by_cases e : d = p
  · rw [e, upd_same] at h; cases h
  · rwa [upd_ne e] at h
theorem kinit_body (A : SlA P w K mg base Fam) (KK : K_Keeper K mg CK) : ∀ (f : Addr) (cdv : Value) (A' : Around) (outer : List Env) (s : Shared) (H : Hp) (vs : List V) (Q : VK) (E : XK), Room 0 (A'.deeper (envOfC "Keeper.__init__" (defScope s_Keeper___init__) s.heap.objs.size f cdv)) → spKInit CK CT Fam vs H Q E →
      ∃ t, PSs (cxOf L2.CX0 P w K mg base N_Keeper___init__ "Keeper.__init__" (defScope s_Keeper___init__) f cdv A' outer s H E).nox (defBody s_Keeper___init__) t ∧ t { nx := fun _ H' => Q .non H', rt := Q } (start N_Keeper___init__ vs) H := by
  intro f cdv A' outer s H vs Q E hr h
  obtain ⟨S0, p, dx, l, r, hF, rfl, hp, hl, hok, q⟩ := h
  have G := A.good hF
  refine ⟨_, (pss_cons (ps_fld (pv 0) (pv 1) rfl)
  (pss_cons (ps_fld (pv 0) (pv 2) rfl)
  (pss_cons (ps_fld (pv 0) (pe_lst pa_nil) rfl)
  (pss_cons (ps_fld (pv 0) (pe_lst pa_nil) rfl)
  (pss_one (ps_fld (pv 0) (pe_lst pa_nil) rfl)))))), ?_⟩
  refine ⟨_, rfl, _, rfl, p, CK, dx, _, rfl, hp, KK.cl, KK.n_seal, by show 0 < 1000; decide, ?_⟩
  have x1 := ExtO.put (o := .ins CK dx (putF "seal" (.ref S0.f) [])) hp
  have k1 := Kp.ins (o := .ins CK dx (putF "seal" (.ref S0.f) [])) hp
  have h1 : upd H p (.ins CK dx (putF "seal" (.ref S0.f) [])) p = some (.ins CK dx (putF "seal" (.ref S0.f) [])) := upd_same
  have n1 : ∀ d, upd H p (.ins CK dx (putF "seal" (.ref S0.f) [])) d = none → H d = none := fun d h => free_put h
  generalize upd H p (.ins CK dx (putF "seal" (.ref S0.f) [])) = H1 at x1 k1 h1 n1 ⊢
  refine ⟨_, rfl, _, rfl, p, CK, dx, _, rfl, h1, KK.cl, KK.n_depth, by show 1 < 1000; decide, ?_⟩
  have x2 := x1.trans (ExtO.put (o := .ins CK dx (putF "depth" (.int (l : Int)) (putF "seal" (.ref S0.f) []))) h1)
  have k2 := k1.trans (Kp.ins (o := .ins CK dx (putF "depth" (.int (l : Int)) (putF "seal" (.ref S0.f) []))) h1)
  have h2 : upd H1 p (.ins CK dx (putF "depth" (.int (l : Int)) (putF "seal" (.ref S0.f) []))) p = some (.ins CK dx (putF "depth" (.int (l : Int)) (putF "seal" (.ref S0.f) []))) := upd_same
  have n2 : ∀ d, upd H1 p (.ins CK dx (putF "depth" (.int (l : Int)) (putF "seal" (.ref S0.f) []))) d = none → H d = none := fun d h => n1 d (free_put h)
  generalize upd H1 p (.ins CK dx (putF "depth" (.int (l : Int)) (putF "seal" (.ref S0.f) []))) = H2 at x2 k2 h2 n2 ⊢
  have key : ∀ {H2 : Hp} {fs : List (Str × V)} {m : Str}, ExtO p H H2 → Kp H H2 → H2 p = some (.ins CK dx fs) → (∀ d, H2 d = none → H d = none) → ∀ t, H2 t = none → ∀ fs', upd (upd H2 t (.lst [])) p (.ins CK dx fs') p = some (.ins CK dx fs') ∧ ExtO p H (upd (upd H2 t (.lst [])) p (.ins CK dx fs')) ∧ Kp H (upd (upd H2 t (.lst [])) p (.ins CK dx fs')) ∧ (∀ d, upd (upd H2 t (.lst [])) p (.ins CK dx fs') d = none → H d = none) ∧ upd (upd H2 t (.lst [])) p (.ins CK dx fs') t = some (.lst []) ∧ (upd H2 t (.lst [])) p = some (.ins CK dx fs) ∧ (∀ a, H2 a = some (.lst []) → a ≠ t ∧ upd (upd H2 t (.lst [])) p (.ins CK dx fs') a = some (.lst [])) := by
    intro H2 fs m x2 k2 h2 n2 t nt fs'
    have npt : p ≠ t := ne_of_none h2 nt
    have h3 : upd H2 t (.lst []) p = some (.ins CK dx fs) := by rw [upd_ne npt]; exact h2
    refine ⟨upd_same, (x2.trans (Ext.new (o := .lst []) nt).o).trans (ExtO.put h3), (k2.trans (Kp.new (o := .lst []) nt)).trans (Kp.ins h3), fun d h => n2 d ?_, by rw [upd_ne npt.symm]; exact upd_same, h3, fun a ha => ?_⟩
    · have h := free_put h
      by_cases e : d = t
      · rw [e, upd_same] at h; cases h
      · rwa [upd_ne e] at h
    · have a1 : a ≠ t := ne_of_none ha nt
      have a2 : a ≠ p := fun z => by rw [z, h2] at ha; cases ha
      exact ⟨a1, by rw [upd_ne a2, upd_ne a1]; exact ha⟩
  refine ⟨by show 0 ≤ sizeLine; decide, fun t nt => ?_⟩
  obtain ⟨h3, x3, k3, n3, t3, g3, m3⟩ := key (m := "") x2 k2 h2 n2 t nt (putF "texts" (.ref t) (putF "depth" (.int (l : Int)) (putF "seal" (.ref S0.f) [])))
  refine ⟨_, rfl, p, CK, dx, _, rfl, g3, KK.cl, KK.n_texts, by show 2 < 1000; decide, ?_⟩
  have nt' := n2 t nt
  generalize upd (upd H2 t (.lst [])) p (.ins CK dx (putF "texts" (.ref t) (putF "depth" (.int (l : Int)) (putF "seal" (.ref S0.f) [])))) = H3 at h3 x3 k3 n3 t3 ⊢
  refine ⟨by show 0 ≤ sizeLine; decide, fun b nb => ?_⟩
  obtain ⟨h4, x4, k4, n4, b4, g4, m4⟩ := key (m := "") x3 k3 h3 n3 b nb (putF "tables" (.ref b) (putF "texts" (.ref t) (putF "depth" (.int (l : Int)) (putF "seal" (.ref S0.f) []))))
  refine ⟨_, rfl, p, CK, dx, _, rfl, g4, KK.cl, KK.n_tables, by show 3 < 1000; decide, ?_⟩
  obtain ⟨tb, t4⟩ := m4 t t3
  have nb' := n3 b nb
  generalize upd (upd H3 b (.lst [])) p (.ins CK dx (putF "tables" (.ref b) (putF "texts" (.ref t) (putF "depth" (.int (l : Int)) (putF "seal" (.ref S0.f) []))))) = H4 at h4 x4 k4 n4 b4 t4 ⊢
  refine ⟨by show 0 ≤ sizeLine; decide, fun v nv => ?_⟩
  obtain ⟨h5, x5, k5, n5, v5, g5, m5⟩ := key (m := "") x4 k4 h4 n4 v nv (putF "leaves" (.ref v) (putF "tables" (.ref b) (putF "texts" (.ref t) (putF "depth" (.int (l : Int)) (putF "seal" (.ref S0.f) [])))))
  refine ⟨_, rfl, p, CK, dx, _, rfl, g5, KK.cl, KK.n_leaves, by show 4 < 1000; decide, ?_⟩
  obtain ⟨tv, t5⟩ := m5 t t4
  obtain ⟨bv, b5⟩ := m5 b b4
  refine q _ t b v x5 k5 nt' nb' (n4 v nv) (G.keep k5 hok) ⟨⟨dx, by rw [h5, kpF_mk]⟩, t5, ⟨[], b5, rfl, fun i q e a _ => by simp at a⟩, ⟨[], v5, DenL.nil⟩, (fun e h => nomatch h), ⟨hl, by decide⟩, ⟨tb, tv, bv⟩⟩
theorem ok_kinit (A : SlA P w K mg base Fam) (KK : K_Keeper K mg CK) : Mak P w K mg base 1 "Keeper" CK (spKInit CK CT Fam) [] :=
  mak_ofD 3 1 KK.mgC KK.made (by simp) rfl (fun T kV doc pm an cdv ct us its hu hi => match us, its, hu, hi with | [_, _, _], [_], _, _ => ⟨_, rfl, rfl⟩) sc_Keeper___init__ (fun vs H Q E h => by obtain ⟨S0, p, dx, l, r, _, rfl, _⟩ := h; rfl) (kinit_body A KK)
theorem ok_kinit8 (A : SlA P w K mg base Fam) (KK : K_Keeper K mg CK) : Mak P w K mg base 1 "Keeper" CK (spKInit CK CT Fam) [.int 8] :=
  mak_ofD 2 0 KK.mgC KK.made (by simp) rfl (fun T kV doc pm an cdv ct us its hu hi => match us, its, hu, hi with | [_, _], [_], _, _ => ⟨_, rfl, rfl⟩) sc_Keeper___init__ (fun vs H Q E h => by obtain ⟨S0, p, dx, l, r, _, rfl, _⟩ := h; rfl) (kinit_body A KK)
def lastKv (es : List En) : List (Int × Str) := match es.getLast? with
  | none => []
  | some e => e.2
def spKAdd (mg : Str → Option Value) (CK CT : Addr) (Fam : Sys → Prop) : Sp := fun vs H Q E => ∃ (S0 : Sys) (p : Addr) (l : Nat) (t b v : Addr) (es : List En) (tx : List Nat) (r : Nat), Fam S0 ∧ vs = [.ref p, .str (S tx)] ∧ KpAt CK CT S0 H p l t b v es ∧ es.length < 300 ∧ AscL tx ∧ tx.length ≤ 300 ∧ S0.ok H (r + 6611) ∧
  (∀ kv, runL l 0 (TL.spl [10] 0 [] tx) (lastKv es) = .ok kv → kv.length ≤ 199 ∧ ∀ H', ExtM [t, b, v] H H' → S0.ok H' r → KpAt CK CT S0 H' p l t b v (es ++ [(tx, kv)]) → Q (.int (es.length : Int)) H') ∧
  (∀ i, runL l 0 (TL.spl [10] 0 [] tx) (lastKv es) = .error i → ∀ D, mg "BadRow" = some (.ref D) → ∀ dx H', Ext H H' → S0.ok H' r → H dx = none → H' dx = some (.xd [("row", .int (i : Int))]) → E (.ref D) (some dx) H')
theorem last_get {es : List En} (h : es ≠ []) : ∃ e, es[es.length - 1]? = some e ∧ lastKv es = e.2 := by
  have hl : 0 < es.length := List.length_pos_iff.mpr h
  have e1 : es.getLast? = es[es.length - 1]? := List.getLast?_eq_getElem? ..
  have e2 : es[es.length - 1]? = some (es[es.length - 1]'(by omega)) := List.getElem?_eq_getElem _
  refine ⟨_, e2, ?_⟩
  unfold lastKv
  rw [e1, e2]
theorem ok_kadd {cc : Addr} (T : Txt K mg cc) (A : SlA P w K mg base Fam) (KT : K_Table K mg CT) (KK : K_Keeper K mg CK) (EI : ExcI K mg "BadRow" "BookError" "row" "BadRow.__init__" s_BadRow___init__ ["self", "row"] C B) : MetR P w K mg base 26 CK "add" (spKAdd mg CK CT Fam) := by
  have Z := T.Z
  have C_Table := ok_tinit A KT
  have C_changed := ok_changed T A KT EI
  have M_head := ok_thead T A KT
  have C_leaf_seal := ok_leaf_seal T A
  refine metR_of KK.cl KK.m_add sc_Keeper_add (fun vs H Q E h => ?_) (fun f cdv A' outer s H vs Q E hr h => ?_)
  · obtain ⟨S0, p, l, t, b, v, es, tx, r, _, rfl, _⟩ := h
    rfl
  obtain ⟨S0, p, l, t, b, v, es, tx, r, hF, rfl, hk, hel, ha, htl, hok, q1, q2⟩ := h
  have G := A.good hF
  have e16 : sizeLine = 16777216 := sizeLine_eq
  obtain ⟨dx, hp⟩ := hk.at_
  have kf := kpF_at S0.f (l : Int) t b v
  refine ⟨_, (pss_cons (ps_set (i := 2) sc_Keeper_add.nd rfl (Or.inl rfl) (pe_mk C_Table hr (by omega) rfl (pa_cons (pe_fld (pv 0) rfl) (pa_cons (pe_fld (pv 0) rfl) pa_nil))))
  (Evl.pss_cut (ps_if (pt_cmpR op_gt (pe_callB call_len_seq rfl Z.len PySem.boot_len (pa_cons (pe_fld (pv 0) rfl) pa_nil)) pe_int (nomark _)) (pss_one (ps_set (i := 2) sc_Keeper_add.nd rfl (Or.inl rfl) (pe_ix ix_list (pe_fld (pv 0) rfl) (pe_op op_sub (pe_callB call_len_seq rfl Z.len PySem.boot_len (pa_cons (pe_fld (pv 0) rfl) pa_nil)) pe_int) (fun _ _ => rfl)))) pss_nil)
  (pss_cons (ps_set (i := 3) sc_Keeper_add.nd rfl (Or.inl rfl) (pe_cx C_changed (takes_of rfl rfl rfl rfl) hr (by omega) rfl (pa_cons (pv 2) (pa_cons (pv 1) (pa_cons (pe_fld (pv 0) rfl) pa_nil)))))
  (pss_cons (ps_expr (pe_bm PySem.F.plainAttrs_list PySem.F.slot_list_append PySem.F.type_list_append mt_append (pe_fld (pv 0) rfl) (pa_cons (pv 1) pa_nil)))
  (pss_cons (ps_expr (pe_bm PySem.F.plainAttrs_list PySem.F.slot_list_append PySem.F.type_list_append mt_append (pe_fld (pv 0) rfl) (pa_cons (pv 3) pa_nil)))
  (pss_cons (ps_expr (pe_bm PySem.F.plainAttrs_list PySem.F.slot_list_append PySem.F.type_list_append mt_append (pe_fld (pv 0) rfl) (pa_cons (pe_c C_leaf_seal hr (by omega) rfl (pa_cons (pe_fld (pv 0) rfl) (pa_cons (pv 1) (pa_cons (pe_mt0 M_head hr (by omega) (pv 3)) pa_nil)))) pa_nil)))
  (pss_one (ps_ret (pe_op op_sub (pe_callB call_len_seq rfl Z.len PySem.boot_len (pa_cons (pe_fld (pv 0) rfl) pa_nil)) pe_int))))))))), ?_⟩
  refine ⟨_, rfl, p, CK, dx, _, _, rfl, hp, KK.cl, KK.n_seal, kf.1, _, rfl, p, CK, dx, _, _, rfl, hp, KK.cl, KK.n_depth, kf.2.1, fun o ox no nox nex => ?_⟩
  have y1 : Ext H (upd (upd H ox (.own o)) o (.ins CT ox [])) := (Ext.new nox).trans (Ext.new (by rw [upd_ne nex.symm]; exact no))
  have ky1 : Kp H (upd (upd H ox (.own o)) o (.ins CT ox [])) := (Kp.new nox).trans (Kp.new (by rw [upd_ne nex.symm]; exact no))
  refine ⟨S0, o, ox, l, r + 6611, hF, rfl, upd_same, by have := hk.sz.1; omega, G.keep ky1 hok, fun H1 d1 xo1 kp1 nd1 ok1 tb1 => ⟨rfl, ?_⟩⟩
  have x1 : Ext H H1 := xo1.ext y1 no
  have hk1 := hk.ext G x1
  have hp1 := x1.ins hp
  obtain ⟨qs, hb, hql, hq⟩ := hk1.tb
  have nonr : ∀ {kv : List (Int × Str)}, kv = [] → TbOk l kv := fun {kv} e => by subst e; exact ⟨List.nodup_nil, (fun e h => nomatch h), (fun e h => nomatch h)⟩
  refine ⟨fun σ H' => ∃ q d kv, σ = [some (.ref p), some (.str (S tx)), some (.ref q), none] ∧ H1 = H' ∧ TbAt CT S0.f H1 q d l kv ∧ kv.Perm (lastKv es) ∧ TbOk l (lastKv es) ∧ (lastKv es).length ≤ 199, ?_, ?_⟩
  · refine ⟨_, rfl, p, CK, dx, _, _, rfl, hp1, KK.cl, KK.n_tables, kf.2.2.2.1, b, _, rfl, .inl (SqL.of hb), _, _, rfl, rfl, _, rfl, ?_⟩
    rw [List.length_map, hql]
    by_cases c : es = []
    · subst c
      exact iteF ⟨o, d1, [], rfl, rfl, tb1, .nil, nonr rfl, Nat.zero_le _⟩
    · have hl : 0 < es.length := List.length_pos_iff.mpr c
      rw [decide_eq_true (show (0 : Int) < (es.length : Int) by omega)]
      refine iteT ?_
      obtain ⟨e, he, hle⟩ := last_get c
      have hqn : qs[es.length - 1]? = some (qs[es.length - 1]'(by omega)) := List.getElem?_eq_getElem _
      generalize qs[es.length - 1]'(by omega) = qn at hqn
      obtain ⟨d, kv, pm, tb⟩ := hq _ qn e hqn he
      obtain ⟨hke, hkl, _⟩ := hk.ok e (List.mem_of_getElem? he)
      refine ⟨_, rfl, p, CK, dx, _, _, rfl, hp1, KK.cl, KK.n_tables, kf.2.2.2.1, _, rfl, p, CK, dx, _, _, rfl, hp1, KK.cl, KK.n_tables, kf.2.2.2.1, b, _, rfl, .inl (SqL.of hb), _, _, rfl, rfl, b, _, _, .ref qn, rfl, rfl, SqL.of hb, ?_, ?_⟩
      · rw [List.length_map, hql, show (es.length : Int) - 1 = ((es.length - 1 : Nat) : Int) by omega]
        exact atI_nat (by rw [List.getElem?_map, hqn]; rfl)
      · exact ⟨qn, d, kv, rfl, rfl, tb, by rw [hle]; exact pm, by rw [hle]; exact hke, by rw [hle]; exact hkl⟩
  rintro σ H' ⟨q, d, kv, rfl, rfl, tbl, pml, hkl, hll⟩
  have hkv := hkl.perm pml
  have rl := pml.length_eq
  refine ⟨_, rfl, _, rfl, _, rfl, p, CK, dx, _, _, rfl, hp1, KK.cl, KK.n_depth, kf.2.1, S0, q, d, l, kv, tx, r + 6611, hF, rfl, tbl, hkv, ha, by omega, ok1, fun rows kv' o2 d2 H2 perm hrun x2 no2 nd2 ok2 tb2 hk2 => ?_, fun rows i perm hrun D hD dx2 H2 x2 ok2 ndx hdx => ?_⟩
  · obtain ⟨kvc, hrc, pmc⟩ := (hrun ▸ run_perm (TL.spl [10] 0 [] tx) 0 rows (lastKv es) ((hkv.perm perm).nd) (perm.trans pml)).ok
    obtain ⟨hlen, q1⟩ := q1 kvc hrc
    have hkc : TbOk l kvc := hk2.perm pmc.symm
    have xx := x1.trans x2
    have hk2' := hk.ext G xx
    have hp2 := xx.ins hp
    obtain ⟨qs2, hb2, hql2, hq2⟩ := hk2'.tb
    obtain ⟨ls, hv2, hls⟩ := hk2'.lv
    have htx2 := hk2'.tx
    have h20 := hk.sz
    obtain ⟨n1, n2, n3⟩ := hk.ne
    have hlsl := hls.len
    rw [List.length_map] at hlsl
    have wasM : ∀ a ∈ [t, b, v], ∃ xs, H a = some (.lst xs) := fun a h => by
      rcases List.mem_cons.mp h with rfl | h
      · exact ⟨_, hk.tx⟩
      rcases List.mem_cons.mp h with rfl | h
      · obtain ⟨_, z, _⟩ := hk.tb; exact ⟨_, z⟩
      rcases List.mem_cons.mp h with rfl | h
      · obtain ⟨_, z, _⟩ := hk.lv; exact ⟨_, z⟩
      cases h
    have m0 : ExtM [t, b, v] H H2 := xx.m _ wasM
    have it : t ∈ [t, b, v] := List.mem_cons_self
    have ib : b ∈ [t, b, v] := List.mem_cons_of_mem _ List.mem_cons_self
    have iv : v ∈ [t, b, v] := List.mem_cons_of_mem _ (List.mem_cons_of_mem _ List.mem_cons_self)
    have was2 : ∀ a ∈ [t, b, v], ∃ xs, H2 a = some (.lst xs) := fun a h => by
      obtain ⟨xs, z⟩ := wasM a h
      exact ⟨xs, xx.lst z⟩
    have m2 : ExtM [t, b, v] H2 H2 := (Ext.refl H2).m _ was2
    refine ⟨_, rfl, p, CK, dx, _, _, rfl, hp2, KK.cl, KK.n_texts, kf.2.2.1, .inl ⟨rfl, _, SqL.of htx2⟩, _, rfl, t, _, .str (S tx), rfl, rfl, htx2, by rw [List.length_map]; omega, ?_⟩
    have m3 := m2.set (o := .lst ((es.map fun e => V.str (S e.1)) ++ [.str (S tx)])) it
    have k3 := Kp.lst (o := .lst ((es.map fun e => V.str (S e.1)) ++ [.str (S tx)])) htx2
    have t3 : upd H2 t (.lst ((es.map fun e => V.str (S e.1)) ++ [.str (S tx)])) t = some (.lst ((es.map fun e => V.str (S e.1)) ++ [.str (S tx)])) := upd_same
    have b3 : upd H2 t (.lst ((es.map fun e => V.str (S e.1)) ++ [.str (S tx)])) b = some (.lst (qs2.map V.ref)) := by rw [upd_ne n1.symm]; exact hb2
    have v3 : upd H2 t (.lst ((es.map fun e => V.str (S e.1)) ++ [.str (S tx)])) v = some (.lst ls) := by rw [upd_ne n2.symm]; exact hv2
    have ok3 := G.keep k3 ok2
    generalize upd H2 t (.lst ((es.map fun e => V.str (S e.1)) ++ [.str (S tx)])) = H3 at m3 t3 b3 v3 ok3 ⊢
    have hp3 := m3.ins hp2
    refine ⟨_, rfl, p, CK, dx, _, _, rfl, hp3, KK.cl, KK.n_tables, kf.2.2.2.1, .inl ⟨rfl, _, SqL.of b3⟩, _, rfl, b, _, .ref o2, rfl, rfl, b3, by rw [List.length_map, hql2]; omega, ?_⟩
    have m4 := m3.set (o := .lst (qs2.map V.ref ++ [.ref o2])) ib
    have k4 := Kp.lst (o := .lst (qs2.map V.ref ++ [.ref o2])) b3
    have t4 : upd H3 b (.lst (qs2.map V.ref ++ [.ref o2])) t = some (.lst ((es.map fun e => V.str (S e.1)) ++ [.str (S tx)])) := by rw [upd_ne n1]; exact t3
    have b4 : upd H3 b (.lst (qs2.map V.ref ++ [.ref o2])) b = some (.lst (qs2.map V.ref ++ [.ref o2])) := upd_same
    have v4 : upd H3 b (.lst (qs2.map V.ref ++ [.ref o2])) v = some (.lst ls) := by rw [upd_ne n3.symm]; exact v3
    have ok4 := G.keep k4 ok3
    generalize upd H3 b (.lst (qs2.map V.ref ++ [.ref o2])) = H4 at m4 t4 b4 v4 ok4 ⊢
    have hp4 := m4.ins hp2
    have tb4 := tb2.extM m4
    obtain ⟨⟨dxo, hpo⟩, _, _⟩ := id tb4
    have htx : txtOk (S tx) = true := txt_of_tl fun c hc => by
      have := ha c hc
      omega
    have cp := costP_le h20.1 (show kv'.length ≤ 200 by rw [pmc.length_eq]; omega)
    refine ⟨_, rfl, p, CK, dx, _, _, rfl, hp4, KK.cl, KK.n_leaves, kf.2.2.2.2, .inl ⟨rfl, _, SqL.of v4⟩, _, rfl, p, CK, dx, _, _, rfl, hp4, KK.cl, KK.n_seal, kf.1, _, rfl, _, rfl, o2, dxo, _, rfl, hpo, (tbF_no _ _ _).2.2.2.2.2.1, S0, o2, d2, l, kv', r + 1, hF, rfl, tb4, hk2, by omega, G.less ok4 (by omega), fun u rws H5 x5 ok5 pr pw du => ?_⟩
    rw [srt_eq hkc pmc pr pw] at du
    refine ⟨S0, .str (S tx), u, .str (S tx), _, r, hF, rfl, ok5, G.str _ ok5 htx, du, fun lf H6 x6 ok6 dl => ?_⟩
    have m6 := (m4.then x5).then x6
    have v6 := x6.lst (x5.lst v4)
    refine ⟨v, ls, lf, rfl, rfl, v6, by omega, ?_⟩
    have m7 := m6.set (o := .lst (ls ++ [lf])) iv
    have k7 := Kp.lst (o := .lst (ls ++ [lf])) v6
    have t7 : upd H6 v (.lst (ls ++ [lf])) t = some (.lst ((es.map fun e => V.str (S e.1)) ++ [.str (S tx)])) := by rw [upd_ne n2]; exact x6.lst (x5.lst t4)
    have b7 : upd H6 v (.lst (ls ++ [lf])) b = some (.lst (qs2.map V.ref ++ [.ref o2])) := by rw [upd_ne n3]; exact x6.lst (x5.lst b4)
    have v7 : upd H6 v (.lst (ls ++ [lf])) v = some (.lst (ls ++ [lf])) := upd_same
    have ok7 := G.keep k7 ok6
    have dl7 := G.mono k7.gr dl
    generalize upd H6 v (.lst (ls ++ [lf])) = H7 at m7 t7 b7 v7 ok7 dl7 ⊢
    have hp7 := m7.ins hp2
    have m8 : ExtM [t, b, v] H H7 := by
      refine ⟨fun a o hm e n => m7.keep a o hm (m0.keep a o hm e n) n, fun a ks e => ?_, wasM⟩
      obtain ⟨g1, e1⟩ := m0.grow a ks e
      obtain ⟨g2, e2⟩ := m7.grow a _ e1
      exact ⟨g1 ++ g2, by rw [e2, List.append_assoc]⟩
    refine ⟨_, rfl, p, CK, dx, _, _, rfl, hp7, KK.cl, KK.n_texts, kf.2.2.1, t, _, rfl, .inl (SqL.of t7), _, _, rfl, rfl, ?_⟩
    have e9 : (((((es.map fun e => V.str (S e.1)) ++ [V.str (S tx)]).length : Nat) : Int) - 1) = (es.length : Int) := by
      rw [List.length_append, List.length_map]
      show ((es.length + 1 : Nat) : Int) - 1 = _
      omega
    show Q (.int ((((es.map fun e => V.str (S e.1)) ++ [V.str (S tx)]).length : Int) - 1)) H7
    rw [e9]
    refine q1 H7 m8 ok7 ⟨⟨dx, hp7⟩, by rw [t7, List.map_append]; rfl, ⟨qs2 ++ [o2], by rw [b7, List.map_append]; rfl, by rw [List.length_append, List.length_append, hql2]; rfl, fun i q e a c => ?_⟩, ⟨ls ++ [lf], v7, ?_⟩, fun e he => ?_, ⟨h20.1, by rw [List.length_append]; show es.length + 1 ≤ 300; omega⟩, ⟨n1, n2, n3⟩⟩
    · by_cases ci : i < qs2.length
      · rw [List.getElem?_append_left ci] at a
        rw [List.getElem?_append_left (by omega)] at c
        obtain ⟨d', kv0, g1, g2⟩ := hq2 i q e a c
        exact ⟨d', kv0, g1, g2.extM m7⟩
      · rw [List.getElem?_append_right (by omega)] at a c
        rw [← hql2] at c
        cases hj : i - qs2.length with
        | zero =>
          rw [hj] at a c
          cases a
          cases c
          exact ⟨d2, kv', pmc, tb2.extM m7⟩
        | succ j =>
          rw [hj] at a
          simp at a
    · rw [List.map_append]
      exact (hls.mono G m7.gr).append (DenL.one dl7)
    · rcases List.mem_append.mp he with h | h
      · exact hk.ok e h
      · rw [List.mem_singleton.mp h]
        exact ⟨hkc, hlen, htx⟩
  · have hr2 := (hrun ▸ run_perm (TL.spl [10] 0 [] tx) 0 rows (lastKv es) ((hkv.perm perm).nd) (perm.trans pml)).error
    exact q2 i hr2 D hD dx2 H2 (x1.trans x2) (G.less ok2 (by omega)) (x1.free ndx) hdx
end

/-! ### the stretches of a row -/
/-- the greatest power of two that is no more -/
def greatN (n : Nat) : Nat := 2 ^ n.log2
theorem greatN_le {n : Nat} (h : 0 < n) : greatN n ≤ n := Nat.log2_self_le (by omega)
theorem greatN_pos (n : Nat) : 0 < greatN n := Nat.two_pow_pos _
theorem greatN_of {n i : Nat} (h1 : 2 ^ i ≤ n) (h2 : n < 2 * 2 ^ i) : greatN n = 2 ^ i := by
  have h0 : n ≠ 0 := by
    have := Nat.two_pow_pos i
    omega
  have a : i ≤ n.log2 := (Nat.le_log2 h0).mpr h1
  have b : n.log2 < i + 1 := (Nat.log2_lt h0).mpr (by rw [Nat.pow_succ]; omega)
  unfold greatN
  rw [show n.log2 = i by omega]
theorem greatN_lt (n : Nat) : n < 2 * greatN n := by
  have q : n < 2 ^ (n.log2 + 1) := Nat.lt_log2_self
  rw [Nat.pow_succ] at q
  unfold greatN
  omega
def stT (ts : List Tm) : List Tm :=
  if h : ts.length = 0 then [] else topT (ts.take (greatN ts.length)) :: stT (ts.drop (greatN ts.length))
termination_by ts.length
decreasing_by
  rw [List.length_drop]
  have := greatN_pos ts.length
  omega
theorem stT_nil : stT [] = [] := by rw [stT]; rfl
theorem stT_more {ts : List Tm} (h : ts.length ≠ 0) : stT ts = topT (ts.take (greatN ts.length)) :: stT (ts.drop (greatN ts.length)) := by rw [stT, dif_neg h]
theorem stT_len (ts : List Tm) : (stT ts).length ≤ ts.length := by
  by_cases h : ts.length = 0
  · rw [List.eq_nil_of_length_eq_zero h, stT_nil]
    exact Nat.le_refl _
  · rw [stT_more h, List.length_cons]
    have := stT_len (ts.drop (greatN ts.length))
    have := greatN_pos ts.length
    rw [List.length_drop] at *
    omega
termination_by ts.length
decreasing_by
  rw [List.length_drop]
  have := greatN_pos ts.length
  omega
/-- a row of two to the j: one stretch -/
theorem stT_pow {ts : List Tm} {j : Nat} (h : ts.length = 2 ^ j) : stT ts = [topT ts] := by
  have p := Nat.two_pow_pos j
  have g : greatN ts.length = ts.length := by
    rw [h]
    exact greatN_of (Nat.le_refl _) (by omega)
  rw [stT_more (by omega), g, List.take_length, List.drop_length, stT_nil]
/-- the last stretch of an odd many of two to the j -/
theorem stT_last {j : Nat} (ts : List Tm) (c : Nat) (h : ts.length = (2 * c + 1) * 2 ^ j) : stT ts = stT (ts.take (2 * c * 2 ^ j)) ++ [topT (ts.drop (2 * c * 2 ^ j))] := by
  have p := Nat.two_pow_pos j
  have hadd : ts.length = 2 * c * 2 ^ j + 2 ^ j := by rw [h, Nat.add_mul, Nat.one_mul]
  by_cases hc : c = 0
  · subst hc
    rw [show 2 * 0 * 2 ^ j = 0 by omega, List.take_zero, List.drop_zero, stT_nil, stT_pow (j := j) (by omega)]
    rfl
  · have hge : 2 * 2 ^ j ≤ 2 * c * 2 ^ j := Nat.mul_le_mul_right _ (by omega)
    have hn : 0 < ts.length := by omega
    have hle := greatN_le hn
    have hlt := greatN_lt ts.length
    obtain ⟨d, hd⟩ : ∃ d, greatN ts.length = 2 * d * 2 ^ j := by
      have h1 : j + 1 ≤ ts.length.log2 := (Nat.le_log2 (by omega)).mpr (by rw [Nat.pow_succ]; omega)
      obtain ⟨e, he⟩ := Nat.exists_eq_add_of_le h1
      refine ⟨2 ^ e, ?_⟩
      unfold greatN
      rw [he, Nat.pow_add, Nat.pow_succ]
      rw [Nat.mul_comm (2 ^ j) 2, Nat.mul_assoc, Nat.mul_comm (2 ^ j), Nat.mul_assoc]
    have hdc : d ≤ c := by
      by_cases q : d ≤ c
      · exact q
      · have : (2 * c + 2) * 2 ^ j ≤ 2 * d * 2 ^ j := Nat.mul_le_mul_right _ (by omega)
        rw [Nat.add_mul] at this
        omega
    have hgp := greatN_pos ts.length
    have sub : 2 * c * 2 ^ j - 2 * d * 2 ^ j = 2 * (c - d) * 2 ^ j := by rw [← Nat.sub_mul, Nat.mul_sub]
    have hcd : 2 * d * 2 ^ j ≤ 2 * c * 2 ^ j := Nat.mul_le_mul_right _ (by omega)
    have hlen : (ts.drop (greatN ts.length)).length = (2 * (c - d) + 1) * 2 ^ j := by
      rw [List.length_drop, hd, hadd, Nat.add_mul, Nat.one_mul, ← sub]
      omega
    have ih := stT_last (ts.drop (greatN ts.length)) (c - d) hlen
    have lt1 : (ts.take (2 * c * 2 ^ j)).length = 2 * c * 2 ^ j := by
      rw [List.length_take]
      omega
    have g2 : greatN (2 * c * 2 ^ j) = greatN ts.length := greatN_of (by show greatN ts.length ≤ _; omega) (by show _ < 2 * greatN ts.length; omega)
    rw [stT_more (by omega), ih, stT_more (ts := ts.take (2 * c * 2 ^ j)) (by omega), lt1, g2, List.cons_append]
    congr 1
    · rw [List.take_take, Nat.min_eq_left (by omega)]
    · congr 1
      · rw [← sub, hd, ← List.drop_take]
      · rw [List.drop_drop, ← sub, hd]
        congr 3
        omega
termination_by ts.length
decreasing_by
  rw [List.length_drop]
  omega
theorem topT_two {ts : List Tm} {j : Nat} (h : ts.length = 2 * 2 ^ j) : topT ts = pairT (topT (ts.take (2 ^ j))) (topT (ts.drop (2 ^ j))) := by
  have p := Nat.two_pow_pos j
  rw [topT_more (by omega), h, splitN_of (by omega) (Nat.le_refl _)]
/-- the tops from the last one on -/
def foldP : List Tm → Tm
  | [] => nonT
  | [x] => x
  | x :: y :: r => pairT x (foldP (y :: r))
theorem foldP_more {x : Tm} {r : List Tm} (h : r ≠ []) : foldP (x :: r) = pairT x (foldP r) := by
  cases r with
  | nil => exact absurd rfl h
  | cons y r => rfl
theorem foldP_st (ts : List Tm) : foldP (stT ts) = topT ts := by
  by_cases h : ts.length = 0
  · rw [List.eq_nil_of_length_eq_zero h, stT_nil, topT_nil]
    rfl
  · have hle := greatN_le (show 0 < ts.length by omega)
    have hlt := greatN_lt ts.length
    have hgp := greatN_pos ts.length
    by_cases e : greatN ts.length = ts.length
    · rw [stT_pow (j := ts.length.log2) e.symm]
      rfl
    · rw [stT_more h, foldP_more, foldP_st (ts.drop (greatN ts.length)), topT_more (ts := ts) (by omega), splitN_of (i := ts.length.log2) (by show greatN ts.length < _; omega) (by show _ ≤ 2 * greatN ts.length; omega)]
      · rfl
      · intro z
        have := stT_more (ts := ts.drop (greatN ts.length)) (by rw [List.length_drop]; omega)
        rw [z] at this
        cases this
termination_by ts.length
decreasing_by
  rw [List.length_drop]
  omega
theorem foldP_drop {l : List Tm} {i : Nat} (h : i + 1 < l.length) : foldP (l.drop i) = pairT (l.getD i nonT) (foldP (l.drop (i + 1))) := by
  rw [List.drop_eq_getElem_cons (show i < l.length by omega), foldP_more, List.getD_eq_getElem?_getD, List.getElem?_eq_getElem (show i < l.length by omega)]
  · rfl
  · intro z
    have := congrArg List.length z
    rw [List.length_drop] at this
    simp at this
    omega
theorem foldP_last {l : List Tm} (h : l.length ≠ 0) : foldP (l.drop (l.length - 1)) = l.getD (l.length - 1) nonT := by
  rw [List.drop_eq_getElem_cons (show l.length - 1 < l.length by omega), show l.length - 1 + 1 = l.length by omega, List.drop_length, List.getD_eq_getElem?_getD, List.getElem?_eq_getElem (show l.length - 1 < l.length by omega)]
  rfl
theorem stT_mem {ts : List Tm} {P : Tm → Prop} (hp : ∀ us : List Tm, (∀ t ∈ us, t ∈ ts) → us.length ≤ ts.length → P (topT us)) : ∀ t ∈ stT ts, P t := by
  intro t ht
  by_cases h : ts.length = 0
  · rw [List.eq_nil_of_length_eq_zero h, stT_nil] at ht
    cases ht
  · rw [stT_more h] at ht
    have hgp := greatN_pos ts.length
    rcases List.mem_cons.mp ht with h1 | h1
    · rw [h1]
      exact hp _ (fun t h => List.mem_of_mem_take h) (by rw [List.length_take]; omega)
    · exact stT_mem (fun us hu hl => hp us (fun t h => List.mem_of_mem_drop (hu t h)) (by rw [List.length_drop] at hl; omega)) t h1
termination_by ts.length
decreasing_by
  rw [List.length_drop]
  omega

theorem DenL.snoc_inv {S : Sys} {H : Hp} {zs : List V} {ts : List Tm} {t : Tm} (h : DenL S H zs (ts ++ [t])) : ∃ y, zs[zs.length - 1]? = some y ∧ S.den H y t ∧ DenL S H zs.dropLast ts := by
  have hl := h.len
  rw [List.length_append] at hl
  have hl' : zs.length = ts.length + 1 := hl
  have e1 : zs.length - 1 < zs.length := by omega
  refine ⟨zs[zs.length - 1], List.getElem?_eq_getElem e1, h.at_ (zs.length - 1) _ _ (List.getElem?_eq_getElem e1) ?_, ?_⟩
  · rw [List.getElem?_append_right (by omega), show zs.length - 1 - ts.length = 0 by omega]
    rfl
  · have := h.take ts.length
    rwa [List.take_left' rfl, show ts.length = zs.length - 1 by omega, ← List.dropLast_eq_take] at this
/-! ### the frontier -/
def frF (f : Addr) (n : Int) (l : Addr) : List (Str × V) := [("seal", .ref f), ("many", .int n), ("tops", .ref l)]
theorem frF_seal (f : Addr) (n : Int) (l : Addr) : (frF f n l).lookup ("seal" : Str) = some (.ref f) := by kernel_rfl
theorem frF_many (f : Addr) (n : Int) (l : Addr) : (frF f n l).lookup ("many" : Str) = some (.int n) := by kernel_rfl
theorem frF_tops (f : Addr) (n : Int) (l : Addr) : (frF f n l).lookup ("tops" : Str) = some (.ref l) := by kernel_rfl
theorem frF_mk (f : Addr) (n : Int) (l : Addr) : putF "tops" (.ref l) (putF "many" (.int n) (putF "seal" (.ref f) [])) = frF f n l := by kernel_rfl
theorem frF_pt (f : Addr) (n : Int) (l l' : Addr) : putF "tops" (.ref l') (frF f n l) = frF f n l' := by kernel_rfl
theorem frF_pm (f : Addr) (n n' : Int) (l : Addr) : putF "many" (.int n') (frF f n l) = frF f n' l := by kernel_rfl
theorem frF_no1 (f : Addr) (n : Int) (l : Addr) : (frF f n l).lookup ("add" : Str) = none ∧ (frF f n l).lookup ("size" : Str) = none ∧ (frF f n l).lookup ("kept" : Str) = none ∧ (frF f n l).lookup ("top" : Str) = none := ⟨by kernel_rfl, by kernel_rfl, by kernel_rfl, by kernel_rfl⟩
def FrAt (C : Addr) (S : Sys) (H : Hp) (p : Addr) (ts : List Tm) : Prop := ∃ dx l ys, H p = some (.ins C dx (frF S.f (ts.length : Int) l)) ∧ H l = some (.lst ys) ∧ DenL S H ys (stT ts)
theorem FrAt.ext {K : PySem.W.Frag} {C : Addr} {S : Sys} (G : S.Good K) {H H' : Hp} {p : Addr} {ts : List Tm} (h : FrAt C S H p ts) (e : Ext H H') : FrAt C S H' p ts := by
  obtain ⟨dx, l, ys, h1, h2, h3⟩ := h
  exact ⟨dx, l, ys, e.ins h1, e.lst h2, h3.mono G e.gr⟩
theorem FrAt.other {K : PySem.W.Frag} {C : Addr} {S : Sys} (G : S.Good K) {H H' : Hp} {p q : Addr} {ts us : List Tm} (h : FrAt C S H p ts) (hq : FrAt C S H q us) (n : p ≠ q) (e : ExtO q H H') : FrAt C S H' p ts := by
  obtain ⟨dx, l, ys, h1, h2, h3⟩ := h
  obtain ⟨dy, m, zs, g1, _, _⟩ := hq
  exact ⟨dx, l, ys, e.ins n h1, e.lst (fun z => by rw [z, g1] at h2; cases h2) h2, h3.mono G e.gr⟩
section
variable {P : Program} {w : World} {K : PySem.W.Frag} {mg : Str → Option Value} {base : Heap} {Fam : Sys → Prop} {C : Addr}
def spFInit (C : Addr) (Fam : Sys → Prop) : Sp := fun vs H Q _ => ∃ (S : Sys) (p dx : Addr) (r : Nat), Fam S ∧ vs = [.ref p, .ref S.f] ∧ H p = some (.ins C dx []) ∧ S.ok H r ∧ ∀ H', ExtO p H H' → S.ok H' r → FrAt C S H' p [] → Q .non H'
theorem ok_finit (A : SlA P w K mg base Fam) (KF : K_Frontier K mg C) : Mak P w K mg base 1 "Frontier" C (spFInit C Fam) [] := by
  refine mak_of KF.mgC KF.made sc_Frontier___init__ (fun vs H Q E h => ?_) (fun f cdv A' outer s H vs Q E hr h => ?_)
  · obtain ⟨S, p, dx, r, _, rfl, _⟩ := h
    rfl
  obtain ⟨S, p, dx, r, hF, rfl, hp, hok, q⟩ := h
  have G := A.good hF
  refine ⟨_, (pss_cons (ps_fld (pv 0) (pv 1) rfl)
  (pss_cons (ps_fld (pv 0) pe_int rfl)
  (pss_one (ps_fld (pv 0) (pe_lst pa_nil) rfl)))), ?_⟩
  refine ⟨_, rfl, _, rfl, p, C, dx, _, rfl, hp, KF.cl, KF.n_seal, by show 0 < 1000; decide, ?_⟩
  refine ⟨_, rfl, p, C, dx, _, rfl, upd_same, KF.cl, KF.n_many, by show 1 < 1000; decide, ?_⟩
  refine ⟨by show 0 ≤ sizeLine; decide, fun l hl => ?_⟩
  have x1 := ExtO.put (o := .ins C dx (putF "seal" (.ref S.f) [])) hp
  have k1 := Kp.ins (o := .ins C dx (putF "seal" (.ref S.f) [])) hp
  generalize e1 : upd H p (.ins C dx (putF "seal" (.ref S.f) [])) = H1 at x1 k1 hl ⊢
  have h1 : H1 p = some (.ins C dx (putF "seal" (.ref S.f) [])) := by rw [← e1]; exact upd_same
  have x2 := x1.trans (ExtO.put (o := .ins C dx (putF "many" (.int 0) (putF "seal" (.ref S.f) []))) h1)
  have k2 := k1.trans (Kp.ins (o := .ins C dx (putF "many" (.int 0) (putF "seal" (.ref S.f) []))) h1)
  generalize e2 : upd H1 p (.ins C dx (putF "many" (.int 0) (putF "seal" (.ref S.f) []))) = H2 at x2 k2 hl ⊢
  have h2 : H2 p = some (.ins C dx (putF "many" (.int 0) (putF "seal" (.ref S.f) []))) := by rw [← e2]; exact upd_same
  have npl : p ≠ l := ne_of_none h2 hl
  have x3 := x2.trans (Ext.new (o := .lst []) hl).o
  have k3 := k2.trans (Kp.new (o := .lst []) hl)
  have h3 : upd H2 l (.lst []) p = some (.ins C dx (putF "many" (.int 0) (putF "seal" (.ref S.f) []))) := by rw [upd_ne npl]; exact h2
  refine ⟨_, rfl, p, C, dx, _, rfl, h3, KF.cl, KF.n_tops, by show 2 < 1000; decide, ?_⟩
  refine q _ (x3.trans (ExtO.put h3)) (G.keep (k3.trans (Kp.ins h3)) hok) ⟨dx, l, [], ?_, ?_, ?_⟩
  · rw [upd_same, frF_mk]
    rfl
  · rw [upd_ne npl.symm]
    exact upd_same
  · rw [stT_nil]
    exact DenL.nil
def spFAdd (C : Addr) (Fam : Sys → Prop) : Sp := fun vs H Q _ => ∃ (S : Sys) (p : Addr) (v : V) (ts : List Tm) (t : Tm) (r : Nat), Fam S ∧ vs = [.ref p, v] ∧ FrAt C S H p ts ∧ S.den H v t ∧ ts.length ≤ 1000 ∧ S.ok H (r + (ts.length + 1)) ∧ ∀ H', ExtO p H H' → S.ok H' r → FrAt C S H' p (ts ++ [t]) → Q .non H'
theorem ok_fadd (A : SlA P w K mg base Fam) (KF : K_Frontier K mg C) (C_pair_seal : Cal P w K mg base 2 "pair_seal" (spPair Fam) []) : Met P w K mg base 3 C "add" (spFAdd C Fam) [] := by
  refine met_of KF.cl KF.m_add sc_Frontier_add (fun vs H Q E h => ?_) (fun f cdv A' outer s H vs Q E hr h => ?_)
  · obtain ⟨S, p, v, ts, t, r, _, rfl, _⟩ := h
    rfl
  obtain ⟨S, p, v, ts, t, r, hF, rfl, ⟨dx, l, ys, hp, hl, hd⟩, hv, hlen, hok, q⟩ := h
  have G := A.good hF
  refine ⟨_, (pss_cons (ps_set (i := 2) sc_Frontier_add.nd rfl (Or.inl rfl) (pe_op op_cat (pe_fld (pv 0) rfl) (pe_lst (pa_cons (pv 1) pa_nil))))
  (pss_cons (ps_set (i := 3) sc_Frontier_add.nd rfl (Or.inl rfl) (pe_op op_add (pe_fld (pv 0) rfl) pe_int))
  (pss_cons (ps_while PassesOwn.never (pt_cmpR op_eq (pe_op op_odd (pv 3) pe_int) pe_int (nomark _)) (pss_cons (ps_set (i := 4) sc_Frontier_add.nd rfl (Or.inl rfl) (pe_bm0 PySem.F.plainAttrs_list PySem.F.slot_list_pop PySem.F.type_list_pop mt_pop (pv 2)))
  (pss_cons (ps_set (i := 5) sc_Frontier_add.nd rfl (Or.inl rfl) (pe_bm0 PySem.F.plainAttrs_list PySem.F.slot_list_pop PySem.F.type_list_pop mt_pop (pv 2)))
  (pss_cons (ps_expr (pe_bm PySem.F.plainAttrs_list PySem.F.slot_list_append PySem.F.type_list_append mt_append (pv 2) (pa_cons (pe_c C_pair_seal hr (by omega) rfl (pa_cons (pe_fld (pv 0) rfl) (pa_cons (pv 5) (pa_cons (pv 4) pa_nil)))) pa_nil)))
  (pss_one (ps_set (i := 3) sc_Frontier_add.nd rfl (Or.inl rfl) (pe_op op_shr (pv 3) pe_int)))))))
  (pss_cons (ps_fld (pv 0) (pv 2) rfl)
  (pss_one (ps_fldaug (pv 0) pe_int in_add)))))), ?_⟩
  refine ⟨_, rfl, p, C, dx, _, _, rfl, hp, KF.cl, KF.n_tops, frF_tops _ _ _, _, rfl, by show 1 ≤ sizeLine; decide, fun q1 nq1 => ?_⟩
  have x1 := Ext.new (o := .lst [v]) nq1
  have sl1 := stT_len ts
  have hdl := hd.len
  refine ⟨l, q1, ys, [v], rfl, rfl, x1.lst hl, upd_same, by rw [sizeLine_eq]; show _ + 1 ≤ _; omega, fun q2 nq2 => ?_⟩
  have x2 := x1.trans (Ext.new (o := .lst (ys ++ [v])) nq2)
  have k2 := (Kp.new (o := .lst [v]) nq1).trans (Kp.new (o := .lst (ys ++ [v])) nq2)
  have hq2 : upd (upd H q1 (.lst [v])) q2 (.lst (ys ++ [v])) q2 = some (.lst (ys ++ [v])) := upd_same
  have nq20 := x1.free nq2
  generalize upd (upd H q1 (.lst [v])) q2 (.lst (ys ++ [v])) = H2 at x2 k2 hq2 ⊢
  refine ⟨_, rfl, p, C, dx, _, _, rfl, x2.ins hp, KF.cl, KF.n_many, frF_many _ _ _, _, 1, rfl, rfl, ?_⟩
  have hul : (ts ++ [t]).length = ts.length + 1 := by rw [List.length_append]; rfl
  refine ⟨fun m σ H' => ∃ (j b : Nat) (zs : List V) (y4 y5 : Option V), b = m ∧ σ = [some (.ref p), some v, some (.ref q2), some (.int (b : Int)), y4, y5] ∧ ts.length + 1 = b * 2 ^ j ∧ Ext H H' ∧ H' q2 = some (.lst zs) ∧ S.ok H' (r + (ts.length + 1 - j)) ∧
    DenL S H' zs (stT ((ts ++ [t]).take (ts.length + 1 - 2 ^ j)) ++ [topT ((ts ++ [t]).drop (ts.length + 1 - 2 ^ j))]), ?_, ?_⟩
  · refine ⟨_, 0, ts.length + 1, ys ++ [v], none, none, rfl, rfl, by omega, x2, hq2, G.keep k2 hok, ?_⟩
    rw [show ts.length + 1 - 2 ^ 0 = ts.length by simp, List.take_left' rfl, List.drop_left' rfl, topT_one]
    exact (hd.mono G x2.gr).append (DenL.one (G.mono x2.gr hv))
  rintro m σ H3 ⟨j, b, zs, y4, y5, rfl, rfl, hb, x3, hq3, ok3, hd3⟩
  have pj := Nat.two_pow_pos j
  have b0 : b ≠ 0 := by
    rintro rfl
    omega
  have jlt : j < 2 ^ j := Nat.lt_two_pow_self
  have ble : 2 ^ j ≤ ts.length + 1 := by rw [hb]; exact Nat.le_mul_of_pos_left _ (by omega)
  refine ⟨_, rfl, b, rfl, rfl, rfl, _, rfl, ite2 (fun c => ?_) (fun c => ?_)⟩
  · have c' : ((b % 2 : Nat) : Int) = 0 := V.int.inj (of_decide_eq_true c)
    obtain ⟨c1, hc1⟩ : ∃ c1, b = 2 * (c1 + 1) := ⟨b / 2 - 1, by omega⟩
    -- the last two
    have e1 : ts.length + 1 - 2 ^ j = (2 * c1 + 1) * 2 ^ j := by rw [hb, hc1, ← Nat.sub_one_mul]; congr 1
    have e2 : (2 * c1 + 1) * 2 ^ j = 2 * c1 * 2 ^ j + 2 ^ j := by rw [Nat.add_mul, Nat.one_mul]
    have e3 : ts.length + 1 = 2 * c1 * 2 ^ j + 2 * 2 ^ j := by rw [hb, hc1, Nat.mul_add, Nat.add_mul]
    have lA : ((ts ++ [t]).take (ts.length + 1 - 2 ^ j)).length = (2 * c1 + 1) * 2 ^ j := by
      rw [List.length_take, hul]
      omega
    have hd4 := hd3
    rw [stT_last _ c1 lA] at hd4
    obtain ⟨vr, hvr, dvr, hd5⟩ := hd4.snoc_inv
    obtain ⟨vl, hvl, dvl, hd6⟩ := hd5.snoc_inv
    have hzl := hd3.len
    have hz1 := stT_len ((ts ++ [t]).take (ts.length + 1 - 2 ^ j))
    rw [lA] at hz1
    rw [List.length_append] at hzl
    have hzl' : zs.length ≤ 1002 := by
      rw [hzl]
      show _ + 1 ≤ _
      omega
    refine ⟨_, fun σ' H' h => h, ?_⟩
    refine ⟨_, rfl, .inl ⟨rfl, _, SqL.of hq3⟩, q2, zs, vr, rfl, rfl, hq3, hvr, ?_⟩
    have k4 := Kp.lst (o := .lst zs.dropLast) hq3
    have x4 := x3.mut (o := .lst zs.dropLast) nq20
    have hq4 : upd H3 q2 (.lst zs.dropLast) q2 = some (.lst zs.dropLast) := upd_same
    generalize upd H3 q2 (.lst zs.dropLast) = H4 at k4 x4 hq4 ⊢
    refine ⟨_, rfl, .inl ⟨rfl, _, SqL.of hq4⟩, q2, zs.dropLast, vl, rfl, rfl, hq4, hvl, ?_⟩
    have k5 := k4.trans (Kp.lst (o := .lst zs.dropLast.dropLast) hq4)
    have x5 := x4.mut (o := .lst zs.dropLast.dropLast) nq20
    have hq5 : upd H4 q2 (.lst zs.dropLast.dropLast) q2 = some (.lst zs.dropLast.dropLast) := upd_same
    generalize upd H4 q2 (.lst zs.dropLast.dropLast) = H5 at k5 x5 hq5 ⊢
    refine ⟨_, rfl, .inl ⟨rfl, _, SqL.of hq5⟩, ?_⟩
    refine ⟨_, rfl, p, C, dx, _, _, rfl, x5.ins hp, KF.cl, KF.n_seal, frF_seal _ _ _, _, rfl, _, rfl, S, vl, vr, _, _, r + (ts.length + 1 - (j + 1)), hF, rfl, G.less (G.keep k5 ok3) (by omega), G.mono k5.gr dvl, G.mono k5.gr dvr, fun v' H6 x6 ok6 d6 => ?_⟩
    have hq6 := x6.lst hq5
    refine ⟨q2, zs.dropLast.dropLast, v', rfl, rfl, hq6, by rw [List.length_dropLast, List.length_dropLast, sizeLine_eq]; omega, ?_⟩
    have k7 := Kp.lst (o := .lst (zs.dropLast.dropLast ++ [v'])) hq6
    have x7 := (x5.trans x6).mut (o := .lst (zs.dropLast.dropLast ++ [v'])) nq20
    refine ⟨_, rfl, _, 1, rfl, rfl, by show (0 : Int) ≤ 1; decide, ?_⟩
    have gr7 := (k5.gr.trans x6.gr).trans k7.gr
    refine ⟨c1 + 1, by omega, j + 1, c1 + 1, zs.dropLast.dropLast ++ [v'], some vr, some vl, rfl, ?_, ?_, x7, upd_same, G.keep k7 ok6, ?_⟩
    · rw [hc1]
      show [some (V.ref p), some v, some (V.ref q2), some (V.int (((2 * (c1 + 1) : Nat) : Int) / 2 ^ (1 : Int).toNat)), some vr, some vl] = _
      rw [show (((2 * (c1 + 1) : Nat) : Int) / 2 ^ (1 : Int).toNat) = ((c1 + 1 : Nat) : Int) by
        rw [show ((2 : Int) ^ (1 : Int).toNat) = 2 from rfl]
        omega]
    · rw [hb, hc1, Nat.pow_succ, Nat.mul_comm 2 (c1 + 1), Nat.mul_assoc, Nat.mul_comm 2]
    · have e5 : ts.length + 1 - 2 ^ (j + 1) = 2 * c1 * 2 ^ j := by
        rw [Nat.pow_succ]
        omega
      have lD : ((ts ++ [t]).drop (2 * c1 * 2 ^ j)).length = 2 * 2 ^ j := by
        rw [List.length_drop, hul]
        omega
      rw [e5]
      rw [e1, e2] at hd6 d6
      rw [List.take_take, Nat.min_eq_left (by omega)] at hd6
      rw [topT_two lD]
      rw [List.drop_take, Nat.add_sub_cancel_left] at d6
      rw [List.drop_drop]
      exact (hd6.mono G gr7).append (DenL.one (G.mono k7.gr d6))
  · have c' : ¬ ((b % 2 : Nat) : Int) = 0 := fun z => c (decide_eq_true (by rw [z]))
    obtain ⟨c1, hc1⟩ : ∃ c1, b = 2 * c1 + 1 := ⟨b / 2, by omega⟩
    have e1 : ts.length + 1 - 2 ^ j = 2 * c1 * 2 ^ j := by
      rw [hb, hc1, Nat.add_mul, Nat.one_mul]
      omega
    rw [e1, ← stT_last _ c1 (by rw [hul, hb, hc1])] at hd3
    have hp3 := x3.ins hp
    have k4 := Kp.ins (o := .ins C dx (frF S.f (ts.length : Int) q2)) hp3
    have x4 := ExtO.put (o := .ins C dx (frF S.f (ts.length : Int) q2)) hp3
    refine ⟨_, rfl, _, rfl, p, C, dx, _, rfl, hp3, KF.cl, KF.n_tops, by show 3 < 1000; decide, ?_⟩
    rw [frF_pt]
    have hp4 : upd H3 p (.ins C dx (frF S.f (ts.length : Int) q2)) p = some (.ins C dx (frF S.f (ts.length : Int) q2)) := upd_same
    have nqp : q2 ≠ p := fun z => by rw [z, hp3] at hq3; cases hq3
    have hq4 : upd H3 p (.ins C dx (frF S.f (ts.length : Int) q2)) q2 = some (.lst zs) := by rw [upd_ne nqp]; exact hq3
    generalize upd H3 p (.ins C dx (frF S.f (ts.length : Int) q2)) = H4 at k4 x4 hp4 hq4 ⊢
    have k5 := k4.trans (Kp.ins (o := .ins C dx (frF S.f ((ts.length : Int) + 1) q2)) hp4)
    refine ⟨_, rfl, p, C, dx, _, _, rfl, hp4, KF.cl, KF.n_many, frF_many _ _ _, _, 1, rfl, rfl, dx, _, hp4, by show 3 < 1000; decide, ?_⟩
    rw [frF_pm]
    refine q _ ((x3.o.trans x4).trans (ExtO.put hp4)) (G.less (G.keep k5 ok3) (by omega)) ⟨dx, q2, zs, ?_, ?_, hd3.mono G k5.gr⟩
    · rw [upd_same, hul]
      rfl
    · rw [upd_ne nqp]
      exact hq4
def spFSize (C : Addr) : Sp := fun vs H Q _ => ∃ (S : Sys) (p : Addr) (ts : List Tm), vs = [.ref p] ∧ FrAt C S H p ts ∧ Q (.int (ts.length : Int)) H
theorem ok_fsize (KF : K_Frontier K mg C) : Met P w K mg base 1 C "size" (spFSize C) [] := by
  refine met_of KF.cl KF.m_size sc_Frontier_size (fun vs H Q E h => ?_) (fun f cdv A' outer s H vs Q E hr h => ?_)
  · obtain ⟨S, p, ts, rfl, _⟩ := h
    rfl
  obtain ⟨S, p, ts, rfl, ⟨dx, l, ys, hp, hl, hd⟩, q⟩ := h
  refine ⟨_, (pss_one (ps_ret (pe_fld (pv 0) rfl))), ?_⟩
  exact ⟨_, rfl, p, C, dx, _, _, rfl, hp, KF.cl, KF.n_many, frF_many _ _ _, q⟩
def spFKept (C : Addr) : Sp := fun vs H Q _ => ∃ (S : Sys) (p : Addr) (ts : List Tm), vs = [.ref p] ∧ FrAt C S H p ts ∧ ∀ q ys, H q = none → DenL S H ys (stT ts) → Q (.ref q) (upd H q (.lst ys))
theorem ok_fkept {cc : Addr} (T : Txt K mg cc) (KF : K_Frontier K mg C) : Met P w K mg base 1 C "kept" (spFKept C) [] := by
  have Z := T.Z
  refine met_of KF.cl KF.m_kept sc_Frontier_kept (fun vs H Q E h => ?_) (fun f cdv A' outer s H vs Q E hr h => ?_)
  · obtain ⟨S, p, ts, rfl, _⟩ := h
    rfl
  obtain ⟨S, p, ts, rfl, ⟨dx, l, ys, hp, hl, hd⟩, q⟩ := h
  refine ⟨_, (pss_one (ps_ret (pe_callTy call_list_of rfl Z.list (by decide +kernel) (pa_cons (pe_fld (pv 0) rfl) pa_nil)))), ?_⟩
  exact ⟨_, rfl, p, C, dx, _, _, rfl, hp, KF.cl, KF.n_tops, frF_tops _ _ _, l, ys, rfl, .inl (SqL.of hl), fun p3 np3 => q p3 ys np3 hd⟩
def spFTop (C : Addr) (Fam : Sys → Prop) : Sp := fun vs H Q _ => ∃ (S : Sys) (p : Addr) (ts : List Tm) (r : Nat), Fam S ∧ vs = [.ref p] ∧ FrAt C S H p ts ∧ S.ok H (r + (ts.length + 1)) ∧ ∀ v H', Ext H H' → S.ok H' r → S.den H' v (topT ts) → Q v H'
theorem ok_ftop {cc : Addr} (T : Txt K mg cc) (A : SlA P w K mg base Fam) (KF : K_Frontier K mg C) (C_none_seal : Cal P w K mg base 2 "none_seal" (spNone Fam) []) (C_pair_seal : Cal P w K mg base 2 "pair_seal" (spPair Fam) []) : Met P w K mg base 3 C "top" (spFTop C Fam) [] := by
  have Z := T.Z
  refine met_of KF.cl KF.m_top sc_Frontier_top (fun vs H Q E h => ?_) (fun f cdv A' outer s H vs Q E hr h => ?_)
  · obtain ⟨S, p, ts, r, _, rfl, _⟩ := h
    rfl
  obtain ⟨S, p, ts, r, hF, rfl, ⟨dx, l, ys, hp, hl, hd⟩, hok, q⟩ := h
  have G := A.good hF
  refine ⟨_, (pss_cons (ps_if (pt_cmpR op_eq (pe_fld (pv 0) rfl) pe_int (nomark _)) (pss_one (ps_ret (pe_c C_none_seal hr (by omega) rfl (pa_cons (pe_fld (pv 0) rfl) pa_nil)))) pss_nil)
  (pss_cons (ps_set (i := 1) sc_Frontier_top.nd rfl (Or.inl rfl) (pe_ix ix_list (pe_fld (pv 0) rfl) (pe_op op_sub (pe_callB call_len_seq rfl Z.len PySem.boot_len (pa_cons (pe_fld (pv 0) rfl) pa_nil)) pe_int) (fun _ _ => rfl)))
  (pss_cons (ps_for PassesOwn.never rfl (pi_reversed rfl Z.reversed (pa_cons (pe_slice sl_list (pe_fld (pv 0) rfl) po_none (po_some (pe_op op_sub (pe_callB call_len_seq rfl Z.len PySem.boot_len (pa_cons (pe_fld (pv 0) rfl) pa_nil)) pe_int))) pa_nil)) (pg_name (i := 2) sc_Frontier_top.nd rfl (Or.inl rfl)) (pss_one (ps_set (i := 1) sc_Frontier_top.nd rfl (Or.inl rfl) (pe_c C_pair_seal hr (by omega) rfl (pa_cons (pe_fld (pv 0) rfl) (pa_cons (pv 2) (pa_cons (pv 1) pa_nil)))))))
  (pss_one (ps_ret (pv 1)))))), ?_⟩
  refine ⟨_, rfl, p, C, dx, _, _, rfl, hp, KF.cl, KF.n_many, frF_many _ _ _, rfl, _, rfl, ite2 (fun c => ?_) (fun c => ?_)⟩
  · have c' : (ts.length : Int) = 0 := V.int.inj (of_decide_eq_true c)
    refine ⟨_, rfl, p, C, dx, _, _, rfl, hp, KF.cl, KF.n_seal, frF_seal _ _ _, S, r, hF, rfl, G.less hok (by omega), fun v H' x ok d => q v H' x ok ?_⟩
    rw [List.eq_nil_of_length_eq_zero (show ts.length = 0 by omega), topT_nil]
    exact d
  have n0 : ts.length ≠ 0 := fun z => c (decide_eq_true (by rw [z] <;> rfl))
  have hdl := hd.len
  have sl := stT_len ts
  have sp : (stT ts).length ≠ 0 := by
    rw [stT_more n0]
    simp
  have hlast : (stT ts).length - 1 < (stT ts).length := by omega
  obtain ⟨w0, hw0, dw0⟩ := hd.get hlast
  have ei : (ys.length : Int) - 1 = (((stT ts).length - 1 : Nat) : Int) := by omega
  refine ⟨_, rfl, p, C, dx, _, _, rfl, hp, KF.cl, KF.n_tops, frF_tops _ _ _, _, rfl, p, C, dx, _, _, rfl, hp, KF.cl, KF.n_tops, frF_tops _ _ _, l, ys, rfl, .inl (SqL.of hl), _, 1, rfl, rfl, l, ys, _, w0, rfl, rfl, SqL.of hl, by rw [ei]; exact atI_nat hw0, ?_⟩
  refine ⟨_, rfl, p, C, dx, _, _, rfl, hp, KF.cl, KF.n_tops, frF_tops _ _ _, _, rfl, p, C, dx, _, _, rfl, hp, KF.cl, KF.n_tops, frF_tops _ _ _, l, ys, rfl, .inl (SqL.of hl), _, 1, rfl, rfl, (((stT ts).length - 1 : Nat) : Int), by rw [← ei], l, ys, rfl, SqL.of hl, fun p1 np1 => ?_⟩
  rw [cut_to]
  have x1 := Ext.new (o := .lst (ys.take ((stT ts).length - 1))) np1
  have ok1 := G.keep (Kp.new (o := .lst (ys.take ((stT ts).length - 1))) np1) hok
  have hp1 : upd H p1 (.lst (ys.take ((stT ts).length - 1))) p1 = some (.lst (ys.take ((stT ts).length - 1))) := upd_same
  generalize upd H p1 (.lst (ys.take ((stT ts).length - 1))) = H1 at x1 ok1 hp1 ⊢
  have tl : (ys.take ((stT ts).length - 1)).length = (stT ts).length - 1 := by
    rw [List.length_take]
    omega
  refine ⟨p1, _, rfl, SqL.of hp1, ?_⟩
  refine RT.for_Itv (K := K) (a := p1) (xs := ys.take ((stT ts).length - 1)) (fun i σ H' => ∃ (u : V) (y2 : Option V), σ = [some (.ref p), some u, y2] ∧ i ≤ (stT ts).length - 1 ∧ Ext H1 H' ∧ S.ok H' (r + (ts.length + 1 - i)) ∧ S.den H' u (foldP ((stT ts).drop ((stT ts).length - 1 - i))))
    ⟨w0, none, rfl, Nat.zero_le _, Ext.refl _, ok1, ?_⟩ (fun i σ H' ⟨_, _, _, _, x, _⟩ => SqL.of (x.lst hp1)) ?_ ?_
  · rw [Nat.sub_zero, foldP_last sp, List.getD_eq_getElem?_getD, List.getElem?_eq_getElem hlast]
    exact G.mono x1.gr dw0
  · rintro i y σ H' hi hy ⟨u, y2, rfl, hi2, x, ok, hu⟩
    rw [tl] at hi hy
    rw [List.getElem?_take_of_lt (by omega)] at hy
    have hj : (stT ts).length - 1 - 1 - i < (stT ts).length := by omega
    have hdy := hd.at_ _ _ _ hy (List.getElem?_eq_getElem hj)
    have xx := x1.trans x
    refine ⟨_, rfl, p, C, dx, _, _, rfl, xx.ins hp, KF.cl, KF.n_seal, frF_seal _ _ _, _, rfl, _, rfl, S, y, u, _, _, r + (ts.length + 1 - (i + 1)), hF, rfl, G.less ok (by omega), G.mono xx.gr hdy, hu, fun v' H'' x' ok' d' => ?_⟩
    refine ⟨v', _, rfl, by omega, x.trans x', ok', ?_⟩
    have e := foldP_drop (l := stT ts) (i := (stT ts).length - 1 - 1 - i) (by omega)
    rw [show (stT ts).length - 1 - 1 - i + 1 = (stT ts).length - 1 - i by omega, List.getD_eq_getElem?_getD, List.getElem?_eq_getElem hj] at e
    rw [show (stT ts).length - 1 - (i + 1) = (stT ts).length - 1 - 1 - i by omega, e]
    exact d'
  · rintro σ H' ⟨u, y2, rfl, _, x, ok, hu⟩
    rw [tl, Nat.sub_self, List.drop_zero, foldP_st] at hu
    exact ⟨_, rfl, q u H' (x1.trans x) (G.less ok (by omega)) hu⟩
end

/-! ### a leaf and a path come to a top, or BadPaper -/
/-- no list by its type, and none equal to the empty list -/
structure Odd (K : PySem.W.Frag) (H : Hp) (v : V) : Prop where
  ty : ∃ t, TyX K H v t ∧ PySem.W.kitOne K t (.type "list") = some false
  ne : ∃ d, Dp K H v d ∧ SeqAt.shaped d = true ∧ PyData.eqv d (.list []) = false
def spLast (K : PySem.W.Frag) (mg : Str → Option Value) : Sp := fun vs H Q E => ∃ v, vs = [v] ∧
  ((∃ a ys, v = .ref a ∧ H a = some (.lst ys) ∧ (∀ y, ys.getLast? = some y → Q y H) ∧ (ys = [] → ∀ C, mg "BadPaper" = some (.ref C) → E (.ref C) none H)) ∨
   ((∃ t, TyX K H v t ∧ PySem.W.kitOne K t (.type "list") = some false) ∧ ∀ C, mg "BadPaper" = some (.ref C) → E (.ref C) none H))
/-- the sides, as they are kept -/
structure SideL (S : Sys) (H : Hp) (vs : List V) (ss : List (Tm × Bool)) : Prop where
  len : vs.length = ss.length
  at_ : ∀ (i : Nat) (v : V) (s : Tm × Bool), vs[i]? = some v → ss[i]? = some s → ∃ q u, v = .ref q ∧ H q = some (.tup [u, .bl s.2]) ∧ S.den H u s.1
theorem SideL.nil {S : Sys} {H : Hp} : SideL S H [] [] := ⟨rfl, fun i v t a _ => by simp at a⟩
theorem SideL.mono {K : PySem.W.Frag} {S : Sys} (G : S.Good K) {H H' : Hp} {vs : List V} {ss : List (Tm × Bool)} (e : Gr H H') (h : SideL S H vs ss) : SideL S H' vs ss := by
  refine ⟨h.len, fun i v s a b => ?_⟩
  obtain ⟨q, u, rfl, h1, h2⟩ := h.at_ i v s a b
  exact ⟨q, u, rfl, e.keep _ _ h1 True.intro (fun _ z => nomatch z), G.mono e h2⟩
theorem SideL.snoc {S : Sys} {H : Hp} {vs : List V} {ss : List (Tm × Bool)} {q : Addr} {u : V} {s : Tm × Bool} (h : SideL S H vs ss) (hq : H q = some (.tup [u, .bl s.2])) (hu : S.den H u s.1) : SideL S H (vs ++ [.ref q]) (ss ++ [s]) := by
  refine ⟨by rw [List.length_append, List.length_append, h.len]; rfl, fun i v t a b => ?_⟩
  have hl := h.len
  by_cases c : i < vs.length
  · rw [List.getElem?_append_left c] at a
    rw [List.getElem?_append_left (by omega)] at b
    exact h.at_ i v t a b
  · rw [List.getElem?_append_right (by omega)] at a b
    rw [← hl] at b
    cases hj : i - vs.length with
    | zero =>
      rw [hj] at a b
      cases a
      cases b
      exact ⟨q, u, rfl, hq, hu⟩
    | succ j =>
      rw [hj] at a
      simp at a
theorem getLast_at {α : Type} {l : List α} {x : α} (h : l.getLast? = some x) : l[l.length - 1]? = some x := by
  rw [← h, List.getLast?_eq_getElem?]
section
variable {P : Program} {w : World} {K : PySem.W.Frag} {mg : Str → Option Value} {base : Heap} {Fam : Sys → Prop}
theorem ok_last {cc : Addr} (T : Txt K mg cc) : CalX P w K mg base 1 "last_of" (spLast K mg) := by
  have Z := T.Z
  obtain ⟨C_BadPaper, g_BadPaper, F_BadPaper⟩ := T.x_BadPaper.ex
  refine calX_of T.d_last_of sc_last_of (fun vs H Q E h => ?_) (fun f cdv A' outer s H vs Q E hr h => ?_)
  · obtain ⟨v, rfl, _⟩ := h
    rfl
  obtain ⟨v, rfl, h⟩ := h
  refine ⟨_, (pss_cons (ps_if (PW.pt (pw_or (pt_not (pt_val (pe_callB call_isi rfl Z.isinstance (by decide +kernel) (pa_cons (pv 0) (pa_cons (pe_bltn (v := .ty "list") rfl Z.list (by decide +kernel) rfl) pa_nil))))) (pw_or1 (pt_cmpR op_eq (pe_callB call_len_seq rfl Z.len PySem.boot_len (pa_cons (pv 0) pa_nil)) pe_int (nomark _))))) (pss_one (ps_raiseX F_BadPaper g_BadPaper rfl (takes_of rfl rfl rfl rfl) rfl)) pss_nil)
  (pss_one (ps_ret (pe_ix ix_list (pv 0) (pe_op op_sub (pe_callB call_len_seq rfl Z.len PySem.boot_len (pa_cons (pv 0) pa_nil)) pe_int) (fun _ _ => rfl))))), ?_⟩
  rcases h with ⟨a, ys, rfl, ha, q1, q2⟩ | ⟨⟨t, hty, hk⟩, q⟩
  · refine ⟨_, rfl, .ref a, .ty "list", _, _, true, rfl, .ty "list", .base (.lst ha), kit_ty (by decide +kernel), true, rfl, ?_⟩
    refine ⟨_, rfl, a, ys, rfl, .inl (SqL.of ha), rfl, _, rfl, ite2 (fun c => ?_) (fun c => ?_)⟩
    · have c' : (ys.length : Int) = 0 := V.int.inj (of_decide_eq_true c)
      exact q2 (List.eq_nil_of_length_eq_zero (by omega)) _ g_BadPaper
    · have c' : ys.length ≠ 0 := fun z => c (decide_eq_true (by rw [z] <;> rfl))
      obtain ⟨y, hy⟩ : ∃ y, ys.getLast? = some y := by
        cases hl : ys.getLast? with
        | none => rw [List.getLast?_eq_none_iff] at hl; rw [hl] at c'; exact absurd rfl c'
        | some y => exact ⟨y, rfl⟩
      refine ⟨_, rfl, _, rfl, a, ys, rfl, .inl (SqL.of ha), _, 1, rfl, rfl, a, ys, _, y, rfl, rfl, SqL.of ha, ?_, q1 y hy⟩
      rw [show (ys.length : Int) - 1 = ((ys.length - 1 : Nat) : Int) by omega, atI_nat]
      exact getLast_at hy
  · exact ⟨_, rfl, v, .ty "list", _, _, false, rfl, .ty "list", hty, hk, false, rfl, q _ g_BadPaper⟩
theorem splitN_log {n L : Nat} (h : 2 ≤ n) (hl : n.log2 ≤ L) : (splitN n).log2 ≤ L ∧ (n - splitN n).log2 ≤ L := by
  have h1 := splitN_lt h
  have h2 := splitN_pos n
  refine ⟨?_, ?_⟩
  · have h3 : splitN n < 2 ^ (L + 1) := Nat.lt_trans h1 ((Nat.log2_lt (by omega)).mp (by omega))
    exact Nat.le_of_lt_succ ((Nat.log2_lt (by omega)).mpr h3)
  · by_cases e : n - splitN n = 0
    · rw [e]; exact Nat.zero_le _
    · have h3 : n - splitN n < 2 ^ (L + 1) := Nat.lt_of_le_of_lt (Nat.sub_le _ _) ((Nat.log2_lt (by omega)).mp (by omega))
      exact Nat.le_of_lt_succ ((Nat.log2_lt e).mpr h3)
theorem eqv_cons_nil {d : PyData} {ds : List PyData} : PyData.eqv (.list (d :: ds)) (.list []) = false := rfl
theorem DenL.odd {S : Sys} (G : S.Good K) {H : Hp} {a p : Addr} {ys : List V} {ts : List Tm} (ha : SqL K H a ys) (hp : SqL K H p []) (h : DenL S H ys ts) (hd : ∀ t ∈ ts, t.dep ≤ 60) :
    ∃ d e, Dp K H (.ref a) d ∧ Dp K H (.ref p) e ∧ SeqAt.shaped d = true ∧ SeqAt.shaped e = true ∧ PyData.eqv d e = decide (ts.length = 0) := by
  obtain ⟨ds, a1, b, c, e⟩ := DenL.same G h h hd
  have c' : (PyData.list ds).canLay0 = true := c
  refine ⟨.list ds, .list [], .lst ha a1, .lst hp .nil, shaped_of c' (by show PyData.depthAll ds + 1 ≤ 64; omega), by decide +kernel, ?_⟩
  cases a1 with
  | nil =>
    rw [decide_eq_true (show ts.length = 0 from h.len.symm)]
    rfl
  | cons _ _ =>
    rw [decide_eq_false (show ts.length ≠ 0 from fun z => by rw [← h.len] at z; cases z), eqv_cons_nil]
end

def OddT (K : PySem.W.Frag) (H : Hp) (v : V) : Prop := ∃ t, TyX K H v t ∧ PySem.W.kitOne K t (.type "list") = some false
/-- no list; where it is compared, data, too -/
def OddW (K : PySem.W.Frag) (H : Hp) (c : Prop) (v : V) : Prop := (∀ H', Ext H H' → Odd K H' v) ∨ (c ∧ ∀ H', Ext H H' → OddT K H' v)
theorem OddW.ty {K : PySem.W.Frag} {H H' : Hp} {c : Prop} {v : V} (h : OddW K H c v) (x : Ext H H') : OddT K H' v := h.elim (fun h => (h H' x).ty) fun h => h.2 H' x
theorem OddW.ext {K : PySem.W.Frag} {H H' : Hp} {c : Prop} {v : V} (h : OddW K H c v) (x : Ext H H') : OddW K H' c v := h.imp (fun h H2 x2 => h H2 (x.trans x2)) fun h => ⟨h.1, fun H2 x2 => h.2 H2 (x.trans x2)⟩
theorem OddW.ne {K : PySem.W.Frag} {H H' : Hp} {c : Prop} {v : V} (h : OddW K H c v) (n : ¬ c) (x : Ext H H') : ∃ d, Dp K H' v d ∧ SeqAt.shaped d = true ∧ PyData.eqv d (.list []) = false := h.elim (fun h => (h H' x).ne) fun h => absurd h.1 n
def spRisen (K : PySem.W.Frag) (mg : Str → Option Value) (Fam : Sys → Prop) : Sp := fun vs H Q E => ∃ (S : Sys) (leaf : V) (lt : Tm) (place n : Nat) (v : V) (r : Nat), Fam S ∧ vs = [.ref S.f, leaf, .int (place : Int), .int (n : Int), v] ∧ S.den H leaf lt ∧ place < n ∧ n.log2 ≤ 1000 ∧ S.ok H (r + plen place n) ∧
  ((∃ a ys ts, v = .ref a ∧ H a = some (.lst ys) ∧ DenL S H ys ts ∧ ts.length ≤ 100000 ∧ (∀ t ∈ ts, t.dep ≤ 60) ∧
      (ts.length = plen place n → ∀ u H', Ext H H' → S.ok H' r → S.den H' u (riseT lt (sidesT place n ts)) → Q u H') ∧
      (ts.length ≠ plen place n → ∀ C H', mg "BadPaper" = some (.ref C) → Ext H H' → S.ok H' r → E (.ref C) none H')) ∨
   (OddW K H (2 ≤ n) v ∧ ∀ C H', mg "BadPaper" = some (.ref C) → Ext H H' → S.ok H' r → E (.ref C) none H'))
section
variable {P : Program} {w : World} {K : PySem.W.Frag} {mg : Str → Option Value} {base : Heap} {Fam : Sys → Prop}
theorem ok_risen {cc : Addr} (T : Txt K mg cc) (A : SlA P w K mg base Fam) (C_last_of : CalX P w K mg base 1 "last_of" (spLast K mg)) (C_split : Cal P w K mg base 1 "split" spSplit []) (C_pair_seal : Cal P w K mg base 2 "pair_seal" (spPair Fam) []) : CalX P w K mg base 3 "risen" (spRisen K mg Fam) := by
  have Z := T.Z
  obtain ⟨C_BadPaper, g_BadPaper, F_BadPaper⟩ := T.x_BadPaper.ex
  refine calX_of T.d_risen sc_risen (fun vs H Q E h => ?_) (fun f cdv A' outer s H vs Q E hr h => ?_)
  · obtain ⟨S, leaf, lt, place, n, v, r, _, rfl, _⟩ := h
    rfl
  obtain ⟨S, leaf, lt, place, n, v, r, hF, rfl, hleaf, hpn, hlog, hok, h⟩ := h
  have G := A.good hF
  refine ⟨_, (pss_cons (ps_par (i := 5) (j := 6) rfl sc_risen.nd rfl rfl (by decide) rfl rfl (pa_cons (pv 4) (pa_cons (pe_lst pa_nil) pa_nil)) (by rfl))
  (pss_cons (ps_while (passes_of rfl) (pt_cmpR op_gt (pv 3) pe_int (nomark _)) (pss_cons (ps_set (i := 7) sc_risen.nd rfl (Or.inl rfl) (pe_cx C_last_of (takes_of rfl rfl rfl rfl) hr (by omega) rfl (pa_cons (pv 5) pa_nil)))
  (pss_cons (ps_set (i := 5) sc_risen.nd rfl (Or.inl rfl) (pe_slice sl_list (pv 5) po_none (po_some (pe_op op_sub (pe_callB call_len_seq rfl Z.len PySem.boot_len (pa_cons (pv 5) pa_nil)) pe_int))))
  (pss_cons (ps_set (i := 8) sc_risen.nd rfl (Or.inl rfl) (pe_c C_split hr (by omega) rfl (pa_cons (pv 3) pa_nil)))
  (pss_cons (ps_expr (pe_bm PySem.F.plainAttrs_list PySem.F.slot_list_append PySem.F.type_list_append mt_append (pv 6) (pa_cons (pe_tup (pa_cons (pv 7) (pa_cons (pe_cmpR op_lt (pv 2) (pv 8) (nomark _)) pa_nil))) pa_nil)))
  (pss_one (ps_if (pt_cmpR op_lt (pv 2) (pv 8) (nomark _)) (pss_one (ps_set (i := 3) sc_risen.nd rfl (Or.inl rfl) (pv 8))) (pss_one (ps_par (i := 2) (j := 3) rfl sc_risen.nd rfl rfl (by decide) rfl rfl (pa_cons (pe_op op_sub (pv 2) (pv 8)) (pa_cons (pe_op op_sub (pv 3) (pv 8)) pa_nil)) (by rfl))))))))))
  (pss_cons (ps_if (pt_cmpR (op_neD hr.units) (pv 5) (pe_lst pa_nil) (nomark _)) (pss_one (ps_raiseX F_BadPaper g_BadPaper rfl (takes_of rfl rfl rfl rfl) rfl)) pss_nil)
  (pss_cons (ps_set (i := 9) sc_risen.nd rfl (Or.inl rfl) (pv 1))
  (pss_cons (ps_for (passes_of rfl) rfl (pi_list (pe_revL (pv 6))) (pg_tup rfl (pgs_cons (pg_name (i := 7) sc_risen.nd rfl (Or.inl rfl)) (pgs_cons (pg_name (i := 10) sc_risen.nd rfl (Or.inl rfl)) pgs_nil))) (pss_one (ps_set (i := 9) sc_risen.nd rfl (Or.inl rfl) (pe_ifExp (pt_val (pv 10)) (pe_c C_pair_seal hr (by omega) rfl (pa_cons (pv 0) (pa_cons (pv 9) (pa_cons (pv 7) pa_nil)))) (pe_c C_pair_seal hr (by omega) rfl (pa_cons (pv 0) (pa_cons (pv 7) (pa_cons (pv 9) pa_nil))))))))
  (pss_one (ps_ret (pv 9)))))))), ?_⟩
  refine ⟨_, rfl, by show 0 ≤ sizeLine; decide, fun p hp => ⟨_, _, rfl, fun m σ H' => ∃ (place' n' : Nat) (w' : V) (ss : List (Tm × Bool)) (ssv : List V) (y7 y8 : Option V), n' = m ∧ σ = [some (.ref S.f), some leaf, some (.int (place' : Int)), some (.int (n' : Int)), some v, some w', some (.ref p), y7, y8, none, none] ∧
    Ext H H' ∧ S.ok H' (r + plen place n) ∧ H' p = some (.lst ssv) ∧ SideL S H' ssv ss ∧ place' < n' ∧ n'.log2 ≤ 1000 ∧ ss.length ≤ 100000 ∧ plen place' n' + ss.length = plen place n ∧
    ((∃ b ys ts, w' = .ref b ∧ H' b = some (.lst ys) ∧ b ≠ p ∧ DenL S H' ys ts ∧ ts.length + ss.length ≤ 100000 ∧ (∀ t ∈ ts, t.dep ≤ 60) ∧
      (ts.length = plen place' n' → ∀ u H', Ext H H' → S.ok H' r → S.den H' u (riseT lt (ss ++ sidesT place' n' ts)) → Q u H') ∧
      (ts.length ≠ plen place' n' → ∀ C H', mg "BadPaper" = some (.ref C) → Ext H H' → S.ok H' r → E (.ref C) none H')) ∨
     (ss = [] ∧ OddW K H (2 ≤ n') w' ∧ ∀ C H', mg "BadPaper" = some (.ref C) → Ext H H' → S.ok H' r → E (.ref C) none H')), ?_, ?_⟩⟩
  · refine ⟨n, place, n, v, [], [], none, none, rfl, rfl, Ext.new hp, G.keep (Kp.new hp) hok, upd_same, .nil, hpn, hlog, Nat.zero_le _, rfl, ?_⟩
    rcases h with ⟨a, ys, ts, rfl, ha, hd, hl, hdep, q1, q2⟩ | ⟨o, q⟩
    · exact .inl ⟨a, ys, ts, rfl, by rw [upd_ne (ne_of_none ha hp)]; exact ha, ne_of_none ha hp, hd.mono G (Kp.new hp).gr, hl, hdep, q1, q2⟩
    · exact .inr ⟨rfl, o, q⟩
  rintro m σ H1 ⟨place', n', w', ss, ssv, y7, y8, rfl, rfl, x1, ok1, hp1, hss, hlt, hlog', hsl, hpl, hw⟩
  refine ⟨_, rfl, _, 1, rfl, rfl, _, rfl, ite2 (fun c => ?_) (fun c => ?_)⟩
  · have c' : 1 < (n' : Int) := of_decide_eq_true c
    have h2 : 2 ≤ n' := by omega
    have hs1 := splitN_lt h2
    have hs2 := splitN_pos n'
    obtain ⟨lg1, lg2⟩ := splitN_log h2 hlog'
    refine ⟨_, fun σ' H' h => h, ?_⟩
    refine ⟨_, rfl, w', rfl, ?_⟩
    rcases hw with ⟨b, ys, ts, rfl, hb, hbp, hd, hl, hdep, q1, q2⟩ | ⟨rfl, o, q⟩
    · refine .inl ⟨b, ys, rfl, hb, fun y hy => ?_, fun e C hC => ?_⟩
      · have hy' := getLast_at hy
        have hlen := hd.len
        obtain ⟨t, ht⟩ : ∃ t, ts[ys.length - 1]? = some t := ⟨ts[ys.length - 1]'(by have := (List.getElem?_eq_some_iff.mp hy').1; omega), List.getElem?_eq_getElem _⟩
        have hyt := hd.at_ _ _ _ hy' ht
        have hpos : 0 < ts.length := by have := (List.getElem?_eq_some_iff.mp ht).1; omega
        refine ⟨_, rfl, _, rfl, b, ys, rfl, .inl (SqL.of hb), _, 1, rfl, rfl, ((ys.length - 1 : Nat) : Int), ?_, b, ys, rfl, SqL.of hb, fun p1 np1 => ?_⟩
        · rw [show ((ys.length - 1 : Nat) : Int) = (ys.length : Int) - 1 by omega]
        rw [cut_to]
        have y1 := Ext.new (o := .lst (ys.take (ys.length - 1))) np1
        have k1 := Kp.new (o := .lst (ys.take (ys.length - 1))) np1
        refine ⟨_, rfl, n', rfl, h2, by omega, ?_⟩
        have np1p : p1 ≠ p := fun z => by rw [z, hp1] at np1; cases np1
        refine ⟨_, rfl, .inl ⟨rfl, ssv, SqL.of (by rw [upd_ne np1p.symm]; exact hp1)⟩, _, rfl, _, rfl, _, rfl, _, _, rfl, rfl, by show 2 ≤ sizeLine; decide, fun q hq => ?_⟩
        have npq : q ≠ p := fun z => by rw [z, upd_ne np1p.symm, hp1] at hq; cases hq
        have z1 : (upd (upd H1 p1 (.lst (ys.take (ys.length - 1)))) q (.tup [y, .bl (decide ((place' : Int) < ((splitN n' : Nat) : Int)))])) p = some (.lst ssv) := by rw [upd_ne npq.symm, upd_ne np1p.symm]; exact hp1
        have y2 := y1.trans (Ext.new (o := .tup [y, .bl (decide ((place' : Int) < ((splitN n' : Nat) : Int)))]) hq)
        have k2 := k1.trans (Kp.new (o := .tup [y, .bl (decide ((place' : Int) < ((splitN n' : Nat) : Int)))]) hq)
        have z2 : (upd (upd H1 p1 (.lst (ys.take (ys.length - 1)))) q (.tup [y, .bl (decide ((place' : Int) < ((splitN n' : Nat) : Int)))])) q = some (.tup [y, .bl (decide ((place' : Int) < ((splitN n' : Nat) : Int)))]) := upd_same
        have z3 : (upd (upd H1 p1 (.lst (ys.take (ys.length - 1)))) q (.tup [y, .bl (decide ((place' : Int) < ((splitN n' : Nat) : Int)))])) p1 = some (.lst (ys.take (ys.length - 1))) := by rw [upd_ne (ne_of_none upd_same hq)]; exact upd_same
        generalize upd (upd H1 p1 (.lst (ys.take (ys.length - 1)))) q (.tup [y, .bl (decide ((place' : Int) < ((splitN n' : Nat) : Int)))]) = H2 at y2 k2 z1 z2 z3 ⊢
        have hsl2 := hss.len
        refine ⟨p, ssv, _, rfl, rfl, z1, by rw [hsl2, sizeLine_eq]; omega, ?_⟩
        have k3 : Kp H2 (upd H2 p (.lst (ssv ++ [.ref q]))) := Kp.lst z1
        have x3 : Ext H (upd H2 p (.lst (ssv ++ [.ref q]))) := (x1.trans y2).mut hp
        have z4 : (upd H2 p (.lst (ssv ++ [.ref q]))) p1 = some (.lst (ys.take (ys.length - 1))) := by rw [upd_ne np1p]; exact z3
        have z5 : (upd H2 p (.lst (ssv ++ [.ref q]))) q = some (.tup [y, .bl (decide ((place' : Int) < ((splitN n' : Nat) : Int)))]) := by rw [upd_ne npq]; exact z2
        have ok3 := G.keep (k2.trans k3) ok1
        have gr3 := (k2.trans k3).gr
        refine ⟨_, rfl, _, rfl, _, _, rfl, rfl, _, rfl, ite2 (fun c2 => ?_) (fun c2 => ?_)⟩
        · have c2' : (place' : Int) < ((splitN n' : Nat) : Int) := of_decide_eq_true c2
          have el : ts.getLastD nonT = t := by
            rw [List.getLastD_eq_getLast?, List.getLast?_eq_getElem?, ← hlen, ht]
            rfl
          have esd : sidesT place' n' ts = (t, true) :: sidesT place' (splitN n') ts.dropLast := by rw [sidesT_low h2 (by omega), el]
          have epl := plen_low (place := place') h2 (by omega)
          refine ⟨_, rfl, ?_⟩
          refine ⟨splitN n', hs1, place', splitN n', .ref p1, ss ++ [(t, true)], ssv ++ [.ref q], _, _, rfl, rfl, x3, ok3, upd_same, (hss.mono G gr3).snoc (by rw [z5, decide_eq_true c2'] ) (G.mono gr3 hyt), by omega, lg1, by rw [List.length_append]; show ss.length + 1 ≤ _; omega, by rw [List.length_append]; show plen place' (splitN n') + (ss.length + 1) = _; omega, .inl ⟨p1, _, ts.dropLast, rfl, z4, np1p, ?_, ?_, fun t ht => hdep t (List.dropLast_subset _ ht), fun el2 => ?_, fun el2 => q2 ?_⟩⟩
          · have := (hd.take (ts.length - 1)).mono G gr3
            rwa [← List.dropLast_eq_take, ← hlen] at this
          · rw [List.length_dropLast, List.length_append]
            show _ + (ss.length + 1) ≤ _
            omega
          · rw [List.length_dropLast] at el2
            have := q1 (by omega)
            rw [esd] at this
            rw [List.append_assoc]
            exact this
          · rw [List.length_dropLast] at el2
            omega
        · have c2' : ¬ (place' : Int) < ((splitN n' : Nat) : Int) := of_decide_eq_false (Bool.eq_false_iff.mpr c2)
          have el : ts.getLastD nonT = t := by
            rw [List.getLastD_eq_getLast?, List.getLast?_eq_getElem?, ← hlen, ht]
            rfl
          have esd : sidesT place' n' ts = (t, false) :: sidesT (place' - splitN n') (n' - splitN n') ts.dropLast := by rw [sidesT_high h2 (by omega), el]
          have epl := plen_high (place := place') h2 (by omega)
          refine ⟨_, rfl, _, rfl, _, _, rfl, rfl, _, rfl, _, rfl, _, _, rfl, rfl, _, _, rfl, ?_⟩
          refine ⟨n' - splitN n', by omega, place' - splitN n', n' - splitN n', .ref p1, ss ++ [(t, false)], ssv ++ [.ref q], some y, some (.int ((splitN n' : Nat) : Int)), rfl, ?_, x3, ok3, upd_same, (hss.mono G gr3).snoc (by rw [z5, decide_eq_false c2'] ) (G.mono gr3 hyt), by omega, lg2, by rw [List.length_append]; show ss.length + 1 ≤ _; omega, by rw [List.length_append]; show plen (place' - splitN n') (n' - splitN n') + (ss.length + 1) = _; omega, .inl ⟨p1, _, ts.dropLast, rfl, z4, np1p, ?_, ?_, fun t ht => hdep t (List.dropLast_subset _ ht), fun el2 => ?_, fun el2 => q2 ?_⟩⟩
          · rw [show ((place' - splitN n' : Nat) : Int) = (place' : Int) - ((splitN n' : Nat) : Int) by omega, show ((n' - splitN n' : Nat) : Int) = (n' : Int) - ((splitN n' : Nat) : Int) by omega]
            rfl
          · have := (hd.take (ts.length - 1)).mono G gr3
            rwa [← List.dropLast_eq_take, ← hlen] at this
          · rw [List.length_dropLast, List.length_append]
            show _ + (ss.length + 1) ≤ _
            omega
          · rw [List.length_dropLast] at el2
            have := q1 (by omega)
            rw [esd] at this
            rw [List.append_assoc]
            exact this
          · rw [List.length_dropLast] at el2
            omega
      · refine q2 ?_ C H1 hC x1 (G.less ok1 (by omega))
        have hlen := hd.len
        rw [e] at hlen
        have : plen place' n' ≠ 0 := by
          by_cases hp : place' < splitN n'
          · rw [plen_low h2 hp]
            omega
          · rw [plen_high h2 hp]
            omega
        rw [← hlen]
        exact this.symm
    · exact .inr ⟨o.ty x1, fun C hC => q C H1 hC x1 (G.less ok1 (by omega))⟩
  · have c' : ¬ 1 < (n' : Int) := of_decide_eq_false (Bool.eq_false_iff.mpr c)
    have pz : plen place' n' = 0 := plen_one (by omega)
    refine ⟨_, rfl, by show 0 ≤ sizeLine; decide, fun p2 hp2 => ?_⟩
    have x2 := x1.trans (Ext.new (o := .lst []) hp2)
    have k2 := Kp.new (o := .lst []) hp2
    rcases hw with ⟨b, ys, ts, rfl, hb, hbp, hd, hl, hdep, q1, q2⟩ | ⟨rfl, o, q⟩
    · obtain ⟨d, e, a1, a2, a3, a4, a5⟩ := (hd.mono G k2.gr).odd (K := K) G (a := b) (p := p2) (SqL.of (by rw [upd_ne (ne_of_none hb hp2)]; exact hb)) (SqL.of upd_same) hdep
      refine ⟨d, e, a1, a2, a3, a4, _, rfl, ?_⟩
      rw [a5]
      by_cases hz : ts.length = 0
      · rw [decide_eq_true hz]
        refine ⟨_, rfl, ?_⟩
        have x4 : Ext H (upd H1 p2 (.lst [])) := x2
        have hp4 : (upd H1 p2 (.lst [])) p = some (.lst ssv) := by rw [upd_ne (ne_of_none hp1 hp2)]; exact hp1
        have ok4 := G.keep k2 ok1
        have hss4 := hss.mono G k2.gr
        refine ⟨_, rfl, p, ssv, rfl, SqL.of hp4, fun p3 np3 => ⟨p3, rfl, ⟨_, SqL.of upd_same⟩, ?_⟩⟩
        have x5 := x4.trans (Ext.new (o := .lst ssv.reverse) np3)
        have k5 := Kp.new (o := .lst ssv.reverse) np3
        have hp5 : (upd (upd H1 p2 (.lst [])) p3 (.lst ssv.reverse)) p3 = some (.lst ssv.reverse) := upd_same
        have ok5 := G.keep k5 ok4
        have hss5 := hss4.mono G k5.gr
        have hleaf5 := G.mono x5.gr hleaf
        generalize upd (upd H1 p2 (.lst [])) p3 (.lst ssv.reverse) = H5 at x5 hp5 ok5 hss5 hleaf5 ⊢
        have hsl2 := hss.len
        refine for_list (K := K) (a := p3) (xs := ssv.reverse) (fun i σ H' => ∃ (u : V) (z7 z8 z10 : Option V), σ = [some (.ref S.f), some leaf, some (.int (place' : Int)), some (.int (n' : Int)), some v, some (.ref b), some (.ref p), z7, z8, some u, z10] ∧ Ext H5 H' ∧ S.ok H' (r + (ss.length - i)) ∧ S.den H' u (riseT lt (ss.drop (ss.length - i))))
          ⟨leaf, _, _, _, rfl, Ext.refl _, G.less ok5 (by omega), by rw [Nat.sub_zero, List.drop_length]; exact hleaf5⟩ (fun i σ H' _ ⟨_, _, _, _, _, x, _⟩ => SqL.of (x.lst hp5)) ?_ ?_
        · rintro i y σ H' hi ⟨u, z7, z8, z10, rfl, x, ok, hu⟩
          have hlt := (List.getElem?_eq_some_iff.mp hi).1
          rw [List.length_reverse] at hlt
          rw [List.getElem?_reverse hlt] at hi
          have hj : ssv.length - 1 - i < ss.length := by omega
          obtain ⟨q, a, rfl, hq, ha⟩ := (hss5.mono G x.gr).at_ _ y (ss[ssv.length - 1 - i]) hi (List.getElem?_eq_getElem hj)
          have ed : ss.drop (ss.length - (i + 1)) = ss[ssv.length - 1 - i] :: ss.drop (ss.length - i) := by
            rw [show ss.length - (i + 1) = ssv.length - 1 - i by omega, List.drop_eq_getElem_cons hj, show ssv.length - 1 - i + 1 = ss.length - i by omega]
          refine ⟨q, _, rfl, SqT.of hq, rfl, ?_⟩
          rw [ed, riseT_cons]
          generalize ss[ssv.length - 1 - i] = sd at hq ha ⊢
          obtain ⟨st, sb⟩ := sd
          refine ⟨_, _, rfl, _, _, rfl, rfl, ?_⟩
          refine ⟨_, rfl, _, rfl, ?_⟩
          cases sb with
          | true =>
            refine iteT ?_
            refine ⟨_, rfl, _, rfl, _, rfl, S, u, a, _, _, r + (ss.length - (i + 1)), hF, rfl, G.less ok (by omega), hu, ha, fun v' H'' x' ok' d' => ?_⟩
            exact ⟨v', _, _, _, rfl, x.trans x', ok', d'⟩
          | false =>
            refine iteF ?_
            refine ⟨_, rfl, _, rfl, _, rfl, S, a, u, _, _, r + (ss.length - (i + 1)), hF, rfl, G.less ok (by omega), ha, hu, fun v' H'' x' ok' d' => ?_⟩
            exact ⟨v', _, _, _, rfl, x.trans x', ok', d'⟩
        · rintro σ H6 ⟨u, z7, z8, z10, rfl, x6, ok6, hu⟩
          rw [List.length_reverse, hsl2, Nat.sub_self] at hu
          refine ⟨u, rfl, q1 (by omega) u H6 (x5.trans x6) (G.less ok6 (by omega)) ?_⟩
          rw [sidesT_one (by omega), List.append_nil]
          exact hu
      · rw [decide_eq_false hz]
        exact q2 (by omega) _ _ g_BadPaper x2 (G.less (G.keep k2 ok1) (by omega))
    · obtain ⟨d, a1, a2, a3⟩ := o.ne (by omega) x2
      refine ⟨d, .list [], a1, .lst (SqL.of upd_same) .nil, a2, by decide +kernel, _, rfl, ?_⟩
      rw [a3]
      exact q _ _ g_BadPaper x2 (G.less (G.keep k2 ok1) (by omega))
end

/-! ### a leaf comes to the top by the right path alone -/
theorem pairT_inj {a b c d : Tm} (h : pairT a b = pairT c d) : a = c ∧ b = d := by
  unfold pairT at h
  exact ⟨(Tm.sl.inj h).2.1, (Tm.sl.inj h).2.2⟩
theorem last_split {α : Type} {l : List α} {d : α} (h : l.length ≠ 0) : l = l.dropLast ++ [l.getLastD d] := by
  rcases List.eq_nil_or_concat l with e | ⟨l', x, e⟩
  · rw [e] at h
    exact absurd rfl h
  · rw [e, List.concat_eq_append, getLastD_concat, List.dropLast_concat]
theorem rise_inj (L : Tm) (us : List Tm) (place : Nat) (ps : List Tm) (h : place < us.length) (hl : ps.length = plen place us.length) : riseT L (sidesT place us.length ps) = topT us ↔ (L = us.getD place nonT ∧ ps = pathT us place) := by
  by_cases h2 : us.length < 2
  · rw [plen_one h2] at hl
    rw [sidesT_one h2, topT_single (by omega), pathT_one h2, show place = 0 by omega, List.eq_nil_of_length_eq_zero hl]
    show L = _ ↔ _
    simp
  · have hs := splitN_lt (n := us.length) (by omega)
    have hs0 := splitN_pos us.length
    have e1 : (us.take (splitN us.length)).length = splitN us.length := by
      rw [List.length_take]
      omega
    have e2 : (us.drop (splitN us.length)).length = us.length - splitN us.length := List.length_drop
    by_cases hp : place < splitN us.length
    · rw [plen_low (by omega) hp] at hl
      have hps := last_split (l := ps) (d := nonT) (by omega)
      have ih := rise_inj L (us.take (splitN us.length)) place ps.dropLast (by omega) (by rw [List.length_dropLast, e1]; omega)
      rw [e1] at ih
      have eg : (us.take (splitN us.length)).getD place nonT = us.getD place nonT := by
        rw [List.getD_eq_getElem?_getD, List.getD_eq_getElem?_getD, List.getElem?_take_of_lt hp]
      rw [eg] at ih
      rw [sidesT_low (by omega) hp, riseT_cons, topT_more (ts := us) (by omega), pathT_low (by omega) hp]
      show pairT _ _ = pairT _ _ ↔ _
      constructor
      · intro q
        obtain ⟨q1, q2⟩ := pairT_inj q
        obtain ⟨q3, q4⟩ := ih.mp q1
        refine ⟨q3, ?_⟩
        rw [hps, q4]
        exact congrArg (fun z => pathT (us.take (splitN us.length)) place ++ [z]) q2
      · rintro ⟨q1, q2⟩
        have q3 : ps.dropLast = pathT (us.take (splitN us.length)) place := by rw [q2, List.dropLast_concat]
        have q4 : ps.getLastD nonT = topT (us.drop (splitN us.length)) := by rw [q2, getLastD_concat]
        rw [ih.mpr ⟨q1, q3⟩, q4]
    · rw [plen_high (by omega) hp] at hl
      have hps := last_split (l := ps) (d := nonT) (by omega)
      have ih := rise_inj L (us.drop (splitN us.length)) (place - splitN us.length) ps.dropLast (by omega) (by rw [List.length_dropLast, e2]; omega)
      rw [e2] at ih
      have eg : (us.drop (splitN us.length)).getD (place - splitN us.length) nonT = us.getD place nonT := by
        rw [List.getD_eq_getElem?_getD, List.getD_eq_getElem?_getD, List.getElem?_drop, show splitN us.length + (place - splitN us.length) = place by omega]
      rw [eg] at ih
      rw [sidesT_high (by omega) hp, riseT_cons, topT_more (ts := us) (by omega), pathT_high (by omega) hp]
      show pairT _ _ = pairT _ _ ↔ _
      constructor
      · intro q
        obtain ⟨q1, q2⟩ := pairT_inj q
        obtain ⟨q3, q4⟩ := ih.mp q2
        refine ⟨q3, ?_⟩
        rw [hps, q4]
        exact congrArg (fun z => pathT (us.drop (splitN us.length)) (place - splitN us.length) ++ [z]) q1
      · rintro ⟨q1, q2⟩
        have q3 : ps.dropLast = pathT (us.drop (splitN us.length)) (place - splitN us.length) := by rw [q2, List.dropLast_concat]
        have q4 : ps.getLastD nonT = topT (us.take (splitN us.length)) := by rw [q2, getLastD_concat]
        rw [ih.mpr ⟨q1, q3⟩, q4]
termination_by us.length
decreasing_by
  · rw [List.length_take]; omega
  · rw [List.length_drop]; omega
theorem riseT_ws {L : Tm} {ss : List (Tm × Bool)} (hL : WS L) (h : ∀ s ∈ ss, WS s.1) : WS (riseT L ss) := by
  induction ss with
  | nil => exact hL
  | cons s ss ih =>
    have i := ih fun s hs => h s (List.mem_cons_of_mem _ hs)
    have j := h s List.mem_cons_self
    rw [riseT_cons]
    unfold stepT
    split
    · exact .pair i j
    · exact .pair j i
theorem riseT_dep {L : Tm} {ss : List (Tm × Bool)} {n : Nat} (hL : L.dep ≤ n) (h : ∀ s ∈ ss, s.1.dep ≤ n) : (riseT L ss).dep ≤ n + ss.length := by
  induction ss with
  | nil => exact hL
  | cons s ss ih =>
    have i := ih fun s hs => h s (List.mem_cons_of_mem _ hs)
    have j := h s List.mem_cons_self
    rw [riseT_cons, List.length_cons]
    unfold stepT
    split
    · show max _ _ + 1 ≤ _
      omega
    · show max _ _ + 1 ≤ _
      omega
theorem sidesT_mem {place n : Nat} {ps : List Tm} (hl : ps.length = plen place n) : ∀ s ∈ sidesT place n ps, s.1 ∈ ps := by
  by_cases h2 : n < 2
  · rw [sidesT_one h2]
    intro s hs
    cases hs
  · have hs := splitN_lt (n := n) (by omega)
    have hs0 := splitN_pos n
    have lastin : ps.length ≠ 0 → ps.getLastD nonT ∈ ps := fun z => by
      have := last_split (l := ps) (d := nonT) z
      rw [this]
      rw [getLastD_concat]
      exact List.mem_append_right _ (List.mem_singleton.mpr rfl)
    by_cases hp : place < splitN n
    · rw [plen_low (by omega) hp] at hl
      rw [sidesT_low (by omega) hp]
      intro s hs
      rcases List.mem_cons.mp hs with e | e
      · rw [e]
        exact lastin (by omega)
      · exact List.dropLast_subset _ (sidesT_mem (by rw [List.length_dropLast]; omega) s e)
    · rw [plen_high (by omega) hp] at hl
      rw [sidesT_high (by omega) hp]
      intro s hs
      rcases List.mem_cons.mp hs with e | e
      · rw [e]
        exact lastin (by omega)
      · exact List.dropLast_subset _ (sidesT_mem (by rw [List.length_dropLast]; omega) s e)
termination_by n

/-! ### a growth comes to both tops -/
def glen (old n : Nat) : Nat :=
  if h : old < n ∧ 0 < old then if old ≤ splitN n then glen old (splitN n) + 1 else glen (old - splitN n) (n - splitN n) + 1 else 1
termination_by n
decreasing_by
  · exact splitN_lt (by omega)
  · have := splitN_pos n
    omega
theorem glen_all {n : Nat} : glen n n = 1 := by rw [glen, dif_neg (by omega)]
theorem glen_low {old n : Nat} (h0 : 0 < old) (h1 : old < n) (h : old ≤ splitN n) : glen old n = glen old (splitN n) + 1 := by rw [glen, dif_pos ⟨h1, h0⟩, if_pos h]
theorem glen_high {old n : Nat} (h0 : 0 < old) (h1 : old < n) (h : ¬ old ≤ splitN n) : glen old n = glen (old - splitN n) (n - splitN n) + 1 := by rw [glen, dif_pos ⟨h1, h0⟩, if_neg h]
theorem glen_le : ∀ (k old n : Nat), n ≤ 2 ^ k → glen old n ≤ k + 1
  | k, old, n, h => by
    by_cases h2 : old < n ∧ 0 < old
    · obtain ⟨h1, h0⟩ := h2
      cases k with
      | zero => simp at h; omega
      | succ k =>
        obtain ⟨a, b⟩ := splitN_le_pow (show 2 ≤ n by omega) h
        by_cases hp : old ≤ splitN n
        · rw [glen_low h0 h1 hp]
          have := glen_le k old (splitN n) a
          omega
        · rw [glen_high h0 h1 hp]
          have := glen_le k (old - splitN n) (n - splitN n) b
          omega
    · rw [glen, dif_neg h2]
      omega
theorem glen_pos (old n : Nat) : 0 < glen old n := by
  rw [glen]
  split
  · split <;> omega
  · omega
def regT (old n : Nat) (ps : List Tm) : Tm × Tm :=
  if h : old < n ∧ 0 < old then
    if old ≤ splitN n then ((regT old (splitN n) ps.dropLast).1, pairT (regT old (splitN n) ps.dropLast).2 (ps.getLastD nonT))
    else (pairT (ps.getLastD nonT) (regT (old - splitN n) (n - splitN n) ps.dropLast).1, pairT (ps.getLastD nonT) (regT (old - splitN n) (n - splitN n) ps.dropLast).2)
  else (ps.getLastD nonT, ps.getLastD nonT)
termination_by n
decreasing_by
  all_goals first | exact splitN_lt (by omega) | (have := splitN_pos n; omega)
theorem regT_all {n : Nat} {ps : List Tm} : regT n n ps = (ps.getLastD nonT, ps.getLastD nonT) := by rw [regT, dif_neg (by omega)]
theorem regT_low {old n : Nat} {ps : List Tm} (h0 : 0 < old) (h1 : old < n) (h : old ≤ splitN n) : regT old n ps = ((regT old (splitN n) ps.dropLast).1, pairT (regT old (splitN n) ps.dropLast).2 (ps.getLastD nonT)) := by
  rw [regT, dif_pos ⟨h1, h0⟩, if_pos h]
theorem regT_high {old n : Nat} {ps : List Tm} (h0 : 0 < old) (h1 : old < n) (h : ¬ old ≤ splitN n) : regT old n ps = (pairT (ps.getLastD nonT) (regT (old - splitN n) (n - splitN n) ps.dropLast).1, pairT (ps.getLastD nonT) (regT (old - splitN n) (n - splitN n) ps.dropLast).2) := by
  rw [regT, dif_pos ⟨h1, h0⟩, if_neg h]
theorem growT_glen {us : List Tm} {old : Nat} (h0 : 0 < old) (h1 : old ≤ us.length) : (growT us old).length = glen old us.length := by
  by_cases e : old = us.length
  · subst e
    rw [growT_all (by omega), glen_all]
    rfl
  · have hs := splitN_lt (n := us.length) (by omega)
    have hs0 := splitN_pos us.length
    have e1 : (us.take (splitN us.length)).length = splitN us.length := by
      rw [List.length_take]
      omega
    have e2 : (us.drop (splitN us.length)).length = us.length - splitN us.length := List.length_drop
    by_cases hp : old ≤ splitN us.length
    · rw [growT_low h0 (by omega) hp, glen_low h0 (by omega) hp, List.length_append, growT_glen h0 (by omega), e1]
      rfl
    · rw [growT_high h0 (by omega) hp, glen_high h0 (by omega) hp, List.length_append, growT_glen (by omega) (by omega), e2]
      rfl
termination_by us.length
decreasing_by
  · rw [List.length_take]; omega
  · rw [List.length_drop]; omega
/-- by the right growth: both tops -/
theorem reg_grow {us : List Tm} {old : Nat} (h0 : 0 < old) (h1 : old ≤ us.length) : regT old us.length (growT us old) = (topT (us.take old), topT us) := by
  by_cases e : old = us.length
  · subst e
    rw [growT_all (by omega), regT_all, List.take_length]
    rfl
  · have hs := splitN_lt (n := us.length) (by omega)
    have hs0 := splitN_pos us.length
    have hg := splitN_ge (n := us.length) (by omega)
    have e1 : (us.take (splitN us.length)).length = splitN us.length := by
      rw [List.length_take]
      omega
    have e2 : (us.drop (splitN us.length)).length = us.length - splitN us.length := List.length_drop
    by_cases hp : old ≤ splitN us.length
    · rw [growT_low h0 (by omega) hp, regT_low h0 (by omega) hp, List.dropLast_concat, getLastD_concat]
      have ih := reg_grow (us := us.take (splitN us.length)) h0 (by omega)
      rw [e1, List.take_take, Nat.min_eq_left hp] at ih
      rw [ih, topT_more (ts := us) (by omega)]
    · rw [growT_high h0 (by omega) hp, regT_high h0 (by omega) hp, List.dropLast_concat, getLastD_concat]
      have ih := reg_grow (us := us.drop (splitN us.length)) (old := old - splitN us.length) (by omega) (by omega)
      rw [e2] at ih
      have lo : (us.take old).length = old := by
        rw [List.length_take]
        omega
      have so : splitN old = splitN us.length := splitN_of (i := (us.length - 1).log2) (by show splitN us.length < old; omega) (by show old ≤ 2 * splitN us.length; omega)
      rw [ih, topT_more (ts := us) (by omega), topT_more (ts := us.take old) (by omega), lo, so, List.take_take, Nat.min_eq_left (by omega), List.drop_take]
termination_by us.length
decreasing_by
  · rw [List.length_take]; omega
  · rw [List.length_drop]; omega
/-- the new top is the row's by the right growth alone -/
theorem reg_inj (us : List Tm) (old : Nat) (ps : List Tm) (h0 : 0 < old) (h1 : old ≤ us.length) (hl : ps.length = glen old us.length) (h : (regT old us.length ps).2 = topT us) : ps = growT us old := by
  have hps := last_split (l := ps) (d := nonT) (by have := glen_pos old us.length; omega)
  by_cases e : old = us.length
  · subst e
    rw [growT_all (by omega)]
    rw [regT_all] at h
    rw [glen_all] at hl
    have : ps.dropLast = [] := List.eq_nil_of_length_eq_zero (by rw [List.length_dropLast]; omega)
    rw [hps, this]
    exact congrArg (fun z => [z]) h
  · have hs := splitN_lt (n := us.length) (by omega)
    have hs0 := splitN_pos us.length
    have e1 : (us.take (splitN us.length)).length = splitN us.length := by
      rw [List.length_take]
      omega
    have e2 : (us.drop (splitN us.length)).length = us.length - splitN us.length := List.length_drop
    by_cases hp : old ≤ splitN us.length
    · rw [regT_low h0 (by omega) hp, topT_more (ts := us) (by omega)] at h
      rw [glen_low h0 (by omega) hp] at hl
      obtain ⟨q1, q2⟩ := pairT_inj h
      have ih := reg_inj (us.take (splitN us.length)) old ps.dropLast h0 (by omega) (by rw [List.length_dropLast, e1]; omega) (by rw [e1]; exact q1)
      rw [growT_low h0 (by omega) hp, ← ih, ← q2]
      exact hps
    · rw [regT_high h0 (by omega) hp, topT_more (ts := us) (by omega)] at h
      rw [glen_high h0 (by omega) hp] at hl
      obtain ⟨q1, q2⟩ := pairT_inj h
      have ih := reg_inj (us.drop (splitN us.length)) (old - splitN us.length) ps.dropLast (by omega) (by omega) (by rw [List.length_dropLast, e2]; omega) (by rw [e2]; exact q2)
      rw [growT_high h0 (by omega) hp, ← ih, ← q1]
      exact hps
termination_by us.length
decreasing_by
  · rw [List.length_take]; omega
  · rw [List.length_drop]; omega
theorem reg_ws {old n : Nat} {ps : List Tm} (hl : ps.length = glen old n) (h : ∀ t ∈ ps, WS t) : WS (regT old n ps).1 ∧ WS (regT old n ps).2 := by
  have hin : ps.getLastD nonT ∈ ps := by
    have := last_split (l := ps) (d := nonT) (by have := glen_pos old n; omega)
    rw [this, getLastD_concat]
    exact List.mem_append_right _ (List.mem_singleton.mpr rfl)
  have hd : ∀ t ∈ ps.dropLast, WS t := fun t ht => h t (List.dropLast_subset _ ht)
  by_cases e : old < n ∧ 0 < old
  · obtain ⟨h1, h0⟩ := e
    have hs := splitN_lt (n := n) (by omega)
    have hs0 := splitN_pos n
    by_cases hp : old ≤ splitN n
    · rw [glen_low h0 h1 hp] at hl
      rw [regT_low h0 h1 hp]
      obtain ⟨a, b⟩ := reg_ws (old := old) (n := splitN n) (ps := ps.dropLast) (by rw [List.length_dropLast]; omega) hd
      exact ⟨a, .pair b (h _ hin)⟩
    · rw [glen_high h0 h1 hp] at hl
      rw [regT_high h0 h1 hp]
      obtain ⟨a, b⟩ := reg_ws (old := old - splitN n) (n := n - splitN n) (ps := ps.dropLast) (by rw [List.length_dropLast]; omega) hd
      exact ⟨.pair (h _ hin) a, .pair (h _ hin) b⟩
  · rw [regT, dif_neg e]
    exact ⟨h _ hin, h _ hin⟩
termination_by n
theorem reg_dep {d old n : Nat} {ps : List Tm} (hl : ps.length = glen old n) (h : ∀ t ∈ ps, t.dep ≤ d) : (regT old n ps).1.dep ≤ d + ps.length ∧ (regT old n ps).2.dep ≤ d + ps.length := by
  have hin : ps.getLastD nonT ∈ ps := by
    have := last_split (l := ps) (d := nonT) (by have := glen_pos old n; omega)
    rw [this, getLastD_concat]
    exact List.mem_append_right _ (List.mem_singleton.mpr rfl)
  have hd : ∀ t ∈ ps.dropLast, t.dep ≤ d := fun t ht => h t (List.dropLast_subset _ ht)
  have hi := h _ hin
  by_cases e : old < n ∧ 0 < old
  · obtain ⟨h1, h0⟩ := e
    have hs := splitN_lt (n := n) (by omega)
    have hs0 := splitN_pos n
    by_cases hp : old ≤ splitN n
    · rw [glen_low h0 h1 hp] at hl
      rw [regT_low h0 h1 hp]
      obtain ⟨a, b⟩ := reg_dep (d := d) (old := old) (n := splitN n) (ps := ps.dropLast) (by rw [List.length_dropLast]; omega) hd
      rw [List.length_dropLast] at a b
      exact ⟨Nat.le_trans a (by omega), by show max _ _ + 1 ≤ _; omega⟩
    · rw [glen_high h0 h1 hp] at hl
      rw [regT_high h0 h1 hp]
      obtain ⟨a, b⟩ := reg_dep (d := d) (old := old - splitN n) (n := n - splitN n) (ps := ps.dropLast) (by rw [List.length_dropLast]; omega) hd
      rw [List.length_dropLast] at a b
      exact ⟨by show max _ _ + 1 ≤ _; omega, by show max _ _ + 1 ≤ _; omega⟩
  · rw [regT, dif_neg e]
    exact ⟨Nat.le_trans hi (by omega), Nat.le_trans hi (by omega)⟩
termination_by n

/-! ### list(reversed(a list)) -/
section
variable {prog : Program} {w : World} {A : Around} {E : Value → Shared → Prop} {s : Shared}
theorem list_rev {it l : Addr} {items : Array Value} {Q : Value → Shared → Prop} (hh : A.handled = none) (hit : s.heap.IsRevIter it l ((items.size : Int) - 1)) (hl : s.heap.IsList l items) (hne : l ≠ it) (hn : items.size ≤ sizeLine)
    (hQ : ∀ (h' : Heap) (tk : Nat) (acc : Array Value) (c : Nat), (∀ b o, b ≠ it → s.heap.get? b = some o → h'.get? b = some o) → h'.get? s.heap.objs.size = some { cls := .type "list", dict := none, data := .seq acc c, slots := #[] } → ItemsOf (fun i v => items[items.size - 1 - i]? = some v) acc items.size → Q (.ref s.heap.objs.size) { s with heap := h', toks := tk }) :
    wpAny (model prog w) A (call (.type "list") [.ref it]) Q E s := by
  have W := (Walks.listRev (prog := prog) (w := w) (A := A.in1.in1) hh it l hne items).toS
  obtain ⟨oi, hoi, _⟩ := id hit
  obtain ⟨ol, hol, _⟩ := id hl
  have hSi : s.heap.objs.size ≠ it := Nat.ne_of_gt (Heap.lt_size hoi)
  have hSl : s.heap.objs.size ≠ l := Nat.ne_of_gt (Heap.lt_size hol)
  have hSf : s.heap.objs.size ∉ [it, l] := by simp only [List.mem_cons, List.not_mem_nil, or_false, not_or]; exact ⟨hSi, hSl⟩
  refine callType_codes (Q₁ := fun obj s₁ => obj = .ref s.heap.objs.size ∧ s₁ = { s with heap := s.heap.push { cls := .type "list", data := .seq #[] } }) F.called_list (F.typeCall_list_1 _) F.entry_list_init
    (code_list_new _ ⟨rfl, rfl⟩) fun obj s₁ h₁ => ?_
  obtain ⟨rfl, rfl⟩ := h₁
  have hS : (s.heap.push { cls := .type "list", data := .seq #[] }).get? s.heap.objs.size = some { cls := .type "list", data := .seq #[] } := Heap.get?_push_size _ rfl
  refine ⟨⟨_, hS, rfl⟩, F.args_list_init_2 _ _, ?_⟩
  show wpAny _ A.in1.in1 (do let old ← Builtin.List.listItems (.ref s.heap.objs.size); Builtin.List.listUpdate (.ref s.heap.objs.size) (fun _ => #[]); letGo old.toList.reverse; Builtin.List.listExtendWith (.ref s.heap.objs.size) (.ref it) .none) _ _ _
  refine wpAny_bind ?_
  unfold Builtin.List.listItems
  refine wpAny_bind (wpAny_seqItems hS rfl (wpAny_pure ?_))
  show wpAny _ A.in1.in1 (updateSeq s.heap.objs.size (fun _ => #[]) >>= fun _ => letGo (#[] : Array Value).toList.reverse >>= fun _ => Builtin.List.listExtendWith (.ref s.heap.objs.size) (.ref it) .none) _ _ _
  refine wpAny_bind (wpAny_updateSeq hS rfl ?_)
  have hS2 := Heap.get?_update_self (Obj.mapSeq (fun _ => (#[] : Array Value))) hS rfl
  refine wpAny_bind (wpAny_letGo ?_)
  have up : ∀ (h : Heap) (f : Obj → Obj), (∀ b o, s.heap.get? b = some o → h.get? b = some o) → ∀ b o, s.heap.get? b = some o → (h.update s.heap.objs.size f).get? b = some o := fun h f q b o e =>
    (Heap.get?_update_other _ _ (Ne.symm (Nat.ne_of_lt (Heap.lt_size e)))).trans (q b o e)
  have k1 : ∀ b o, s.heap.get? b = some o → (s.heap.push { cls := .type "list", data := .seq #[] }).get? b = some o := fun b o e => Heap.get?_push_of_some _ e
  have k2 := up _ (Obj.mapSeq (fun _ => (#[] : Array Value))) k1
  generalize ((s.heap.push { cls := .type "list", data := .seq #[] }).update s.heap.objs.size (Obj.mapSeq (fun _ => (#[] : Array Value)))) = h2 at hS2 k2 ⊢
  have hit1 : h2.IsRevIter it l ((items.size : Int) - 1) := hit.at fun o e => k2 _ _ e
  have hl1 : h2.IsList l items := by
    obtain ⟨o, ho, q⟩ := id hl
    exact ⟨o, k2 _ _ ho, q⟩
  have hT : ({ s with heap := h2 } : Shared).TypeIs (.ref it) "list_reverseiterator" := Heap.IsRevIter.typeIs (s := { s with heap := h2 }) hit1
  have h1 : Builtin.List.listSameRef (.ref s.heap.objs.size) (.ref it) = false := by simp [Builtin.List.listSameRef, hSi]
  unfold Builtin.List.listExtendWith
  refine wpAny_bind (wpAny_typeOf hT ?_)
  rw [if_neg (by rw [h1]; decide)]
  refine wpAny_bind (wpAny_pyIter_revIter (s := { s with heap := h2 }) hit1 ?_)
  refine wpAny_bind (wpAny_holding ?_)
  unfold Builtin.List.listLengthHint
  refine wpAny_bind (wpAny_specialOf hT RT.nolen_lri ?_)
  show wpAny _ A.in1.in1 (specialOf (Value.ref it) (Str.ofString "__length_hint__") >>= _) _ _ _
  refine wpAny_bind (wpAny_specialOf hT RT.hint_lri ?_)
  generalize hid : ("list_reverseiterator.__length_hint__" : String) = id0
  wp_delta
  rw [show splitId id0 = some ("list_reverseiterator", "__length_hint__") from by subst hid; decide +kernel]
  subst hid
  refine wpAny_bind (wpAny_isInstance (b := true) hT (by rw [isSubtype_type]; kernel_rfl) ?_)
  refine wpAny_pure ?_
  rw [if_neg (by decide)]
  have e0 : ((items.size : Nat) : Int) - 1 - ((0 : Nat) : Int) = (items.size : Int) - 1 := by omega
  refine wpAny_pure ⟨plainId_quiet F.plain_extend_loop _, codeAny_extend_loopS W hn _ hSf _ items.size 0 _ _ _ rfl (Nat.zero_le _) ⟨Nat.zero_le _, by rw [e0]; exact hit1, hl1⟩ hS2 (ItemsOf.nil _) fun s' acc' c' hm hS' hacc => ?_⟩
  rw [Moved.eq_with hm]
  refine ⟨rfl, hQ s'.heap s'.toks acc' c' (fun b o hb e => hm.heap b o (fun hmem => ?_) (k2 _ _ e)) hS' hacc⟩
  rcases List.mem_cons.mp hmem with e' | hmem
  · exact absurd (Heap.lt_size e) (by rw [e']; exact Nat.lt_irrefl _)
  · exact hb (List.mem_singleton.mp hmem)
end
section
variable {X : Cx}
def tLstRev (K : PySem.W.Frag) (te : TE) : TE := fun σ H Q => te σ H fun v H1 => ∃ (a : Addr) (xs : List V), v = .ref a ∧ SqL K H1 a xs ∧ ∀ q, H1 q = none → Q (.ref q) (upd H1 q (.lst xs.reverse))
theorem pe_lstRev {e : Expr} {te : TE} {p p2 pos pos2 : Pos} (hc : X.calm = true) (hg : Gl X "list") (hm : X.mg "list" = none) (hg2 : Gl X "reversed") (hm2 : X.mg "reversed" = none) (he : PE X e te)
    (hs : starEach [e] X.env = (false, eval e X.env) :: starEach [] X.env := by rfl)
    (hs2 : starEach [.Call (.Name "reversed" p2) [e] [] pos2] X.env = (false, eval (.Call (.Name "reversed" p2) [e] [] pos2) X.env) :: starEach [] X.env := by rfl) :
    PE X (.Call (.Name "list" p) [.Call (.Name "reversed" p2) [e] [] pos2] [] pos) (tLstRev X.K te) := by
  refine ⟨fun pins s σ H Q I h => ?_⟩
  refine Call_ (ld_blt I hg hm boot_list (PyProof.Rows.callWith_type1 (args_cons (Call_ (ld_blt I hg2 hm2 PyProof.Rows.boot_reversed (PyProof.Rows.callWith_type1 (args_cons (thn (he.run pins s σ H _ I h) fun u s1 ⟨v, H1, I1, r1, q1⟩ => args_nil ?_) hs) hs rfl))) hs2) hs2 rfl))
  obtain ⟨a, xs, ev, hq, q⟩ := q1
  subst ev
  obtain rfl : u = Value.ref a := r1
  obtain ⟨its, rv, p', hz⟩ := I1.list hq
  refine call_reversed_list p'.isList (args_nil ?_)
  have hl := p'.isList
  obtain ⟨ol, hol, _⟩ := id hl
  have hne : a ≠ s1.heap.objs.size := Nat.ne_of_lt (Heap.lt_size hol)
  have hn : its.toArray.size ≤ sizeLine := by rw [List.size_toArray, ← rv.length]; exact hz
  refine list_rev (s := { s1 with heap := s1.heap.push (revObj a ((its.toArray.size : Int) - 1)) }) (I1.ok.hd hc) ⟨_, Heap.get?_push_size _ rfl, rfl, rfl⟩ (hl.push _) hne hn fun h' tk acc c hk hS hi => ?_
  have ext : ∀ b o, s1.heap.get? b = some o → h'.get? b = some o := fun b o e => hk b o (Nat.ne_of_lt (Heap.lt_size e)) (Heap.get?_push_of_some _ e)
  refine ⟨.ref _, upd H1 (s1.heap.push (revObj a ((its.toArray.size : Int) - 1))).objs.size (.lst xs.reverse), I1.laid (t' := tk) ext (Nat.le_of_lt (by simp [Heap.push])) (show ObjOk X.prog X.w _ _ _ (.lst xs.reverse) from ⟨by rw [List.length_reverse]; exact hz, acc.toList, c, RT.vals_rev rv hi, ?_⟩), rfl, q _ (I1.hok.fresh (Nat.le_of_lt (by simp [Heap.push])))⟩
  exact hS
end

/-! ### regrown -/
def gsides (old n : Nat) (ps : List Tm) : List (Tm × Bool) :=
  if h : old < n ∧ 0 < old then
    if old ≤ splitN n then (ps.getLastD nonT, true) :: gsides old (splitN n) ps.dropLast
    else (ps.getLastD nonT, false) :: gsides (old - splitN n) (n - splitN n) ps.dropLast
  else []
termination_by n
decreasing_by
  all_goals first | exact splitN_lt (by omega) | (have := splitN_pos n; omega)
def gb (old n : Nat) (ps : List Tm) : Tm :=
  if h : old < n ∧ 0 < old then
    if old ≤ splitN n then gb old (splitN n) ps.dropLast
    else gb (old - splitN n) (n - splitN n) ps.dropLast
  else ps.getLastD nonT
termination_by n
decreasing_by
  all_goals first | exact splitN_lt (by omega) | (have := splitN_pos n; omega)
theorem gs_all {n : Nat} {ps : List Tm} : gsides n n ps = [] ∧ gb n n ps = ps.getLastD nonT := ⟨by rw [gsides, dif_neg (by omega)], by rw [gb, dif_neg (by omega)]⟩
theorem gs_low {old n : Nat} {ps : List Tm} (h0 : 0 < old) (h1 : old < n) (h : old ≤ splitN n) : gsides old n ps = (ps.getLastD nonT, true) :: gsides old (splitN n) ps.dropLast ∧ gb old n ps = gb old (splitN n) ps.dropLast :=
  ⟨by rw [gsides, dif_pos ⟨h1, h0⟩, if_pos h], by rw [gb, dif_pos ⟨h1, h0⟩, if_pos h]⟩
theorem gs_high {old n : Nat} {ps : List Tm} (h0 : 0 < old) (h1 : old < n) (h : ¬ old ≤ splitN n) : gsides old n ps = (ps.getLastD nonT, false) :: gsides (old - splitN n) (n - splitN n) ps.dropLast ∧ gb old n ps = gb (old - splitN n) (n - splitN n) ps.dropLast :=
  ⟨by rw [gsides, dif_pos ⟨h1, h0⟩, if_neg h], by rw [gb, dif_pos ⟨h1, h0⟩, if_neg h]⟩
def stepO (s : Tm × Bool) (t : Tm) : Tm := if s.2 = true then t else pairT s.1 t
theorem regT_fold (old n : Nat) (ps : List Tm) : regT old n ps = ((gsides old n ps).foldr stepO (gb old n ps), (gsides old n ps).foldr stepT (gb old n ps)) := by
  by_cases e : old < n ∧ 0 < old
  · obtain ⟨h1, h0⟩ := e
    have hs := splitN_lt (n := n) (by omega)
    have hs0 := splitN_pos n
    by_cases hp : old ≤ splitN n
    · rw [regT_low h0 h1 hp, (gs_low h0 h1 hp).1, (gs_low h0 h1 hp).2, regT_fold old (splitN n)]
      rfl
    · rw [regT_high h0 h1 hp, (gs_high h0 h1 hp).1, (gs_high h0 h1 hp).2, regT_fold (old - splitN n) (n - splitN n)]
      rfl
  · rw [regT, dif_neg e, gsides, dif_neg e, gb, dif_neg e]
    rfl
termination_by n
theorem gsides_len {old n : Nat} (ps : List Tm) : (gsides old n ps).length + 1 = glen old n := by
  by_cases e : old < n ∧ 0 < old
  · obtain ⟨h1, h0⟩ := e
    have hs := splitN_lt (n := n) (by omega)
    have hs0 := splitN_pos n
    by_cases hp : old ≤ splitN n
    · rw [(gs_low h0 h1 hp).1, glen_low h0 h1 hp, List.length_cons, gsides_len]
    · rw [(gs_high h0 h1 hp).1, glen_high h0 h1 hp, List.length_cons, gsides_len]
  · rw [gsides, dif_neg e, glen, dif_neg e]
    rfl
termination_by n
def spRegrown (K : PySem.W.Frag) (mg : Str → Option Value) (Fam : Sys → Prop) : Sp := fun vs H Q E => ∃ (S : Sys) (old n : Nat) (v : V) (r : Nat), Fam S ∧ vs = [.ref S.f, .int (old : Int), .int (n : Int), v] ∧ 0 < old ∧ old ≤ n ∧ n ≤ 1000 ∧ S.ok H (r + 2 * glen old n) ∧
  ((∃ a ys ts, v = .ref a ∧ H a = some (.lst ys) ∧ DenL S H ys ts ∧ ts.length ≤ 100000 ∧
      (ts.length = glen old n → ∀ q va vb H', Ext H H' → S.ok H' r → H' q = some (.tup [va, vb]) → S.den H' va (regT old n ts).1 → S.den H' vb (regT old n ts).2 → Q (.ref q) H') ∧
      (ts.length ≠ glen old n → ∀ C H', mg "BadPaper" = some (.ref C) → Ext H H' → S.ok H' r → E (.ref C) none H')) ∨
   ((∃ t, TyX K H v t ∧ PySem.W.kitOne K t (.type "list") = some false) ∧ ∀ C H', mg "BadPaper" = some (.ref C) → Ext H H' → S.ok H' r → E (.ref C) none H'))
section
variable {P : Program} {w : World} {K : PySem.W.Frag} {mg : Str → Option Value} {base : Heap} {Fam : Sys → Prop}
theorem ok_regrown {cc : Addr} (T : Txt K mg cc) (A : SlA P w K mg base Fam) (C_last_of : CalX P w K mg base 1 "last_of" (spLast K mg)) (C_split : Cal P w K mg base 1 "split" spSplit []) (C_pair_seal : Cal P w K mg base 2 "pair_seal" (spPair Fam) []) : CalX P w K mg base 3 "regrown" (spRegrown K mg Fam) := by
  have Z := T.Z
  obtain ⟨C_BadPaper, g_BadPaper, F_BadPaper⟩ := T.x_BadPaper.ex
  refine calX_of T.d_regrown sc_regrown (fun vs H Q E h => ?_) (fun f cdv A' outer s H vs Q E hr h => ?_)
  · obtain ⟨S, old, n, v, r, _, rfl, _⟩ := h
    rfl
  obtain ⟨S, old, n, v, r, hF, rfl, ho0, hon, hn, hok, h⟩ := h
  have G := A.good hF
  have e16 : sizeLine = 16777216 := sizeLine_eq
  refine ⟨_, (pss_cons (ps_set (i := 4) sc_regrown.nd rfl (Or.inl rfl) (pe_cx C_last_of (takes_of rfl rfl rfl rfl) hr (by omega) rfl (pa_cons (pv 3) pa_nil)))
  (pss_cons (ps_par (i := 5) (j := 6) rfl sc_regrown.nd rfl rfl (by decide) rfl rfl (pa_cons (pe_slice sl_list (pv 3) po_none (po_some (pe_op op_sub (pe_callB call_len_seq rfl Z.len PySem.boot_len (pa_cons (pv 3) pa_nil)) pe_int))) (pa_cons (pe_lst pa_nil) pa_nil)) (by rfl))
  (pss_cons (ps_while (passes_of rfl) (pt_cmpR op_ne (pv 1) (pv 2) (nomark _)) (pss_cons (ps_set (i := 7) sc_regrown.nd rfl (Or.inl rfl) (pe_c C_split hr (by omega) rfl (pa_cons (pv 2) pa_nil)))
  (pss_cons (ps_expr (pe_bm PySem.F.plainAttrs_list PySem.F.slot_list_append PySem.F.type_list_append mt_append (pv 6) (pa_cons (pe_tup (pa_cons (pv 4) (pa_cons (pe_cmpR op_le (pv 1) (pv 7) (nomark _)) pa_nil))) pa_nil)))
  (pss_cons (ps_if (pt_cmpR op_le (pv 1) (pv 7) (nomark _)) (pss_one (ps_set (i := 2) sc_regrown.nd rfl (Or.inl rfl) (pv 7))) (pss_one (ps_par (i := 1) (j := 2) rfl sc_regrown.nd rfl rfl (by decide) rfl rfl (pa_cons (pe_op op_sub (pv 1) (pv 7)) (pa_cons (pe_op op_sub (pv 2) (pv 7)) pa_nil)) (by rfl))))
  (pss_cons (ps_set (i := 4) sc_regrown.nd rfl (Or.inl rfl) (pe_cx C_last_of (takes_of rfl rfl rfl rfl) hr (by omega) rfl (pa_cons (pv 5) pa_nil)))
  (pss_one (ps_set (i := 5) sc_regrown.nd rfl (Or.inl rfl) (pe_slice sl_list (pv 5) po_none (po_some (pe_op op_sub (pe_callB call_len_seq rfl Z.len PySem.boot_len (pa_cons (pv 5) pa_nil)) pe_int))))))))))
  (pss_cons (ps_if (pt_cmpR op_gt (pe_callB call_len_seq rfl Z.len PySem.boot_len (pa_cons (pv 5) pa_nil)) pe_int (nomark _)) (pss_one (ps_raiseX F_BadPaper g_BadPaper rfl (takes_of rfl rfl rfl rfl) rfl)) pss_nil)
  (pss_cons (ps_par (i := 8) (j := 9) rfl sc_regrown.nd rfl rfl (by decide) rfl rfl (pa_cons (pv 4) (pa_cons (pv 4) pa_nil)) (by rfl))
  (pss_cons (ps_for (passes_of rfl) rfl (pi_list (pe_revL (pv 6))) (pg_tup rfl (pgs_cons (pg_name (i := 4) sc_regrown.nd rfl (Or.inl rfl)) (pgs_cons (pg_name (i := 10) sc_regrown.nd rfl (Or.inl rfl)) pgs_nil))) (pss_cons (ps_if (pt_not (pt_val (pv 10))) (pss_one (ps_set (i := 8) sc_regrown.nd rfl (Or.inl rfl) (pe_c C_pair_seal hr (by omega) rfl (pa_cons (pv 0) (pa_cons (pv 4) (pa_cons (pv 8) pa_nil)))))) pss_nil)
  (pss_one (ps_set (i := 9) sc_regrown.nd rfl (Or.inl rfl) (pe_ifExp (pt_val (pv 10)) (pe_c C_pair_seal hr (by omega) rfl (pa_cons (pv 0) (pa_cons (pv 9) (pa_cons (pv 4) pa_nil)))) (pe_c C_pair_seal hr (by omega) rfl (pa_cons (pv 0) (pa_cons (pv 4) (pa_cons (pv 9) pa_nil)))))))))
  (pss_one (ps_ret (pe_tup (pa_cons (pv 8) (pa_cons (pv 9) pa_nil))))))))))), ?_⟩
  rcases h with ⟨a, ys, ts, rfl, ha, hd, hl, q1, q2⟩ | ⟨o, q⟩
  case inr => exact ⟨_, rfl, v, rfl, .inr ⟨o, fun C hC => q C H hC (Ext.refl _) (G.less hok (by omega))⟩⟩
  have hlen := hd.len
  refine ⟨_, rfl, .ref a, rfl, .inl ⟨a, ys, rfl, ha, fun y hy => ?_, fun e C hC => q2 ?_ C H hC (Ext.refl _) (G.less hok (by omega))⟩⟩
  case refine_2 =>
    have := glen_pos old n
    rw [e] at hlen
    rw [← hlen]
    show 0 ≠ _
    omega
  have hy' := getLast_at hy
  have hyl := (List.getElem?_eq_some_iff.mp hy').1
  obtain ⟨t, ht⟩ : ∃ t, ts[ys.length - 1]? = some t := ⟨ts[ys.length - 1]'(by omega), List.getElem?_eq_getElem _⟩
  have hyt := hd.at_ _ _ _ hy' ht
  have el : ts.getLastD nonT = t := by
    rw [List.getLastD_eq_getLast?, List.getLast?_eq_getElem?, ← hlen, ht]
    rfl
  have hts := last_split (l := ts) (d := nonT) (by omega)
  rw [el] at hts
  refine ⟨_, rfl, _, rfl, a, ys, rfl, .inl (SqL.of ha), _, 1, rfl, rfl, ((ys.length - 1 : Nat) : Int), by rw [show ((ys.length - 1 : Nat) : Int) = (ys.length : Int) - 1 by omega], a, ys, rfl, SqL.of ha, fun p1 np1 => ?_⟩
  rw [cut_to]
  have x1 := Ext.new (o := .lst (ys.take (ys.length - 1))) np1
  have k1 := Kp.new (o := .lst (ys.take (ys.length - 1))) np1
  refine ⟨by show 0 ≤ sizeLine; decide, fun p np => ⟨_, _, rfl, ?_⟩⟩
  have x2 := x1.trans (Ext.new (o := .lst []) np)
  have k2 := k1.trans (Kp.new (o := .lst []) np)
  have np0 := x1.free np
  have np1p : p1 ≠ p := ne_of_none upd_same np
  have hp1 : upd (upd H p1 (.lst (ys.take (ys.length - 1)))) p (.lst []) p1 = some (.lst (ys.take (ys.length - 1))) := by rw [upd_ne np1p]; exact upd_same
  have hpp : upd (upd H p1 (.lst (ys.take (ys.length - 1)))) p (.lst []) p = some (.lst []) := upd_same
  have hd1 : DenL S (upd (upd H p1 (.lst (ys.take (ys.length - 1)))) p (.lst [])) (ys.take (ys.length - 1)) ts.dropLast := by
    have := (hd.take (ts.length - 1)).mono G k2.gr
    rwa [show ts.take (ts.length - 1) = ts.dropLast from List.dropLast_eq_take.symm, ← hlen] at this
  have ok2 := G.keep k2 hok
  have hyt2 := G.mono k2.gr hyt
  generalize upd (upd H p1 (.lst (ys.take (ys.length - 1)))) p (.lst []) = H2 at x2 k2 hp1 hpp hd1 ok2 hyt2 ⊢
  refine ⟨fun m σ H' => ∃ (old' n' : Nat) (lv : V) (lt : Tm) (b : Addr) (us : List V) (ts' : List Tm) (ss : List (Tm × Bool)) (ssv : List V) (y7 : Option V), n' = m ∧ σ = [some (.ref S.f), some (.int (old' : Int)), some (.int (n' : Int)), some (.ref a), some lv, some (.ref b), some (.ref p), y7, none, none, none] ∧
    Ext H H' ∧ S.ok H' (r + 2 * glen old n) ∧ H' p = some (.lst ssv) ∧ SideL S H' ssv ss ∧ H' b = some (.lst us) ∧ b ≠ p ∧ DenL S H' us ts' ∧ S.den H' lv lt ∧ 0 < old' ∧ old' ≤ n' ∧ n' ≤ n ∧
    ts'.length + 1 + ss.length = ts.length ∧ glen old' n' + ss.length = glen old n ∧ ss ++ gsides old' n' (ts' ++ [lt]) = gsides old n ts ∧ gb old' n' (ts' ++ [lt]) = gb old n ts, ⟨_, old, n, y, t, p1, _, ts.dropLast, [], [], none, rfl, rfl, x2, ok2, hpp, .nil, hp1, np1p, hd1, hyt2, ho0, hon, Nat.le_refl _, ?_, rfl, ?_, ?_⟩, ?_⟩
  · rw [List.length_dropLast]
    show _ + 1 + 0 = _
    omega
  · rw [← hts]
    rfl
  · rw [← hts]
  rintro m σ H3 ⟨old', n', lv, lt, b, us, ts', ss, ssv, y7, rfl, rfl, x3, ok3, hp3, hss, hb, hbp, hd3, hlv, ho', hon', hnn, hc1, hc2, hc3, hc4⟩
  have hsl := hss.len
  have hul := hd3.len
  have glb := glen_le 10 old n (by show n ≤ 1024; omega)
  refine ⟨_, rfl, _, rfl, rfl, _, rfl, ?_⟩
  by_cases heq : old' = n'
  · subst heq
    rw [decide_eq_true rfl]
    refine iteF ?_
    refine ⟨_, rfl, b, us, rfl, .inl (SqL.of hb), _, 0, rfl, rfl, _, rfl, ite2 (fun c => ?_) (fun c => ?_)⟩
    · have c' : (0 : Int) < (us.length : Int) := of_decide_eq_true c
      refine q2 ?_ _ _ g_BadPaper x3 (G.less ok3 (by omega))
      rw [glen_all] at hc2
      omega
    have c' : ¬ (0 : Int) < (us.length : Int) := of_decide_eq_false (Bool.eq_false_iff.mpr c)
    have tsz : ts' = [] := List.eq_nil_of_length_eq_zero (by omega)
    subst tsz
    rw [glen_all] at hc2
    rw [gs_all.1, List.append_nil] at hc3
    rw [gs_all.2] at hc4
    have elt : lt = gb old n ts := hc4
    have hl2 : ts.length = glen old n := by
      have : ([] : List Tm).length = 0 := rfl
      omega
    refine ⟨_, rfl, _, rfl, _, _, rfl, ?_⟩
    refine ⟨_, rfl, p, ssv, rfl, SqL.of hp3, fun p4 np4 => ⟨p4, rfl, ⟨_, SqL.of upd_same⟩, ?_⟩⟩
    have x4 := x3.trans (Ext.new (o := .lst ssv.reverse) np4)
    have k4 := Kp.new (o := .lst ssv.reverse) np4
    have hp4 : upd H3 p4 (.lst ssv.reverse) p4 = some (.lst ssv.reverse) := upd_same
    have ok4 := G.keep k4 ok3
    have hss4 := hss.mono G k4.gr
    have hlv4 := G.mono k4.gr hlv
    generalize upd H3 p4 (.lst ssv.reverse) = H4 at x4 hp4 ok4 hss4 hlv4 ⊢
    refine for_list (K := K) (a := p4) (xs := ssv.reverse) (fun i σ H' => ∃ (u1 u2 : V) (z4 z10 : Option V), σ = [some (.ref S.f), some (.int (old' : Int)), some (.int (old' : Int)), some (.ref a), z4, some (.ref b), some (.ref p), y7, some u1, some u2, z10] ∧ Ext H4 H' ∧ S.ok H' (r + 2 * (ss.length - i)) ∧ S.den H' u1 ((ss.drop (ss.length - i)).foldr stepO lt) ∧ S.den H' u2 ((ss.drop (ss.length - i)).foldr stepT lt))
      ⟨lv, lv, _, _, rfl, Ext.refl _, G.less ok4 (by omega), by rw [Nat.sub_zero, List.drop_length]; exact hlv4, by rw [Nat.sub_zero, List.drop_length]; exact hlv4⟩ (fun i σ H' _ ⟨_, _, _, _, _, x, _⟩ => SqL.of (x.lst hp4)) ?_ ?_
    · rintro i y2 σ H' hi ⟨u1, u2, z4, z10, rfl, x, ok, hu1, hu2⟩
      have hlt := (List.getElem?_eq_some_iff.mp hi).1
      rw [List.length_reverse] at hlt
      rw [List.getElem?_reverse hlt] at hi
      have hj : ssv.length - 1 - i < ss.length := by omega
      obtain ⟨q, aa, rfl, hq, haa⟩ := (hss4.mono G x.gr).at_ _ y2 (ss[ssv.length - 1 - i]) hi (List.getElem?_eq_getElem hj)
      have ed : ss.drop (ss.length - (i + 1)) = ss[ssv.length - 1 - i] :: ss.drop (ss.length - i) := by
        rw [show ss.length - (i + 1) = ssv.length - 1 - i by omega, List.drop_eq_getElem_cons hj, show ssv.length - 1 - i + 1 = ss.length - i by omega]
      refine ⟨q, _, rfl, SqT.of hq, rfl, ?_⟩
      rw [ed, List.foldr_cons, List.foldr_cons]
      generalize ss[ssv.length - 1 - i] = sd at hq haa ⊢
      obtain ⟨st, sb⟩ := sd
      refine ⟨_, _, rfl, _, _, rfl, rfl, ?_⟩
      refine ⟨_, rfl, _, rfl, ?_⟩
      cases sb with
      | true =>
        refine iteF ?_
        refine ⟨_, rfl, _, rfl, iteT ?_⟩
        refine ⟨_, rfl, _, rfl, _, rfl, S, u2, aa, _, _, r + 2 * (ss.length - (i + 1)), hF, rfl, G.less ok (by omega), hu2, haa, fun v' H'' x' ok' d' => ?_⟩
        exact ⟨u1, v', _, _, rfl, x.trans x', ok', G.mono x'.gr hu1, d'⟩
      | false =>
        refine iteT ?_
        refine ⟨_, rfl, _, rfl, _, rfl, S, aa, u1, _, _, r + 2 * (ss.length - (i + 1)) + 1, hF, rfl, G.less ok (by omega), haa, hu1, fun v1 H5 x5 ok5 d5 => ?_⟩
        refine ⟨_, rfl, _, rfl, iteF ?_⟩
        refine ⟨_, rfl, _, rfl, _, rfl, S, aa, u2, _, _, r + 2 * (ss.length - (i + 1)), hF, rfl, ok5, G.mono x5.gr haa, G.mono x5.gr hu2, fun v' H'' x' ok' d' => ?_⟩
        exact ⟨v1, v', _, _, rfl, (x.trans x5).trans x', ok', G.mono x'.gr d5, d'⟩
    · rintro σ H6 ⟨u1, u2, z4, z10, rfl, x6, ok6, hu1, hu2⟩
      rw [List.length_reverse, hsl, Nat.sub_self, List.drop_zero] at hu1 hu2
      refine ⟨_, rfl, _, rfl, by show 2 ≤ sizeLine; decide, fun q nq => ?_⟩
      have e6 := Ext.new (o := .tup [u1, u2]) nq
      refine q1 hl2 q u1 u2 _ ((x4.trans x6).trans e6) (G.less (G.keep (Kp.new nq) ok6) (by omega)) upd_same ?_ ?_
      · rw [regT_fold, ← hc3, ← elt]
        exact G.mono e6.gr hu1
      · rw [regT_fold, ← hc3, ← elt]
        exact G.mono e6.gr hu2
  · rw [decide_eq_false (show ¬ V.int (old' : Int) = V.int (n' : Int) from fun z => heq (by have := V.int.inj z; omega))]
    refine iteT ?_
    have h2 : 2 ≤ n' := by omega
    have hs1 := splitN_lt h2
    have hs2 := splitN_pos n'
    refine ⟨_, fun σ' H' h => h, ?_⟩
    refine ⟨_, rfl, n', rfl, h2, Nat.le_trans (Nat.log2_le_self _) (by omega), ?_⟩
    refine ⟨_, rfl, .inl ⟨rfl, _, SqL.of hp3⟩, _, rfl, _, rfl, _, rfl, _, _, rfl, rfl, by show 2 ≤ sizeLine; decide, fun q hq => ?_⟩
    have npq : q ≠ p := fun z => by rw [z, hp3] at hq; cases hq
    have nqb : q ≠ b := fun z => by rw [z, hb] at hq; cases hq
    have u1 := Ext.new (o := .tup [lv, .bl (decide ((old' : Int) ≤ ((splitN n' : Nat) : Int)))]) hq
    have j1 := Kp.new (o := .tup [lv, .bl (decide ((old' : Int) ≤ ((splitN n' : Nat) : Int)))]) hq
    have hp4 := u1.lst hp3
    have hq4 : upd H3 q (.tup [lv, .bl (decide ((old' : Int) ≤ ((splitN n' : Nat) : Int)))]) q = some (.tup [lv, .bl (decide ((old' : Int) ≤ ((splitN n' : Nat) : Int)))]) := upd_same
    have hb4 := u1.lst hb
    generalize upd H3 q (.tup [lv, .bl (decide ((old' : Int) ≤ ((splitN n' : Nat) : Int)))]) = H4 at u1 j1 hp4 hq4 hb4 ⊢
    refine ⟨p, ssv, _, rfl, rfl, hp4, by rw [hsl, e16]; omega, ?_⟩
    have k5 := j1.trans (Kp.lst (o := .lst (ssv ++ [.ref q])) hp4)
    have x5 := (x3.trans u1).mut (o := .lst (ssv ++ [.ref q])) np0
    have hp5 : upd H4 p (.lst (ssv ++ [.ref q])) p = some (.lst (ssv ++ [.ref q])) := upd_same
    have hq5 : upd H4 p (.lst (ssv ++ [.ref q])) q = some (.tup [lv, .bl (decide ((old' : Int) ≤ ((splitN n' : Nat) : Int)))]) := by rw [upd_ne npq]; exact hq4
    have hb5 : upd H4 p (.lst (ssv ++ [.ref q])) b = some (.lst us) := by rw [upd_ne hbp]; exact hb4
    generalize upd H4 p (.lst (ssv ++ [.ref q])) = H5 at k5 x5 hp5 hq5 hb5 ⊢
    have ok5 := G.keep k5 ok3
    have hd5 := hd3.mono G k5.gr
    -- the next one, or none
    have nx : ∀ R : VK, (∀ y t, us.getLast? = some y → ts'.getLast? = some t → S.den H5 y t → R y H5) → spLast K mg [.ref b] H5 R (fun cls d H' => E cls d H') := fun R hR => by
      refine ⟨.ref b, rfl, .inl ⟨b, us, rfl, hb5, fun y hy => ?_, fun e C hC => q2 ?_ C H5 hC x5 (G.less ok5 (by omega))⟩⟩
      · have hy' := getLast_at hy
        have hyl := (List.getElem?_eq_some_iff.mp hy').1
        obtain ⟨t, ht⟩ : ∃ t, ts'[us.length - 1]? = some t := ⟨ts'[us.length - 1]'(by omega), List.getElem?_eq_getElem _⟩
        exact hR y t hy (by rw [List.getLast?_eq_getElem?, ← hul, ht]) (hd5.at_ _ _ _ hy' ht)
      · rw [e] at hul
        have hul' : ts'.length = 0 := hul.symm
        have : 2 ≤ glen old' n' := by
          by_cases hp : old' ≤ splitN n'
          · rw [glen_low ho' (by omega) hp]
            have := glen_pos old' (splitN n')
            omega
          · rw [glen_high ho' (by omega) hp]
            have := glen_pos (old' - splitN n') (n' - splitN n')
            omega
        omega
    refine ⟨_, rfl, _, rfl, _, _, rfl, rfl, _, rfl, ite2 (fun c2 => ?_) (fun c2 => ?_)⟩
    · have c2' : (old' : Int) ≤ ((splitN n' : Nat) : Int) := of_decide_eq_true c2
      have hp : old' ≤ splitN n' := by omega
      have g1 := gs_low (ps := ts' ++ [lt]) ho' (by omega) hp
      rw [List.dropLast_concat, getLastD_concat] at g1
      have g2 := glen_low ho' (by omega) hp
      refine ⟨_, rfl, ?_⟩
      refine ⟨_, rfl, nx _ fun y2 t2 hy2 ht2 hyt2 => ?_⟩
      have ht2' := getLast_at ht2
      have htl := (List.getElem?_eq_some_iff.mp ht2').1
      refine ⟨_, rfl, _, rfl, b, us, rfl, .inl (SqL.of hb5), _, 1, rfl, rfl, ((us.length - 1 : Nat) : Int), by rw [show ((us.length - 1 : Nat) : Int) = (us.length : Int) - 1 by omega], b, us, rfl, SqL.of hb5, fun p6 np6 => ?_⟩
      rw [cut_to]
      have x6 := Ext.new (o := .lst (us.take (us.length - 1))) np6
      have k6 := Kp.new (o := .lst (us.take (us.length - 1))) np6
      have ht4 : ts' = ts'.dropLast ++ [t2] := by
        have := last_split (l := ts') (d := nonT) (by omega)
        rwa [List.getLastD_eq_getLast?, ht2] at this
      have np6p : p6 ≠ p := fun z => by rw [z, hp5] at np6; cases np6
      refine ⟨splitN n', hs1, old', splitN n', y2, t2, p6, us.take (us.length - 1), ts'.dropLast, ss ++ [(lt, true)], ssv ++ [.ref q], _, rfl, rfl, x5.trans x6, G.keep k6 ok5, x6.lst hp5, ((hss.mono G k5.gr).snoc (by rw [hq5, decide_eq_true c2']) (G.mono k5.gr hlv)).mono G k6.gr, upd_same, np6p, ?_, G.mono k6.gr hyt2, ho', hp, by omega, ?_, ?_, ?_, ?_⟩
      · have := (hd5.take (ts'.length - 1)).mono G k6.gr
        rwa [show ts'.take (ts'.length - 1) = ts'.dropLast from List.dropLast_eq_take.symm, ← hul] at this
      · rw [List.length_dropLast, List.length_append]
        show _ + 1 + (_ + 1) = _
        omega
      · rw [List.length_append]
        show _ + (_ + 1) = _
        omega
      · rw [← hc3, g1.1, ← ht4, List.append_assoc]
        rfl
      · rw [← hc4, g1.2, ← ht4]
    · have c2' : ¬ (old' : Int) ≤ ((splitN n' : Nat) : Int) := of_decide_eq_false (Bool.eq_false_iff.mpr c2)
      have hp : ¬ old' ≤ splitN n' := by omega
      have g1 := gs_high (ps := ts' ++ [lt]) ho' (by omega) hp
      rw [List.dropLast_concat, getLastD_concat] at g1
      have g2 := glen_high ho' (by omega) hp
      refine ⟨_, rfl, _, rfl, _, _, rfl, rfl, _, rfl, _, rfl, _, _, rfl, rfl, _, _, rfl, ?_⟩
      refine ⟨_, rfl, nx _ fun y2 t2 hy2 ht2 hyt2 => ?_⟩
      have ht2' := getLast_at ht2
      have htl := (List.getElem?_eq_some_iff.mp ht2').1
      refine ⟨_, rfl, _, rfl, b, us, rfl, .inl (SqL.of hb5), _, 1, rfl, rfl, ((us.length - 1 : Nat) : Int), by rw [show ((us.length - 1 : Nat) : Int) = (us.length : Int) - 1 by omega], b, us, rfl, SqL.of hb5, fun p6 np6 => ?_⟩
      rw [cut_to]
      have x6 := Ext.new (o := .lst (us.take (us.length - 1))) np6
      have k6 := Kp.new (o := .lst (us.take (us.length - 1))) np6
      have ht4 : ts' = ts'.dropLast ++ [t2] := by
        have := last_split (l := ts') (d := nonT) (by omega)
        rwa [List.getLastD_eq_getLast?, ht2] at this
      have np6p : p6 ≠ p := fun z => by rw [z, hp5] at np6; cases np6
      refine ⟨n' - splitN n', by omega, old' - splitN n', n' - splitN n', y2, t2, p6, us.take (us.length - 1), ts'.dropLast, ss ++ [(lt, false)], ssv ++ [.ref q], some (.int ((splitN n' : Nat) : Int)), rfl, ?_, x5.trans x6, G.keep k6 ok5, x6.lst hp5, ((hss.mono G k5.gr).snoc (by rw [hq5, decide_eq_false c2']) (G.mono k5.gr hlv)).mono G k6.gr, upd_same, np6p, ?_, G.mono k6.gr hyt2, by omega, by omega, by omega, ?_, ?_, ?_, ?_⟩
      · rw [show ((old' - splitN n' : Nat) : Int) = (old' : Int) - ((splitN n' : Nat) : Int) by omega, show ((n' - splitN n' : Nat) : Int) = (n' : Int) - ((splitN n' : Nat) : Int) by omega]
        rfl
      · have := (hd5.take (ts'.length - 1)).mono G k6.gr
        rwa [show ts'.take (ts'.length - 1) = ts'.dropLast from List.dropLast_eq_take.symm, ← hul] at this
      · rw [List.length_dropLast, List.length_append]
        show _ + 1 + (_ + 1) = _
        omega
      · rw [List.length_append]
        show _ + (_ + 1) = _
        omega
      · rw [← hc3, g1.1, ← ht4, List.append_assoc]
        rfl
      · rw [← hc4, g1.2, ← ht4]
end

/-! ### a claim that an entry stands at a place -/
def judgeS (place : Int) (lt : Tm) (n : Nat) (ht : Tm) : Option (List Tm) → Bool
  | none => false
  | some ps => decide (0 ≤ place ∧ place < (n : Int) ∧ ps.length = plen place.toNat n ∧ Tm.sl "book" (.int (n : Int)) (riseT lt (sidesT place.toNat n ps)) = ht)
/-- a paper: a row of tops, or no list -/
def Pap (K : PySem.W.Frag) (S : Sys) (H : Hp) (v : V) : Option (List Tm) → Prop
  | none => ∀ H', Ext H H' → Odd K H' v
  | some ps => ∃ a ys, v = .ref a ∧ H a = some (.lst ys) ∧ DenL S H ys ps ∧ ps.length ≤ 100 ∧ ∀ t ∈ ps, WS t ∧ t.dep ≤ 28
theorem Pap.ext {K : PySem.W.Frag} {S : Sys} (G : S.Good K) {H H' : Hp} {v : V} {p : Option (List Tm)} (h : Pap K S H v p) (e : Ext H H') : Pap K S H' v p := by
  cases p with
  | none => exact fun H2 e2 => h H2 (e.trans e2)
  | some ps =>
    obtain ⟨a, ys, rfl, ha, hd, hl, hp⟩ := h
    exact ⟨a, ys, rfl, e.lst ha, hd.mono G e.gr, hl, hp⟩

/-- a paper, or what is no list -/
def PapW (K : PySem.W.Frag) (S : Sys) (H : Hp) (c : Prop) (v : V) (p : Option (List Tm)) : Prop := Pap K S H v p ∨ (p = none ∧ c ∧ ∀ H', Ext H H' → OddT K H' v)
theorem PapW.ext {K : PySem.W.Frag} {S : Sys} (G : S.Good K) {H H' : Hp} {c : Prop} {v : V} {p : Option (List Tm)} (h : PapW K S H c v p) (x : Ext H H') : PapW K S H' c v p := h.imp (fun h => h.ext G x) fun h => ⟨h.1, h.2.1, fun H2 x2 => h.2.2 H2 (x.trans x2)⟩
theorem PapW.odd {K : PySem.W.Frag} {S : Sys} {H : Hp} {c : Prop} {v : V} (h : PapW K S H c v none) : OddW K H c v := h.imp (fun h => h) fun h => h.2
theorem PapW.get {K : PySem.W.Frag} {S : Sys} {H : Hp} {c : Prop} {v : V} {ps : List Tm} (h : PapW K S H c v (some ps)) : Pap K S H v (some ps) := h.elim (fun h => h) fun h => nomatch h.1
def stF (place : Int) (x : V) (tv : V) : List (Str × V) := [("place", .int place), ("words", x), ("table", tv)]
theorem stF_place (place : Int) (x : V) (tv : V) : (stF place x tv).lookup ("place" : Str) = some (.int place) := by kernel_rfl
theorem stF_words (place : Int) (x : V) (tv : V) : (stF place x tv).lookup ("words" : Str) = some x := by kernel_rfl
theorem stF_table (place : Int) (x : V) (tv : V) : (stF place x tv).lookup ("table" : Str) = some tv := by kernel_rfl
theorem stF_no (place : Int) (x : V) (tv : V) : (stF place x tv).lookup ("judged" : Str) = none ∧ (stF place x tv).lookup ("shown" : Str) = none := ⟨by kernel_rfl, by kernel_rfl⟩
theorem stF_mk (place : Int) (x : V) (tv : V) : putF "table" tv (putF "words" x (putF "place" (.int place) [])) = stF place x tv := by kernel_rfl
section
variable {P : Program} {w : World} {K : PySem.W.Frag} {mg : Str → Option Value} {base : Heap} {Fam : Sys → Prop} {C : Addr}
def spStInit (C : Addr) : Sp := fun vs H Q _ => ∃ (p dx : Addr) (place : Int) (x tv : V), vs = [.ref p, .int place, x, tv] ∧ H p = some (.ins C dx []) ∧ ∀ H', ExtO p H H' → Kp H H' → H' p = some (.ins C dx (stF place x tv)) → Q .non H'
theorem ok_stinit (KS : K_Stands K mg C) : Mak P w K mg base 1 "Stands" C (spStInit C) [] := by
  refine mak_of KS.mgC KS.made sc_Stands___init__ (fun vs H Q E h => ?_) (fun f cdv A' outer s H vs Q E hr h => ?_)
  · obtain ⟨p, dx, place, x, tv, rfl, _⟩ := h
    rfl
  obtain ⟨p, dx, place, x, tv, rfl, hp, q⟩ := h
  refine ⟨_, (pss_cons (ps_fld (pv 0) (pv 1) rfl)
  (pss_cons (ps_fld (pv 0) (pv 2) rfl)
  (pss_one (ps_fld (pv 0) (pv 3) rfl)))), ?_⟩
  refine ⟨_, rfl, _, rfl, p, C, dx, _, rfl, hp, KS.cl, KS.n_place, by show 0 < 1000; decide, ?_⟩
  refine ⟨_, rfl, _, rfl, p, C, dx, _, rfl, upd_same, KS.cl, KS.n_words, by show 1 < 1000; decide, ?_⟩
  refine ⟨_, rfl, _, rfl, p, C, dx, _, rfl, upd_same, KS.cl, KS.n_table, by show 2 < 1000; decide, ?_⟩
  have x1 := ExtO.put (o := .ins C dx (putF "place" (.int place) [])) hp
  have k1 := Kp.ins (o := .ins C dx (putF "place" (.int place) [])) hp
  have x2 := x1.trans (ExtO.put (o := .ins C dx (putF "words" x (putF "place" (.int place) []))) upd_same)
  have k2 := k1.trans (Kp.ins (o := .ins C dx (putF "words" x (putF "place" (.int place) []))) upd_same)
  refine q _ (x2.trans (ExtO.put upd_same)) (k2.trans (Kp.ins upd_same)) ?_
  rw [upd_same, stF_mk]
def spShownS (K : PySem.W.Frag) (mg : Str → Option Value) (C : Addr) (Fam : Sys → Prop) : Sp := fun vs H Q E => ∃ (S : Sys) (p dx : Addr) (place : Int) (x : Str) (xv tv : V) (ta : Tm) (n : Nat) (m : Int) (Y : Tm) (head v : V) (paper : Option (List Tm)) (r : Nat), Fam S ∧ vs = [.ref p, .ref S.f, .int (n : Int), head, v] ∧ H p = some (.ins C dx (stF place xv tv)) ∧ S.den H xv (.str x) ∧ S.den H tv ta ∧ WS ta ∧ ta.dep ≤ 18 ∧ n ≤ 1000 ∧
  S.den H head (.sl "book" (.int m) Y) ∧ WS Y ∧ Y.dep ≤ 40 ∧ PapW K S H (2 ≤ n) v paper ∧ S.ok H (r + 20) ∧
  (∀ H', Ext H H' → S.ok H' r → Q (.bl (judgeS place (.sl "leaf" (.str x) ta) n (.sl "book" (.int m) Y) paper)) H') ∧
  (judgeS place (.sl "leaf" (.str x) ta) n (.sl "book" (.int m) Y) paper = false → ∀ D H', mg "BadPaper" = some (.ref D) → Ext H H' → S.ok H' r → E (.ref D) none H')
theorem ok_shownS {cc : Addr} (T : Txt K mg cc) (A : SlA P w K mg base Fam) (I3 : ∀ {S}, Fam S → S.Inj K) (KS : K_Stands K mg C) : MetR P w K mg base 4 C "shown" (spShownS K mg C Fam) := by
  have Z := T.Z
  have C_leaf_seal := ok_leaf_seal T A
  have C_book_seal := ok_book_seal T A
  have C_risen := ok_risen T A (ok_last T) (ok_split T) (ok_pair_seal T A)
  refine metR_of KS.cl KS.m_shown sc_Stands_shown (fun vs H Q E h => ?_) (fun f cdv A' outer s H vs Q E hr h => ?_)
  · obtain ⟨S, p, dx, place, x, xv, tv, ta, n, m, Y, head, v, paper, r, _, rfl, _⟩ := h
    rfl
  obtain ⟨S, p, dx, place, x, xv, tv, ta, n, m, Y, head, v, paper, r, hF, rfl, hp, hx, htv, hws, hta, hn, hh, hY, hYd, hpap, hok, q1, q2⟩ := h
  have G := A.good hF
  refine ⟨_, (pss_cons (ps_if (pt_not (pt_chain op_le op_lt pe_int (pe_fld (pv 0) rfl) (pv 2))) (pss_one (ps_ret pe_bl)) pss_nil)
  (pss_cons (ps_set (i := 5) sc_Stands_shown.nd rfl (Or.inl rfl) (pe_c C_leaf_seal hr (by omega) rfl (pa_cons (pv 1) (pa_cons (pe_fld (pv 0) rfl) (pa_cons (pe_fld (pv 0) rfl) pa_nil)))))
  (pss_one (ps_ret (pe_cmpR (op_eqD hr.units) (pe_c C_book_seal hr (by omega) rfl (pa_cons (pv 1) (pa_cons (pv 2) (pa_cons (pe_cx C_risen (takes_of rfl rfl rfl rfl) hr (by omega) rfl (pa_cons (pv 1) (pa_cons (pv 5) (pa_cons (pe_fld (pv 0) rfl) (pa_cons (pv 2) (pa_cons (pv 4) pa_nil)))))) pa_nil)))) (pv 3) (nomark _)))))), ?_⟩
  have bad : ¬ (0 ≤ place ∧ place < (n : Int)) → judgeS place (.sl "leaf" (.str x) ta) n (.sl "book" (.int m) Y) paper = false := fun z => by
    cases paper with
    | none => rfl
    | some ps => exact decide_eq_false fun h => z ⟨h.1, h.2.1⟩
  refine ⟨_, rfl, p, C, dx, _, _, rfl, hp, KS.cl, KS.n_place, stF_place _ _ _, _, _, rfl, rfl, _, rfl, ite2 (fun c1 => ?_) (fun c1 => ?_)⟩
  · have c1' : (0 : Int) ≤ place := of_decide_eq_true c1
    refine ⟨_, rfl, _, _, rfl, rfl, _, rfl, ?_⟩
    by_cases c2 : place < (n : Int)
    · rw [decide_eq_true c2]
      refine iteF ?_
      obtain ⟨pl, rfl⟩ := Int.eq_ofNat_of_zero_le c1'
      have hpl : pl < n := by omega
      refine ⟨_, rfl, _, rfl, p, C, dx, _, _, rfl, hp, KS.cl, KS.n_words, stF_words _ _ _, _, rfl, p, C, dx, _, _, rfl, hp, KS.cl, KS.n_table, stF_table _ _ _, S, _, _, .str x, ta, r + 19, hF, rfl, hok, hx, htv, fun vl H1 x1 ok1 d1 => ?_⟩
      have plb := plen_le 10 pl n (by show n ≤ 1024; omega)
      refine ⟨_, rfl, _, rfl, _, rfl, _, rfl, _, rfl, p, C, dx, _, _, rfl, x1.ins hp, KS.cl, KS.n_place, stF_place _ _ _, _, rfl, _, rfl, S, vl, _, pl, n, v, r + 5, hF, rfl, d1, hpl, Nat.le_trans (Nat.log2_le_self _) hn, G.less ok1 (by omega), ?_⟩
      have hpap1 := hpap.ext G x1
      cases paper with
      | none => exact .inr ⟨hpap1.odd, fun D H' hD e ok => q2 rfl D H' hD (x1.trans e) (G.less ok (by omega))⟩
      | some ps =>
        obtain ⟨a, ys, rfl, ha, hd, hl, hps⟩ := hpap1.get
        refine .inl ⟨a, ys, ps, rfl, ha, hd, by omega, fun t ht => Nat.le_trans (hps t ht).2 (by decide), fun hlen u H2 x2 ok2 d2 => ?_, fun hlen D H' hD e ok => q2 (decide_eq_false fun h => hlen h.2.2.1) D H' hD (x1.trans e) (G.less ok (by omega))⟩
        refine ⟨S, _, u, .int (n : Int), _, r + 4, hF, rfl, ok2, G.int _ ok2, d2, fun ub H3 x3 ok3 d3 => ?_⟩
        have x13 := (x1.trans x2).trans x3
        have smem := sidesT_mem hlen
        have hlt : (Tm.sl "leaf" (.str x) ta).dep ≤ 28 := by show max 0 ta.dep + 1 ≤ 28; omega
        have rw1 : WS (riseT (.sl "leaf" (.str x) ta) (sidesT pl n ps)) := riseT_ws (.leaf x hws) fun s hs => (hps _ (smem s hs)).1
        have rd1 := riseT_dep (n := 28) hlt (fun s hs => (hps _ (smem s hs)).2)
        rw [sidesT_len] at rd1
        have cmp : cmpT (.sl "book" (.int (n : Int)) (riseT (.sl "leaf" (.str x) ta) (sidesT pl n ps))) (.sl "book" (.int m) Y) := cmp_sl (rw1.cmp hY)
        obtain ⟨d, d', e1, e2, e3, e4, e5, e6, e7⟩ := (I3 hF).inj ok3 d3 (G.mono x13.gr hh) cmp
        have dd1 : (Tm.sl "book" (.int (n : Int)) (riseT (.sl "leaf" (.str x) ta) (sidesT pl n ps))).dep ≤ 60 := by show max 0 _ + 1 ≤ 60; omega
        have dd2 : (Tm.sl "book" (.int m) Y).dep ≤ 60 := by show max 0 Y.dep + 1 ≤ 60; omega
        refine ⟨_, rfl, d, d', e1, e2, shaped_of e3 (by omega), shaped_of e4 (by omega), ?_⟩
        rw [e7]
        have q3 := q1 H3 x13 (G.less ok3 (by omega))
        have ej : judgeS ((pl : Nat) : Int) (.sl "leaf" (.str x) ta) n (.sl "book" (.int m) Y) (some ps) = decide (Tm.sl "book" (.int (n : Int)) (riseT (.sl "leaf" (.str x) ta) (sidesT pl n ps)) = .sl "book" (.int m) Y) := by
          show decide _ = decide _
          rw [Int.toNat_natCast]
          congr 1
          exact propext ⟨fun h => h.2.2.2, fun h => ⟨c1', c2, hlen, h⟩⟩
        rw [ej] at q3
        exact q3
    · rw [decide_eq_false c2]
      refine iteT ?_
      have := q1 H (Ext.refl _) (G.less hok (by omega))
      rw [bad fun z => c2 z.2] at this
      exact this
  · have c1' : ¬ (0 : Int) ≤ place := of_decide_eq_false (Bool.eq_false_iff.mpr c1)
    refine ⟨_, rfl, iteT ?_⟩
    have := q1 H (Ext.refl _) (G.less hok (by omega))
    rw [bad fun z => c1' z.1] at this
    exact this
def spJudgedS (K : PySem.W.Frag) (C : Addr) (Fam : Sys → Prop) : Sp := fun vs H Q _ => ∃ (S : Sys) (p dx : Addr) (place : Int) (x : Str) (xv tv : V) (ta : Tm) (n : Nat) (m : Int) (Y : Tm) (head v : V) (paper : Option (List Tm)) (r : Nat), Fam S ∧ vs = [.ref p, .ref S.f, .int (n : Int), head, v] ∧ H p = some (.ins C dx (stF place xv tv)) ∧ S.den H xv (.str x) ∧ S.den H tv ta ∧ WS ta ∧ ta.dep ≤ 18 ∧ n ≤ 1000 ∧
  S.den H head (.sl "book" (.int m) Y) ∧ WS Y ∧ Y.dep ≤ 40 ∧ PapW K S H (2 ≤ n) v paper ∧ S.ok H (r + 20) ∧
  (∀ H', Ext H H' → S.ok H' r → Q (.bl (judgeS place (.sl "leaf" (.str x) ta) n (.sl "book" (.int m) Y) paper)) H')
theorem ok_judgedS {cc : Addr} (T : Txt K mg cc) (A : SlA P w K mg base Fam) (I3 : ∀ {S}, Fam S → S.Inj K) (KS : K_Stands K mg C) : Met P w K mg base 5 C "judged" (spJudgedS K C Fam) [] := by
  obtain ⟨C_BadPaper, g_BadPaper, F_BadPaper⟩ := T.x_BadPaper.ex
  have M_shown := ok_shownS T A I3 KS
  refine met_of KS.cl KS.m_judged sc_Claim_judged (fun vs H Q E h => ?_) (fun f cdv A' outer s H vs Q E hr h => ?_)
  · obtain ⟨S, p, dx, place, x, xv, tv, ta, n, m, Y, head, v, paper, r, _, rfl, _⟩ := h
    rfl
  obtain ⟨S, p, dx, place, x, xv, tv, ta, n, m, Y, head, v, paper, r, hF, rfl, hp, hx, htv, hws, hta, hn, hh, hY, hYd, hpap, hok, q⟩ := h
  refine ⟨_, (pss_one (ps_try_onlyE (pss_one (ps_ret (pv 5))) rfl rfl ⟨rfl, by decide, .inl g_BadPaper⟩ takes0 (fun W pn xe tk po => (pss_one (ps_set (i := 5) sc_Claim_judged.nd rfl (Or.inl rfl) (pe_mtx M_shown tk hr (by omega) (pv 0) (pa_cons (pv 1) (pa_cons (pv 2) (pa_cons (pv 3) (pa_cons (pv 4) pa_nil)))))))) (fun a oe cls d pn hz hf => (pss_when (P := cls = .ref C_BadPaper ∧ d = none) fun hsu => (pss_one (ps_ret pe_bl)))))), ?_⟩
  refine ⟨_, rfl, p, dx, _, rfl, hp, (stF_no _ _ _).2, _, rfl, _, rfl, _, rfl, _, rfl, S, p, dx, place, x, xv, tv, ta, n, m, Y, head, v, paper, r, hF, rfl, hp, hx, htv, hws, hta, hn, hh, hY, hYd, hpap, hok, fun H' e ok => ⟨_, rfl, q H' e ok⟩, fun hj D H' hD e ok => ?_⟩
  rw [g_BadPaper] at hD
  cases hD
  refine ⟨true, F_BadPaper.eP, fun _ p2 hp2 => ⟨⟨rfl, rfl⟩, ?_⟩, fun z => nomatch z⟩
  have := q H' e ok
  rw [hj] at this
  exact this
end

/-! ### a claim of a growth -/
def emptyT : Tm := .sl "book" (.int 0) nonT
def judgeG (old : Int) (n : Nat) (said ht : Tm) (paper : Option (List Tm)) : Bool :=
  if old = 0 then decide (said = emptyT ∧ paper = some [] ∧ (0 < n ∨ ht = emptyT)) else
    match paper with
    | none => false
    | some ps => decide (0 < old ∧ old ≤ (n : Int) ∧ ps.length = glen old.toNat n ∧ Tm.sl "book" (.int old) (regT old.toNat n ps).1 = said ∧ Tm.sl "book" (.int (n : Int)) (regT old.toNat n ps).2 = ht)
def BkT (t : Tm) : Prop := ∃ m Y, t = .sl "book" (.int m) Y ∧ WS Y ∧ Y.dep ≤ 40
theorem BkT.cmp {a b : Tm} (h : BkT a) (h' : BkT b) : cmpT a b := by
  obtain ⟨m, Y, rfl, hY, _⟩ := h
  obtain ⟨m', Y', rfl, hY', _⟩ := h'
  exact cmp_sl (hY.cmp hY')
theorem BkT.dep {a : Tm} (h : BkT a) : a.dep ≤ 60 := by
  obtain ⟨m, Y, rfl, _, hd⟩ := h
  show max 0 Y.dep + 1 ≤ 60
  omega
theorem empty_bk : BkT emptyT := ⟨0, nonT, rfl, .non, by decide⟩
theorem bk_apart {K : PySem.W.Frag} {S : Sys} (I : S.Inj K) {H : Hp} {r : Nat} (ok : S.ok H r) {v v' : V} {t t' : Tm} (h : S.den H v t) (h' : S.den H v' t') (b : BkT t) (b' : BkT t') :
    ∃ d d', Dp K H v d ∧ Dp K H v' d' ∧ SeqAt.shaped d = true ∧ SeqAt.shaped d' = true ∧ PyData.eqv d d' = decide (t = t') := by
  obtain ⟨d, d', e1, e2, e3, e4, e5, e6, e7⟩ := I.inj ok h h' (b.cmp b')
  have := b.dep
  have := b'.dep
  exact ⟨d, d', e1, e2, shaped_of e3 (by omega), shaped_of e4 (by omega), e7⟩
def grF (old : Int) (bv : V) : List (Str × V) := [("old", .int old), ("before", bv)]
theorem grF_old (old : Int) (bv : V) : (grF old bv).lookup ("old" : Str) = some (.int old) := by kernel_rfl
theorem grF_before (old : Int) (bv : V) : (grF old bv).lookup ("before" : Str) = some bv := by kernel_rfl
theorem grF_no (old : Int) (bv : V) : (grF old bv).lookup ("judged" : Str) = none ∧ (grF old bv).lookup ("shown" : Str) = none := ⟨by kernel_rfl, by kernel_rfl⟩
theorem grF_mk (old : Int) (bv : V) : putF "before" bv (putF "old" (.int old) []) = grF old bv := by kernel_rfl
section
variable {P : Program} {w : World} {K : PySem.W.Frag} {mg : Str → Option Value} {base : Heap} {Fam : Sys → Prop} {C : Addr}
def spGrInit (C : Addr) : Sp := fun vs H Q _ => ∃ (p dx : Addr) (old : Int) (bv : V), vs = [.ref p, .int old, bv] ∧ H p = some (.ins C dx []) ∧ ∀ H', ExtO p H H' → Kp H H' → H' p = some (.ins C dx (grF old bv)) → Q .non H'
theorem ok_grinit (KS : K_Grows K mg C) : Mak P w K mg base 1 "Grows" C (spGrInit C) [] := by
  refine mak_of KS.mgC KS.made sc_Grows___init__ (fun vs H Q E h => ?_) (fun f cdv A' outer s H vs Q E hr h => ?_)
  · obtain ⟨p, dx, old, bv, rfl, _⟩ := h
    rfl
  obtain ⟨p, dx, old, bv, rfl, hp, q⟩ := h
  refine ⟨_, (pss_cons (ps_fld (pv 0) (pv 1) rfl)
  (pss_one (ps_fld (pv 0) (pv 2) rfl))), ?_⟩
  refine ⟨_, rfl, _, rfl, p, C, dx, _, rfl, hp, KS.cl, KS.n_old, by show 0 < 1000; decide, ?_⟩
  refine ⟨_, rfl, _, rfl, p, C, dx, _, rfl, upd_same, KS.cl, KS.n_before, by show 1 < 1000; decide, ?_⟩
  refine q _ ((ExtO.put hp).trans (ExtO.put upd_same)) ((Kp.ins hp).trans (Kp.ins upd_same)) ?_
  rw [upd_same, grF_mk]
def spShownG (K : PySem.W.Frag) (mg : Str → Option Value) (C : Addr) (Fam : Sys → Prop) : Sp := fun vs H Q E => ∃ (S : Sys) (p dx : Addr) (old : Int) (bv : V) (said : Tm) (n : Nat) (ht : Tm) (head v : V) (paper : Option (List Tm)) (r : Nat), Fam S ∧ vs = [.ref p, .ref S.f, .int (n : Int), head, v] ∧ H p = some (.ins C dx (grF old bv)) ∧ S.den H bv said ∧ BkT said ∧ n ≤ 1000 ∧
  S.den H head ht ∧ BkT ht ∧ PapW K S H (old ≠ 0) v paper ∧ S.ok H (r + 60) ∧
  (∀ H', Ext H H' → S.ok H' r → Q (.bl (judgeG old n said ht paper)) H') ∧
  (judgeG old n said ht paper = false → ∀ D H', mg "BadPaper" = some (.ref D) → Ext H H' → S.ok H' r → E (.ref D) none H')
theorem ok_shownG {cc : Addr} (T : Txt K mg cc) (A : SlA P w K mg base Fam) (I3 : ∀ {S}, Fam S → S.Inj K) (KS : K_Grows K mg C) : MetR P w K mg base 4 C "shown" (spShownG K mg C Fam) := by
  have Z := T.Z
  have C_none_seal := ok_none_seal T A
  have C_book_seal := ok_book_seal T A
  have C_regrown := ok_regrown T A (ok_last T) (ok_split T) (ok_pair_seal T A)
  refine metR_of KS.cl KS.m_shown sc_Grows_shown (fun vs H Q E h => ?_) (fun f cdv A' outer s H vs Q E hr h => ?_)
  · obtain ⟨S, p, dx, old, bv, said, n, ht, head, v, paper, r, _, rfl, _⟩ := h
    rfl
  obtain ⟨S, p, dx, old, bv, said, n, ht, head, v, paper, r, hF, rfl, hp, hbv, hsaid, hn, hhead, hht, hpap, hok, q1, q2⟩ := h
  have G := A.good hF
  refine ⟨_, (pss_cons (ps_if (pt_cmpR op_eq (pe_fld (pv 0) rfl) pe_int (nomark _)) (pss_cons (ps_set (i := 5) sc_Grows_shown.nd rfl (Or.inl rfl) (pe_c C_book_seal hr (by omega) rfl (pa_cons (pv 1) (pa_cons pe_int (pa_cons (pe_c C_none_seal hr (by omega) rfl (pa_cons (pv 1) pa_nil)) pa_nil)))))
  (pss_one (ps_ret (pe_and (pe_cmpR (op_eqD hr.units) (pe_fld (pv 0) rfl) (pv 5) (nomark _)) (pe_and (pe_cmpR (op_eqD hr.units) (pv 4) (pe_lst pa_nil) (nomark _)) (pe_one (pe_or (pe_cmpR op_gt (pv 2) pe_int (nomark _)) (pe_one (pe_and (pe_cmpR op_eq (pv 2) pe_int (nomark _)) (pe_one (pe_cmpR (op_eqD hr.units) (pv 3) (pv 5) (nomark _)))))))))))) pss_nil)
  (pss_cons (ps_if (pt_not (pt_chain op_lt op_le pe_int (pe_fld (pv 0) rfl) (pv 2))) (pss_one (ps_ret pe_bl)) pss_nil)
  (pss_cons (ps_set (i := 6) sc_Grows_shown.nd rfl (Or.inl rfl) (pe_cx C_regrown (takes_of rfl rfl rfl rfl) hr (by omega) rfl (pa_cons (pv 1) (pa_cons (pe_fld (pv 0) rfl) (pa_cons (pv 2) (pa_cons (pv 4) pa_nil))))))
  (pss_one (ps_ret (pe_and (pe_cmpR (op_eqD hr.units) (pe_c C_book_seal hr (by omega) rfl (pa_cons (pv 1) (pa_cons (pe_fld (pv 0) rfl) (pa_cons (pe_ix ix_tup (pv 6) pe_int (fun _ _ => rfl)) pa_nil)))) (pe_fld (pv 0) rfl) (nomark _)) (pe_one (pe_cmpR (op_eqD hr.units) (pe_c C_book_seal hr (by omega) rfl (pa_cons (pv 1) (pa_cons (pv 2) (pa_cons (pe_ix ix_tup (pv 6) pe_int (fun _ _ => rfl)) pa_nil)))) (pv 3) (nomark _))))))))), ?_⟩
  refine ⟨_, rfl, p, C, dx, _, _, rfl, hp, KS.cl, KS.n_old, grF_old _ _, rfl, _, rfl, ite2 (fun c => ?_) (fun c => ?_)⟩
  · have c' : old = 0 := V.int.inj (of_decide_eq_true c)
    subst c'
    have ej : judgeG 0 n said ht paper = decide (said = emptyT ∧ paper = some [] ∧ (0 < n ∨ ht = emptyT)) := by
      unfold judgeG
      rw [if_pos rfl]
    rw [ej] at q1
    refine ⟨_, rfl, _, rfl, S, r + 59, hF, rfl, hok, fun v0 H1 x1 ok1 d1 => ?_⟩
    refine ⟨S, .int 0, v0, .int 0, nonT, r + 58, hF, rfl, ok1, G.int _ ok1, d1, fun ve H2 x2' ok2 de => ?_⟩
    have x2 := x1.trans x2'
    obtain ⟨d, d', a1, a2, a3, a4, a5⟩ := bk_apart (I3 hF) ok2 (G.mono x2.gr hbv) de hsaid empty_bk
    refine ⟨_, rfl, p, C, dx, _, _, rfl, x2.ins hp, KS.cl, KS.n_before, grF_before _ _, _, rfl, d, d', a1, a2, a3, a4, _, rfl, ?_⟩
    rw [a5]
    refine ite2 (fun b1 => ?_) (fun b1 => ?_)
    · have b1' : said = emptyT := of_decide_eq_true b1
      refine ⟨_, rfl, by show 0 ≤ sizeLine; decide, fun q3 nq3 => ?_⟩
      have u3 := Ext.new (o := .lst []) nq3
      have x3 := x2.trans u3
      have ok3 := G.keep (Kp.new (o := .lst []) nq3) ok2
      have hq3 : upd H2 q3 (.lst []) q3 = some (.lst []) := upd_same
      generalize upd H2 q3 (.lst []) = H3 at u3 x3 ok3 hq3 ⊢
      have hpp : ∃ d e, Dp K H3 v d ∧ Dp K H3 (.ref q3) e ∧ SeqAt.shaped d = true ∧ SeqAt.shaped e = true ∧ PyData.eqv d e = decide (paper = some []) := by
        cases paper with
        | none =>
          obtain ⟨d, h1, h2, h3⟩ := hpap.odd.ne (fun z => z rfl) x3
          exact ⟨d, .list [], h1, .lst (SqL.of hq3) .nil, h2, by decide +kernel, by rw [h3]; rfl⟩
        | some ps =>
          obtain ⟨a, ys, rfl, ha, hd, hl, hps⟩ := hpap.get
          obtain ⟨d, e, b1, b2, b3, b4, b5⟩ := (hd.mono G x3.gr).odd (K := K) G (a := a) (p := q3) (SqL.of (x3.lst ha)) (SqL.of hq3) fun t ht => Nat.le_trans (hps t ht).2 (by decide)
          refine ⟨d, e, b1, b2, b3, b4, ?_⟩
          rw [b5]
          exact decide_eq_decide.mpr ⟨fun h => by rw [List.eq_nil_of_length_eq_zero h], fun h => by rw [Option.some.inj h]; rfl⟩
      obtain ⟨d3, e3, g1, g2, g3, g4, g5⟩ := hpp
      refine ⟨d3, e3, g1, g2, g3, g4, _, rfl, ?_⟩
      rw [g5]
      refine ite2 (fun b2 => ?_) (fun b2 => ?_)
      · have b2' : paper = some [] := of_decide_eq_true b2
        refine ⟨_, rfl, _, 0, rfl, rfl, _, rfl, ite2 (fun b3 => ?_) (fun b3 => ?_)⟩
        · have b3' : (0 : Int) < (n : Int) := of_decide_eq_true b3
          have := q1 H3 x3 (G.less ok3 (by omega))
          rw [decide_eq_true (show said = emptyT ∧ paper = some [] ∧ (0 < n ∨ ht = emptyT) from ⟨b1', b2', .inl (by omega)⟩)] at this
          exact this
        · have b3' : ¬ (0 : Int) < (n : Int) := of_decide_eq_false (Bool.eq_false_iff.mpr b3)
          have n0 : n = 0 := by omega
          refine ⟨_, rfl, rfl, _, rfl, ?_⟩
          rw [decide_eq_true (show V.int (n : Int) = V.int 0 by rw [n0]; rfl)]
          refine iteT ?_
          obtain ⟨d4, e4, h1, h2, h3, h4, h5⟩ := bk_apart (I3 hF) ok3 (G.mono x3.gr hhead) (G.mono u3.gr de) hht empty_bk
          refine ⟨_, rfl, _, rfl, d4, e4, h1, h2, h3, h4, ?_⟩
          rw [h5]
          have := q1 H3 x3 (G.less ok3 (by omega))
          rw [show decide (said = emptyT ∧ paper = some [] ∧ (0 < n ∨ ht = emptyT)) = decide (ht = emptyT) from decide_eq_decide.mpr ⟨fun h => h.2.2.resolve_left (by omega), fun h => ⟨b1', b2', .inr h⟩⟩] at this
          exact this
      · have b2' : ¬ paper = some [] := of_decide_eq_false (Bool.eq_false_iff.mpr b2)
        have := q1 H3 x3 (G.less ok3 (by omega))
        rw [decide_eq_false (show ¬ (said = emptyT ∧ paper = some [] ∧ (0 < n ∨ ht = emptyT)) from fun h => b2' h.2.1)] at this
        exact this
    · have b1' : ¬ said = emptyT := of_decide_eq_false (Bool.eq_false_iff.mpr b1)
      have := q1 H2 x2 (G.less ok2 (by omega))
      rw [decide_eq_false (show ¬ (said = emptyT ∧ paper = some [] ∧ (0 < n ∨ ht = emptyT)) from fun h => b1' h.1)] at this
      exact this
  · have c' : ¬ old = 0 := fun z => c (decide_eq_true (by rw [z]))
    have bad : ¬ (0 < old ∧ old ≤ (n : Int)) → judgeG old n said ht paper = false := fun z => by
      unfold judgeG
      rw [if_neg c']
      cases paper with
      | none => rfl
      | some ps => exact decide_eq_false fun h => z ⟨h.1, h.2.1⟩
    refine ⟨_, rfl, p, C, dx, _, _, rfl, hp, KS.cl, KS.n_old, grF_old _ _, _, _, rfl, rfl, _, rfl, ite2 (fun c1 => ?_) (fun c1 => ?_)⟩
    · have c1' : (0 : Int) < old := of_decide_eq_true c1
      refine ⟨_, rfl, _, _, rfl, rfl, _, rfl, ?_⟩
      by_cases c2 : old ≤ (n : Int)
      · rw [decide_eq_true c2]
        refine iteF ?_
        obtain ⟨o, rfl⟩ := Int.eq_ofNat_of_zero_le (show 0 ≤ old by omega)
        have gl := glen_le 10 o n (by show n ≤ 1024; omega)
        refine ⟨_, rfl, _, rfl, p, C, dx, _, _, rfl, hp, KS.cl, KS.n_old, grF_old _ _, _, rfl, _, rfl, S, o, n, v, r + 30, hF, rfl, by omega, by omega, hn, G.less hok (by omega), ?_⟩
        cases paper with
        | none => exact .inr ⟨hpap.odd.ty (Ext.refl _), fun D H' hD e ok => q2 (by unfold judgeG; rw [if_neg c']) D H' hD e (G.less ok (by omega))⟩
        | some ps =>
          obtain ⟨a, ys, rfl, ha, hd, hl, hps⟩ := hpap.get
          have ej : judgeG ((o : Nat) : Int) n said ht (some ps) = decide (0 < ((o : Nat) : Int) ∧ ((o : Nat) : Int) ≤ (n : Int) ∧ ps.length = glen o n ∧ Tm.sl "book" (.int ((o : Nat) : Int)) (regT o n ps).1 = said ∧ Tm.sl "book" (.int (n : Int)) (regT o n ps).2 = ht) := by
            unfold judgeG
            rw [if_neg c']
            rfl
          rw [ej] at q1 q2
          refine .inl ⟨a, ys, ps, rfl, ha, hd, by omega, fun hlen qb va vb H2 x2 ok2 hqb dva dvb => ?_, fun hlen D H' hD e ok => q2 (decide_eq_false fun h => hlen h.2.2.1) D H' hD e (G.less ok (by omega))⟩
          obtain ⟨w1, w2⟩ := reg_ws hlen fun t ht => (hps t ht).1
          obtain ⟨e1, e2⟩ := reg_dep (d := 28) hlen fun t ht => (hps t ht).2
          refine ⟨_, rfl, _, rfl, p, C, dx, _, _, rfl, x2.ins hp, KS.cl, KS.n_old, grF_old _ _, _, rfl, qb, _, 0, va, rfl, rfl, SqT.of hqb, rfl, S, _, va, .int ((o : Nat) : Int), _, r + 29, hF, rfl, ok2, G.int _ ok2, dva, fun u1 H3 x3 ok3 du1 => ?_⟩
          have x23 := x2.trans x3
          have bk1 : BkT (.sl "book" (.int ((o : Nat) : Int)) (regT o n ps).1) := ⟨_, _, rfl, w1, by omega⟩
          have bk2 : BkT (.sl "book" (.int (n : Int)) (regT o n ps).2) := ⟨_, _, rfl, w2, by omega⟩
          obtain ⟨d3, e3, g1, g2, g3, g4, g5⟩ := bk_apart (I3 hF) ok3 du1 (G.mono x23.gr hbv) bk1 hsaid
          refine ⟨_, rfl, p, C, dx, _, _, rfl, x23.ins hp, KS.cl, KS.n_before, grF_before _ _, d3, e3, g1, g2, g3, g4, _, rfl, ?_⟩
          rw [g5]
          refine ite2 (fun b1 => ?_) (fun b1 => ?_)
          · have b1' := of_decide_eq_true b1
            refine ⟨_, rfl, _, rfl, _, rfl, qb, _, 1, vb, rfl, rfl, SqT.of (x3.tup hqb), rfl, S, _, vb, .int (n : Int), _, r + 28, hF, rfl, ok3, G.int _ ok3, G.mono x3.gr dvb, fun u2 H4 x4 ok4 du2 => ?_⟩
            have x24 := x23.trans x4
            obtain ⟨d4, e4, h1, h2, h3, h4, h5⟩ := bk_apart (I3 hF) ok4 du2 (G.mono x24.gr hhead) bk2 hht
            refine ⟨_, rfl, d4, e4, h1, h2, h3, h4, ?_⟩
            rw [h5]
            have := q1 H4 x24 (G.less ok4 (by omega))
            rw [show decide (0 < ((o : Nat) : Int) ∧ ((o : Nat) : Int) ≤ (n : Int) ∧ ps.length = glen o n ∧ Tm.sl "book" (.int ((o : Nat) : Int)) (regT o n ps).1 = said ∧ Tm.sl "book" (.int (n : Int)) (regT o n ps).2 = ht) = decide (Tm.sl "book" (.int (n : Int)) (regT o n ps).2 = ht) from decide_eq_decide.mpr ⟨fun h => h.2.2.2.2, fun h => ⟨c1', c2, hlen, b1', h⟩⟩] at this
            exact this
          · have b1' := of_decide_eq_false (Bool.eq_false_iff.mpr b1)
            have := q1 H3 x23 (G.less ok3 (by omega))
            rw [decide_eq_false (show ¬ (0 < ((o : Nat) : Int) ∧ ((o : Nat) : Int) ≤ (n : Int) ∧ ps.length = glen o n ∧ Tm.sl "book" (.int ((o : Nat) : Int)) (regT o n ps).1 = said ∧ Tm.sl "book" (.int (n : Int)) (regT o n ps).2 = ht) from fun h => b1' h.2.2.2.1)] at this
            exact this
      · rw [decide_eq_false c2]
        refine iteT ?_
        have := q1 H (Ext.refl _) (G.less hok (by omega))
        rw [bad fun z => c2 z.2] at this
        exact this
    · have c1' : ¬ (0 : Int) < old := of_decide_eq_false (Bool.eq_false_iff.mpr c1)
      refine ⟨_, rfl, iteT ?_⟩
      have := q1 H (Ext.refl _) (G.less hok (by omega))
      rw [bad fun z => c1' z.1] at this
      exact this
def spJudgedG (K : PySem.W.Frag) (C : Addr) (Fam : Sys → Prop) : Sp := fun vs H Q _ => ∃ (S : Sys) (p dx : Addr) (old : Int) (bv : V) (said : Tm) (n : Nat) (ht : Tm) (head v : V) (paper : Option (List Tm)) (r : Nat), Fam S ∧ vs = [.ref p, .ref S.f, .int (n : Int), head, v] ∧ H p = some (.ins C dx (grF old bv)) ∧ S.den H bv said ∧ BkT said ∧ n ≤ 1000 ∧
  S.den H head ht ∧ BkT ht ∧ PapW K S H (old ≠ 0) v paper ∧ S.ok H (r + 60) ∧ (∀ H', Ext H H' → S.ok H' r → Q (.bl (judgeG old n said ht paper)) H')
theorem ok_judgedG {cc : Addr} (T : Txt K mg cc) (A : SlA P w K mg base Fam) (I3 : ∀ {S}, Fam S → S.Inj K) (KS : K_Grows K mg C) : Met P w K mg base 5 C "judged" (spJudgedG K C Fam) [] := by
  obtain ⟨C_BadPaper, g_BadPaper, F_BadPaper⟩ := T.x_BadPaper.ex
  have M_shown := ok_shownG T A I3 KS
  refine met_of KS.cl KS.m_judged sc_Claim_judged (fun vs H Q E h => ?_) (fun f cdv A' outer s H vs Q E hr h => ?_)
  · obtain ⟨S, p, dx, old, bv, said, n, ht, head, v, paper, r, _, rfl, _⟩ := h
    rfl
  obtain ⟨S, p, dx, old, bv, said, n, ht, head, v, paper, r, hF, rfl, hp, hbv, hsaid, hn, hhead, hht, hpap, hok, q⟩ := h
  refine ⟨_, (pss_one (ps_try_onlyE (pss_one (ps_ret (pv 5))) rfl rfl ⟨rfl, by decide, .inl g_BadPaper⟩ takes0 (fun W pn xe tk po => (pss_one (ps_set (i := 5) sc_Claim_judged.nd rfl (Or.inl rfl) (pe_mtx M_shown tk hr (by omega) (pv 0) (pa_cons (pv 1) (pa_cons (pv 2) (pa_cons (pv 3) (pa_cons (pv 4) pa_nil)))))))) (fun a oe cls d pn hz hf => (pss_when (P := cls = .ref C_BadPaper ∧ d = none) fun hsu => (pss_one (ps_ret pe_bl)))))), ?_⟩
  refine ⟨_, rfl, p, dx, _, rfl, hp, (grF_no _ _).2, _, rfl, _, rfl, _, rfl, _, rfl, S, p, dx, old, bv, said, n, ht, head, v, paper, r, hF, rfl, hp, hbv, hsaid, hn, hhead, hht, hpap, hok, fun H' e ok => ⟨_, rfl, q H' e ok⟩, fun hj D H' hD e ok => ?_⟩
  rw [g_BadPaper] at hD
  cases hD
  refine ⟨true, F_BadPaper.eP, fun _ p2 hp2 => ⟨⟨rfl, rfl⟩, ?_⟩, fun z => nomatch z⟩
  have := q H' e ok
  rw [hj] at this
  exact this
end

/-! ### papers bent -/
section
variable {P : Program} {w : World} {K : PySem.W.Frag} {mg : Str → Option Value} {base : Heap} {Fam : Sys → Prop}
def OkT (t : Tm) : Prop := WS t ∧ t.dep ≤ 28
theorem odd_tup {S : Sys} (G : S.Good K) {H : Hp} {q : Addr} {ys : List V} {ps : List Tm} (hq : H q = some (.tup ys)) (hd : DenL S H ys ps) (hp : ∀ t ∈ ps, OkT t) : ∀ H', Ext H H' → Odd K H' (.ref q) := by
  intro H' e
  have ht' := e.tup hq
  refine ⟨⟨.type "tuple", .base (.tup ht'), kit_ty (by decide +kernel)⟩, ?_⟩
  have hdx := hd.mono G e.gr
  obtain ⟨ds, m1, _, m3, m4⟩ := DenL.same (K := K) (n := 28) G hdx hdx fun t ht => (hp t ht).2
  exact ⟨.tuple ds, .tup (SqT.of ht') m1, shaped_of m3 (by show PyData.depthAll ds + 1 ≤ 64; omega), rfl⟩
theorem odd_non {H : Hp} : ∀ H', Ext H H' → Odd K H' .non := fun _ _ => ⟨⟨_, .base .non, kit_ty (by decide +kernel)⟩, .none, .non, by decide +kernel, rfl⟩
theorem odd_str {H : Hp} : ∀ H', Ext H H' → Odd K H' (.str "ab") := fun _ _ => ⟨⟨_, .base (.str _), kit_ty (by decide +kernel)⟩, .str "ab", .str _, by decide +kernel, rfl⟩
theorem odd_int {H : Hp} : ∀ H', Ext H H' → Odd K H' (.int 5) := fun _ _ => ⟨⟨_, .base (.int _), kit_ty (by decide +kernel)⟩, .int 5, .int _, by decide +kernel, rfl⟩
theorem four_at {v0 v1 v2 v3 : V} {z : Int} (h0 : 0 ≤ z) (h1 : z < 4) : ∃ v, atI [v0, v1, v2, v3] z = some v ∧ (v = v0 ∨ v = v1 ∨ v = v2 ∨ v = v3) := by
  have : z = 0 ∨ z = 1 ∨ z = 2 ∨ z = 3 := by omega
  rcases this with rfl | rfl | rfl | rfl
  · exact ⟨v0, rfl, .inl rfl⟩
  · exact ⟨v1, rfl, .inr (.inl rfl)⟩
  · exact ⟨v2, rfl, .inr (.inr (.inl rfl))⟩
  · exact ⟨v3, rfl, .inr (.inr (.inr rfl))⟩
theorem DenL.at_mem {S : Sys} {H : Hp} {xs : List V} {ts : List Tm} (h : DenL S H xs ts) {i : Int} (h0 : 0 ≤ i) (h1 : i < (ts.length : Int)) : ∃ v t, atI xs i = some v ∧ S.den H v t ∧ t ∈ ts := by
  obtain ⟨n, rfl⟩ := Int.eq_ofNat_of_zero_le h0
  have hn : n < ts.length := by omega
  obtain ⟨v, e, d⟩ := h.get hn
  exact ⟨v, _, atI_nat e, d, List.getElem_mem hn⟩
theorem DenL.reverse {S : Sys} {H : Hp} {vs : List V} {ts : List Tm} (h : DenL S H vs ts) : DenL S H vs.reverse ts.reverse := by
  have hl := h.len
  refine ⟨by rw [List.length_reverse, List.length_reverse, hl], fun i v t a b => ?_⟩
  have hi : i < vs.length := by
    have := (List.getElem?_eq_some_iff.mp a).1
    rwa [List.length_reverse] at this
  rw [List.getElem?_reverse hi] at a
  rw [List.getElem?_reverse (by omega), ← hl] at b
  exact h.at_ _ v t a b
end

/-! ### a way comes to one top alone -/
def forkT (a b : Tm) : Tm := .sl "fork" a b
def rowT (k : Int) (x : Str) : Tm := .sl "row" (.int k) (.str x)
theorem forkT_inj {a b c d : Tm} (h : forkT a b = forkT c d) : a = c ∧ b = d := ⟨(Tm.sl.inj h).2.1, (Tm.sl.inj h).2.2⟩
/-- what stands at the end of a way -/
def endT : List (Int × Str) → Tm
  | [] => nonT
  | e :: _ => rowT e.1 e.2
theorem endT_nf (r : List (Int × Str)) (a b : Tm) : endT r ≠ forkT a b := by
  cases r with
  | nil => exact fun h => absurd (Tm.sl.inj h).1 (by decide +kernel)
  | cons e r => exact fun h => absurd (Tm.sl.inj h).1 (by decide +kernel)
theorem endT_inj {r s : List (Int × Str)} (hr : r.length ≤ 1) (hs : s.length ≤ 1) (h : endT r = endT s) : r = s := by
  match r, s, hr, hs, h with
  | [], [], _, _, _ => rfl
  | [], _ :: _, _, _, h => exact absurd (Tm.sl.inj h).1 (by decide +kernel)
  | _ :: _, [], _, _, h => exact absurd (Tm.sl.inj h).1 (by decide +kernel)
  | [e], [f], _, _, h =>
    have h2 := (Tm.sl.inj h).2
    have a := Tm.int.inj h2.1
    have b := Tm.str.inj h2.2
    rw [show e = f from Prod.ext a b]
  | _ :: _ :: _, _, hr, _, _ => simp at hr
  | _, _ :: _ :: _, _, hs, _ => simp at hs
theorem endT_part (l : Nat) {r : List (Int × Str)} (hr : r.length ≤ 1) : partT l r = endT r := by
  match r, hr with
  | [], _ => exact partT_nil l
  | [e], _ => exact partT_one l e
  | _ :: _ :: _, hr => simp at hr
def climbT (k : Int) : Nat → List Tm → Tm → Tm
  | _, [], e => e
  | 0, _ :: _, _ => nonT
  | l + 1, o :: os, e => if k / 2 ^ l % 2 = 0 then forkT (climbT k l os e) o else forkT o (climbT k l os e)
theorem climbT_nil (k : Int) (l : Nat) (e : Tm) : climbT k l [] e = e := by cases l <;> rfl
/-- the way of a key climbs to the table's top, and no other one does -/
theorem climb_inj (k : Int) : ∀ (l : Nat) (os : List Tm) (r rows : List (Int × Str)), os.length ≤ l → r.length ≤ 1 → RowsOk l rows → (climbT k l os (endT r) = partT l rows ↔ (os, r) = wayT l rows k)
  | l, [], r, rows, _, hr, hrows => by
    rw [climbT_nil]
    by_cases c : rows.length ≤ 1
    · rw [wayT_few c, endT_part l c]
      exact ⟨fun h => by rw [endT_inj hr c h], fun h => by rw [show r = rows from (Prod.ext_iff.mp h).2]⟩
    · cases l with
      | zero => exact absurd hrows.zero c
      | succ l =>
        rw [partT_more (by omega), wayT_more (by omega)]
        exact ⟨fun h => absurd h (endT_nf _ _ _), fun h => by have := (Prod.ext_iff.mp h).1; cases this⟩
  | 0, _ :: _, _, _, hl, _, _ => absurd hl (by simp)
  | l + 1, o :: os, r, rows, hl, hr, hrows => by
    by_cases c : rows.length ≤ 1
    · rw [wayT_few c, endT_part _ c]
      refine ⟨fun h => ?_, fun h => by have := (Prod.ext_iff.mp h).1; cases this⟩
      unfold climbT at h
      split at h
      · exact absurd h.symm (endT_nf _ _ _)
      · exact absurd h.symm (endT_nf _ _ _)
    · rw [partT_more (by omega), wayT_more (by omega)]
      have hl' : os.length ≤ l := by simpa using hl
      unfold climbT
      rcases bit01 k l with h | h
      · rw [if_pos h, h]
        have ih := climb_inj k l os r (rows.filter (bitK l 0)) hl' hr hrows.part
        constructor
        · intro q
          obtain ⟨q1, q2⟩ := forkT_inj q
          have q3 := ih.mp q1
          rw [← (Prod.ext_iff.mp q3).1, ← (Prod.ext_iff.mp q3).2, q2]
          rfl
        · intro q
          have q1 := (Prod.ext_iff.mp q).1
          have q2 := (Prod.ext_iff.mp q).2
          injection q1 with q3 q4
          rw [ih.mpr (Prod.ext q4 q2), q3]
          rfl
      · rw [if_neg (by rw [h]; decide), h]
        have ih := climb_inj k l os r (rows.filter (bitK l 1)) hl' hr hrows.part
        constructor
        · intro q
          obtain ⟨q1, q2⟩ := forkT_inj q
          have q3 := ih.mp q2
          rw [← (Prod.ext_iff.mp q3).1, ← (Prod.ext_iff.mp q3).2, q1]
          rfl
        · intro q
          have q1 := (Prod.ext_iff.mp q).1
          have q2 := (Prod.ext_iff.mp q).2
          injection q1 with q3 q4
          rw [ih.mpr (Prod.ext q4 q2), q3]
          rfl
theorem climb_dep {k : Int} {d : Nat} : ∀ (l : Nat) (os : List Tm) (e : Tm), e.dep ≤ d → (∀ t ∈ os, t.dep ≤ d) → (climbT k l os e).dep ≤ d + os.length
  | l, [], e, he, _ => by rw [climbT_nil]; exact Nat.le_trans he (Nat.le_add_right _ _)
  | 0, _ :: os, e, _, _ => by show max 0 0 + 1 ≤ d + (os.length + 1); omega
  | l + 1, o :: os, e, he, ho => by
    have ih := climb_dep (k := k) (d := d) l os e he fun t ht => ho t (List.mem_cons_of_mem _ ht)
    have h1 := ho o List.mem_cons_self
    unfold climbT
    split
    · show max (climbT k l os e).dep o.dep + 1 ≤ d + (os.length + 1)
      omega
    · show max o.dep (climbT k l os e).dep + 1 ≤ d + (os.length + 1)
      omega
theorem climb_ws {k : Int} : ∀ (l : Nat) (os : List Tm) (e : Tm), WS e → (∀ t ∈ os, WS t) → WS (climbT k l os e)
  | l, [], e, he, _ => by rw [climbT_nil]; exact he
  | 0, _ :: _, _, _, _ => .non
  | l + 1, o :: os, e, he, ho => by
    have ih := climb_ws (k := k) l os e he fun t ht => ho t (List.mem_cons_of_mem _ ht)
    have h1 := ho o List.mem_cons_self
    unfold climbT
    split
    · exact .fork ih h1
    · exact .fork h1 ih
theorem endT_ws (r : List (Int × Str)) : WS (endT r) := by
  cases r with
  | nil => exact .non
  | cons e r => exact .row _ _
theorem endT_dep (r : List (Int × Str)) : (endT r).dep ≤ 1 := by
  cases r with
  | nil => exact Nat.le_refl _
  | cons e r => exact Nat.le_refl _
theorem partT_ws : ∀ (l : Nat) (rows : List (Int × Str)), WS (partT l rows)
  | l, [] => by rw [partT_nil]; exact .non
  | l, [e] => by rw [partT_one]; exact .row _ _
  | 0, _ :: _ :: _ => .non
  | l + 1, a :: b :: r => .fork (partT_ws l _) (partT_ws l _)
theorem wayT_ws : ∀ (l : Nat) (rows : List (Int × Str)) (k : Int), ∀ t ∈ (wayT l rows k).1, WS t
  | 0, _, _ => fun t h => nomatch h
  | l + 1, rows, k => by
    by_cases h : rows.length ≤ 1
    · rw [wayT_few h]
      exact fun t h => nomatch h
    · rw [wayT_more (by omega)]
      intro t ht
      rcases List.mem_cons.mp ht with rfl | ht
      · exact partT_ws l _
      · exact wayT_ws l _ k t ht
/-- one step of the climbing -/
def upT (k : Int) (l : Nat) (t o : Tm) : Tm := if k / 2 ^ l % 2 = 0 then forkT t o else forkT o t
theorem climb_drop (k : Int) (e : Tm) : ∀ (l : Nat) (os : List Tm) (i : Nat) (o : Tm), os.length ≤ l → os[i]? = some o → climbT k (l - i) (os.drop i) e = upT k (l - i - 1) (climbT k (l - i - 1) (os.drop (i + 1)) e) o
  | l, os, i, o, hl, ho => by
    obtain ⟨hi, hx⟩ := List.getElem?_eq_some_iff.mp ho
    obtain ⟨m, hm⟩ : ∃ m, l - i = m + 1 := ⟨l - i - 1, by omega⟩
    rw [hm, List.drop_eq_getElem_cons hi, hx]
    rfl

/-! ### papers of a key -/
abbrev EndM := Option (List (Int × Str))
abbrev WayM := Option (List Tm × EndM)
abbrev PapM := Option (Str × Tm × Option (List Tm) × WayM)
def NoT (K : PySem.W.Frag) (H : Hp) (v : V) (T : String) : Prop := ∀ H', Ext H H' → ∃ t, TyX K H' v t ∧ PySem.W.kitOne K t (.type T) = some false
def OddD (K : PySem.W.Frag) (H : Hp) (v : V) (P : PyData → Prop) : Prop := ∀ H', Ext H H' → ∃ d, Dp K H' v d ∧ d.canLay0 = true ∧ d.depth ≤ 50 ∧ P d
def EndAt (K : PySem.W.Frag) (H : Hp) (e : V) : EndM → Prop
  | some rr => EndV H e rr
  | none => e ≠ .non ∧ (NoT K H e "tuple" ∨ ∃ q ys, e = .ref q ∧ H q = some (.tup ys) ∧ ys.length ≠ 2) ∧ OddD K H e fun d => d ≠ .none ∧ ∀ a b, d ≠ .tuple [a, b]
def WayAt (K : PySem.W.Frag) (S0 : Sys) (H : Hp) (v : V) : WayM → Prop
  | some (os, e) => ∃ q o ev ys, v = .ref q ∧ H q = some (.tup [.ref o, ev]) ∧ H o = some (.lst ys) ∧ DenL S0 H ys os ∧ (∀ t ∈ os, WS t ∧ t.dep ≤ 20) ∧ os.length ≤ 20 ∧ EndAt K H ev e
  | none => (NoT K H v "tuple" ∨ ∃ q ys, v = .ref q ∧ H q = some (.tup ys) ∧ (ys.length ≠ 2 ∨ ∃ u e, ys = [u, e] ∧ NoT K H u "list")) ∧ OddD K H v fun d => ∀ a b, d ≠ .tuple [.list a, b]
def PathAt (K : PySem.W.Frag) (S0 : Sys) (H : Hp) (v : V) (p : Option (List Tm)) : Prop := Pap K S0 H v p ∧ (p = none → OddD K H v fun d => ∀ a, d ≠ .list a)
def PapAt (K : PySem.W.Frag) (S0 : Sys) (H : Hp) (v : V) : PapM → Prop
  | some (x, tt, path, way) => ∃ q xv tv pv wv, v = .ref q ∧ H q = some (.tup [xv, tv, pv, wv]) ∧ S0.den H xv (.str x) ∧ S0.den H tv tt ∧ WS tt ∧ tt.dep ≤ 18 ∧ PathAt K S0 H pv path ∧ WayAt K S0 H wv way
  | none => (NoT K H v "tuple" ∨ ∃ q ys, v = .ref q ∧ H q = some (.tup ys) ∧ ys.length ≠ 4) ∧ OddD K H v fun d => ∀ a b c e, d ≠ .tuple [a, b, c, e]
section
variable {K : PySem.W.Frag} {S0 : Sys} {H H' : Hp} {v : V}
theorem NoT.ext {T : String} (h : NoT K H v T) (x : Ext H H') : NoT K H' v T := fun H2 y => h H2 (x.trans y)
theorem OddD.ext {P : PyData → Prop} (h : OddD K H v P) (x : Ext H H') : OddD K H' v P := fun H2 y => h H2 (x.trans y)
theorem EndAt.ext {e : EndM} (h : EndAt K H v e) (x : Ext H H') : EndAt K H' v e := by
  cases e with
  | some rr => exact EndV.gr h x.gr
  | none =>
    obtain ⟨a, b, c⟩ := h
    refine ⟨a, ?_, c.ext x⟩
    rcases b with b | ⟨q, ys, rfl, g1, g2⟩
    · exact .inl (b.ext x)
    · exact .inr ⟨q, ys, rfl, x.tup g1, g2⟩
theorem WayAt.ext (G : S0.Good K) {w : WayM} (h : WayAt K S0 H v w) (x : Ext H H') : WayAt K S0 H' v w := by
  cases w with
  | some p =>
    obtain ⟨os, e⟩ := p
    obtain ⟨q, o, ev, ys, rfl, g1, g2, g3, g4, g5, g6⟩ := h
    exact ⟨q, o, ev, ys, rfl, x.tup g1, x.lst g2, g3.mono G x.gr, g4, g5, g6.ext x⟩
  | none =>
    obtain ⟨b, c⟩ := h
    refine ⟨?_, c.ext x⟩
    rcases b with b | ⟨q, ys, rfl, g1, g2⟩
    · exact .inl (b.ext x)
    · refine .inr ⟨q, ys, rfl, x.tup g1, ?_⟩
      rcases g2 with g2 | ⟨u, e, g3, g4⟩
      · exact .inl g2
      · exact .inr ⟨u, e, g3, g4.ext x⟩
theorem PathAt.ext (G : S0.Good K) {p : Option (List Tm)} (h : PathAt K S0 H v p) (x : Ext H H') : PathAt K S0 H' v p := ⟨h.1.ext G x, fun e => (h.2 e).ext x⟩
theorem PapAt.ext (G : S0.Good K) {p : PapM} (h : PapAt K S0 H v p) (x : Ext H H') : PapAt K S0 H' v p := by
  cases p with
  | some p =>
    obtain ⟨tx, tt, path, way⟩ := p
    obtain ⟨q, xv, tv, pv, wv, rfl, g1, g2, g3, g4, g5, g6, g7⟩ := h
    exact ⟨q, xv, tv, pv, wv, rfl, x.tup g1, G.mono x.gr g2, G.mono x.gr g3, g4, g5, g6.ext G x, g7.ext G x⟩
  | none =>
    obtain ⟨b, c⟩ := h
    refine ⟨?_, c.ext x⟩
    rcases b with b | ⟨q, ys, rfl, g1, g2⟩
    · exact .inl (b.ext x)
    · exact .inr ⟨q, ys, rfl, x.tup g1, g2⟩
end
def climbO (k : Int) (l : Nat) : WayM → Option Tm
  | some (os, some rr) => if os.length ≤ l then some (climbT k l os (endT rr)) else none
  | _ => none
section
variable {P : Program} {w : World} {K : PySem.W.Frag} {mg : Str → Option Value} {base : Heap} {Fam : Sys → Prop}
def spClimbed (K : PySem.W.Frag) (mg : Str → Option Value) (Fam : Sys → Prop) : Sp := fun vs H Q E => ∃ (S0 : Sys) (k : Int) (l : Nat) (v : V) (wm : WayM) (r : Nat), Fam S0 ∧ vs = [.ref S0.f, .int k, .int (l : Int), v] ∧ 0 ≤ k ∧ l ≤ 1000 ∧ WayAt K S0 H v wm ∧ S0.ok H (r + 25) ∧
  (∀ t, climbO k l wm = some t → ∀ u H', Ext H H' → S0.ok H' r → S0.den H' u t → Q u H') ∧ (climbO k l wm = none → ∀ D, mg "BadPaper" = some (.ref D) → E (.ref D) none H)
theorem ok_climbed {cc : Addr} (T : Txt K mg cc) (A : SlA P w K mg base Fam) : CalX P w K mg base 3 "climbed" (spClimbed K mg Fam) := by
  have Z := T.Z
  obtain ⟨C_BadPaper, g_BadPaper, F_BadPaper⟩ := T.x_BadPaper.ex
  have C_none_seal := ok_none_seal T A
  refine calX_of T.d_climbed sc_climbed (fun vs H Q E h => ?_) (fun f cdv A' outer s H vs Q E hr h => ?_)
  · obtain ⟨S0, k, l, v, wm, r, _, rfl, _⟩ := h
    rfl
  obtain ⟨S0, k, l, v, wm, r, hF, rfl, hk, hl, hw, hok, q1, q2⟩ := h
  have G := A.good hF
  refine ⟨_, (pss_cons (ps_if (PW.pt (pw_or (pt_not (pt_val (pe_callB call_isi rfl Z.isinstance (by decide +kernel) (pa_cons (pv 3) (pa_cons (pe_bltn (v := .ty "tuple") rfl Z.tuple (by decide +kernel) rfl) pa_nil))))) (pw_or (pt_cmpR op_ne (pe_callB call_len_seq rfl Z.len PySem.boot_len (pa_cons (pv 3) pa_nil)) pe_int (nomark _)) (pw_or (pt_not (pt_val (pe_callB call_isi rfl Z.isinstance (by decide +kernel) (pa_cons (pe_ix ix_tup (pv 3) pe_int (fun _ _ => rfl)) (pa_cons (pe_bltn (v := .ty "list") rfl Z.list (by decide +kernel) rfl) pa_nil))))) (pw_or1 (pt_cmpR op_gt (pe_callB call_len_seq rfl Z.len PySem.boot_len (pa_cons (pe_ix ix_tup (pv 3) pe_int (fun _ _ => rfl)) pa_nil)) (pv 2) (nomark _))))))) (pss_one (ps_raiseX F_BadPaper g_BadPaper rfl (takes_of rfl rfl rfl rfl) rfl)) pss_nil)
  (pss_cons (ps_set (i := 4) sc_climbed.nd rfl (Or.inl rfl) (pe_ix ix_tup (pv 3) pe_int (fun _ _ => rfl)))
  (Evl.pss_cut (ps_if (pt_cmpR op_isN (pv 4) pe_non (nomark _)) (pss_one (ps_set (i := 5) sc_climbed.nd rfl (Or.inl rfl) (pe_c C_none_seal hr (by omega) rfl (pa_cons (pv 0) pa_nil)))) (pss_one (ps_if (PW.pt (pw_and (pt_val (pe_callB call_isi rfl Z.isinstance (by decide +kernel) (pa_cons (pv 4) (pa_cons (pe_bltn (v := .ty "tuple") rfl Z.tuple (by decide +kernel) rfl) pa_nil)))) (pw_and1 (pt_cmpR op_eq (pe_callB call_len_seq rfl Z.len PySem.boot_len (pa_cons (pv 4) pa_nil)) pe_int (nomark _))))) (pss_one (ps_set (i := 5) sc_climbed.nd rfl (Or.inl rfl) (pe_sl (i := 0) A.held hr (by omega) rfl (by first | exact Or.inl rfl | exact Or.inr (Or.inl rfl) | exact Or.inr (Or.inr rfl)) (pa_cons pe_str (pa_cons (pe_ix ix_tup (pv 4) pe_int (fun _ _ => rfl)) (pa_cons (pe_ix ix_tup (pv 4) pe_int (fun _ _ => rfl)) pa_nil)))))) (pss_one (ps_raiseX F_BadPaper g_BadPaper rfl (takes_of rfl rfl rfl rfl) rfl)))))
  (pss_cons (ps_set (i := 6) sc_climbed.nd rfl (Or.inl rfl) (pe_op op_sub (pv 2) (pe_callB call_len_seq rfl Z.len PySem.boot_len (pa_cons (pe_ix ix_tup (pv 3) pe_int (fun _ _ => rfl)) pa_nil))))
  (pss_cons (ps_for (passes_of rfl) rfl (pi_reversed rfl Z.reversed (pa_cons (pe_ix ix_tup (pv 3) pe_int (fun _ _ => rfl)) pa_nil)) (pg_name (i := 7) sc_climbed.nd rfl (Or.inl rfl)) (pss_cons (ps_if (pt_cmpR op_eq (pe_op op_odd (pe_op op_shrN (pv 1) (pv 6)) pe_int) pe_int (nomark _)) (pss_one (ps_set (i := 5) sc_climbed.nd rfl (Or.inl rfl) (pe_sl (i := 0) A.held hr (by omega) rfl (by first | exact Or.inl rfl | exact Or.inr (Or.inl rfl) | exact Or.inr (Or.inr rfl)) (pa_cons pe_str (pa_cons (pv 5) (pa_cons (pv 7) pa_nil)))))) (pss_one (ps_set (i := 5) sc_climbed.nd rfl (Or.inl rfl) (pe_sl (i := 0) A.held hr (by omega) rfl (by first | exact Or.inl rfl | exact Or.inr (Or.inl rfl) | exact Or.inr (Or.inr rfl)) (pa_cons pe_str (pa_cons (pv 7) (pa_cons (pv 5) pa_nil)))))))
  (pss_one (ps_aug (i := 6) sc_climbed.nd rfl (Or.inl rfl) pe_int ip_add))))
  (pss_one (ps_ret (pv 5)))))))), ?_⟩
  cases wm with
  | none =>
    obtain ⟨b, c⟩ := hw
    rcases b with b | ⟨q, ys, rfl, hq, b⟩
    · obtain ⟨t, hty, hkt⟩ := b H (Ext.refl H)
      exact ⟨_, rfl, v, .ty "tuple", _, _, false, rfl, .ty "tuple", hty, hkt, false, rfl, q2 rfl _ g_BadPaper⟩
    · refine ⟨_, rfl, .ref q, .ty "tuple", _, _, true, rfl, .ty "tuple", .base (.tup hq), kit_ty (by decide +kernel), true, rfl, ?_⟩
      refine ⟨_, rfl, q, ys, rfl, .inr (SqT.of hq), rfl, _, rfl, ?_⟩
      by_cases c2 : ys.length = 2
      · rw [decide_eq_true (show V.int (ys.length : Int) = V.int 2 by rw [c2]; rfl)]
        refine iteF ?_
        obtain ⟨u, e, rfl, hu⟩ := b.resolve_left fun z => z c2
        obtain ⟨t, hty, hkt⟩ := hu H (Ext.refl H)
        exact ⟨_, rfl, q, _, 0, u, rfl, rfl, SqT.of hq, rfl, u, .ty "list", _, _, false, rfl, .ty "list", hty, hkt, false, rfl, q2 rfl _ g_BadPaper⟩
      · rw [decide_eq_false (fun z => c2 (by have := V.int.inj z; omega))]
        refine iteT ?_
        refine iteT ?_
        exact q2 rfl _ g_BadPaper
  | some wp =>
    obtain ⟨os, e⟩ := wp
    obtain ⟨wq, o, ev, ys, rfl, hwq, ho, hd, hos, hosl, hev⟩ := hw
    have hyl := hd.len
    refine ⟨_, rfl, .ref wq, .ty "tuple", _, _, true, rfl, .ty "tuple", .base (.tup hwq), kit_ty (by decide +kernel), true, rfl, ?_⟩
    refine ⟨_, rfl, wq, _, rfl, .inr (SqT.of hwq), rfl, _, rfl, ?_⟩
    refine iteF ?_
    refine ⟨_, rfl, wq, _, 0, .ref o, rfl, rfl, SqT.of hwq, rfl, .ref o, .ty "list", _, _, true, rfl, .ty "list", .base (.lst ho), kit_ty (by decide +kernel), true, rfl, ?_⟩
    refine ⟨_, rfl, wq, _, 0, .ref o, rfl, rfl, SqT.of hwq, rfl, o, ys, rfl, .inl (SqL.of ho), _, rfl, _, _, rfl, rfl, _, rfl, ?_⟩
    by_cases c1 : os.length ≤ l
    · rw [decide_eq_false (show ¬ (l : Int) < (ys.length : Int) by omega)]
      refine iteF ?_
      refine ⟨_, rfl, wq, _, 1, ev, rfl, rfl, SqT.of hwq, rfl, ?_⟩
      cases e with
      | none =>
        obtain ⟨e1, e2, _⟩ := hev
        have q2 := q2 rfl _ g_BadPaper
        refine ⟨fun _ _ => False, ?_, fun _ _ z => z.elim⟩
        refine ⟨_, rfl, rfl, _, rfl, ?_⟩
        rw [decide_eq_false e1]
        refine iteF ?_
        rcases e2 with e2 | ⟨q, zs, rfl, hq, e2⟩
        · obtain ⟨t, hty, hkt⟩ := e2 H (Ext.refl H)
          exact ⟨_, rfl, ev, .ty "tuple", _, _, false, rfl, .ty "tuple", hty, hkt, false, rfl, q2⟩
        · refine ⟨_, rfl, .ref q, .ty "tuple", _, _, true, rfl, .ty "tuple", .base (.tup hq), kit_ty (by decide +kernel), true, rfl, ?_⟩
          refine ⟨_, rfl, q, zs, rfl, .inr (SqT.of hq), rfl, _, rfl, ?_⟩
          rw [decide_eq_false (fun z => e2 (by have := V.int.inj z; omega))]
          exact q2
      | some rr =>
        refine ⟨fun σ H' => ∃ tv : V, σ = [some (.ref S0.f), some (.int k), some (.int (l : Int)), some (.ref wq), some ev, some tv, none, none] ∧ Ext H H' ∧ S0.ok H' (r + 22) ∧ S0.den H' tv (endT rr), ?_, ?_⟩
        · rcases hev with ⟨rfl, rfl⟩ | ⟨x, qe, rfl, rfl, hqe, htx⟩
          · refine ⟨_, rfl, rfl, _, rfl, ?_⟩
            refine iteT ?_
            refine ⟨_, rfl, S0, r + 24, hF, rfl, hok, fun v0 H3 x3 ok3 d3 => ?_⟩
            exact ⟨v0, rfl, x3, G.less ok3 (by omega), d3⟩
          · refine ⟨_, rfl, rfl, _, rfl, ?_⟩
            rw [decide_eq_false (fun z => nomatch z)]
            refine iteF ?_
            refine ⟨_, rfl, .ref qe, .ty "tuple", _, _, true, rfl, .ty "tuple", .base (.tup hqe), kit_ty (by decide +kernel), true, rfl, ?_⟩
            refine ⟨_, rfl, qe, _, rfl, .inr (SqT.of hqe), rfl, _, rfl, ?_⟩
            refine iteT ?_
            refine ⟨S0, _, hF, rfl, hok, _, rfl, qe, _, 0, _, rfl, rfl, SqT.of hqe, rfl, _, rfl, qe, _, 1, _, rfl, rfl, SqT.of hqe, rfl, r + 24, "row", .int x.1, .str x.2, _, _, rfl, by decide +kernel, hok, G.int _ hok, G.str _ hok htx, fun u H4 x4 ok4 d4 => ?_⟩
            exact ⟨u, rfl, x4, G.less ok4 (by omega), d4⟩
        rintro σ H1 ⟨tv, rfl, x1, ok1, d1⟩
        have q3 := fun u H' e ok d => q1 (climbT k l os (endT rr)) (if_pos c1) u H' e ok d
        have hw1 := x1.tup hwq
        refine ⟨_, rfl, _, rfl, wq, _, 0, .ref o, rfl, rfl, SqT.of hw1, rfl, o, ys, rfl, .inl (SqL.of (x1.lst ho)), _, _, rfl, rfl, ?_⟩
        refine ⟨_, rfl, wq, _, 0, .ref o, rfl, rfl, SqT.of hw1, rfl, o, ys, rfl, SqL.of (x1.lst ho), ?_⟩
        refine RT.for_Itv (K := K) (a := o) (xs := ys) (fun i σ H' => ∃ (tv : V) (y7 : Option V), σ = [some (.ref S0.f), some (.int k), some (.int (l : Int)), some (.ref wq), some ev, some tv, some (.int (((l - os.length + i : Nat)) : Int)), y7] ∧ Ext H1 H' ∧ S0.ok H' (r + 22 - i) ∧ S0.den H' tv (climbT k (l - (os.length - i)) (os.drop (os.length - i)) (endT rr)))
          ⟨tv, none, ?_, Ext.refl _, ok1, ?_⟩ (fun i σ H' ⟨_, _, _, x, _⟩ => SqL.of (x.lst (x1.lst ho))) ?_ ?_
        · rw [show ((l - os.length + 0 : Nat) : Int) = (l : Int) - (ys.length : Int) by omega]
          rfl
        · rw [Nat.sub_zero, List.drop_length, climbT_nil]
          exact d1
        · rintro i x σ H2 hi hx ⟨tv2, y7, rfl, x2, ok2, d2⟩
          obtain ⟨j, hj⟩ : ∃ j, j = os.length - 1 - i := ⟨_, rfl⟩
          have hjl : j < os.length := by omega
          obtain ⟨oj, hoj⟩ : ∃ oj, os[j]? = some oj := ⟨os[j]'hjl, List.getElem?_eq_getElem _⟩
          rw [hyl, ← hj] at hx
          have dx := G.mono (x1.trans x2).gr (hd.at_ j x oj hx hoj)
          have hup := climb_drop k (endT rr) l os j oj c1 hoj
          have e1 : os.length - (i + 1) = j := by omega
          have e2 : os.length - i = j + 1 := by omega
          have e3 : l - os.length + i = l - j - 1 := by omega
          have e4 : l - (j + 1) = l - j - 1 := by omega
          rw [e1, hup]
          rw [e2, e4] at d2
          rw [e3]
          generalize hm : l - j - 1 = m at d2 ⊢
          obtain ⟨n, hn⟩ := Int.eq_ofNat_of_zero_le (Int.ediv_nonneg hk (Int.le_of_lt (show (0 : Int) < 2 ^ m from Int.pow_pos (by decide))))
          have hbit : k / 2 ^ m % 2 = ((n % 2 : Nat) : Int) := by rw [hn]; omega
          have e5 : r + 22 - i = (r + 22 - (i + 1)) + 1 := by omega
          refine ⟨_, rfl, _, rfl, _, m, rfl, rfl, n, by rw [hn], rfl, rfl, _, rfl, ite2 (fun c => ?_) (fun c => ?_)⟩
          · have c' : k / 2 ^ m % 2 = 0 := by rw [hbit]; exact V.int.inj (of_decide_eq_true c)
            refine ⟨S0, _, hF, rfl, ok2, _, rfl, _, rfl, r + 22 - (i + 1), "fork", climbT k m (os.drop (j + 1)) (endT rr), oj, _, _, rfl, by decide +kernel, by rw [← e5]; exact ok2, d2, dx, fun u H4 x4 ok4 d4 => ?_⟩
            refine ⟨_, rfl, _, _, rfl, rfl, ?_⟩
            refine ⟨u, some x, ?_, x2.trans x4, ok4, ?_⟩
            · rw [show ((l - os.length + (i + 1) : Nat) : Int) = (m : Int) + 1 by omega]
              rfl
            · unfold upT
              rw [if_pos c']
              exact d4
          · have c' : ¬ k / 2 ^ m % 2 = 0 := by rw [hbit]; exact fun z => c (decide_eq_true (congrArg V.int z))
            refine ⟨S0, _, hF, rfl, ok2, _, rfl, _, rfl, r + 22 - (i + 1), "fork", oj, climbT k m (os.drop (j + 1)) (endT rr), _, _, rfl, by decide +kernel, by rw [← e5]; exact ok2, dx, d2, fun u H4 x4 ok4 d4 => ?_⟩
            refine ⟨_, rfl, _, _, rfl, rfl, ?_⟩
            refine ⟨u, some x, ?_, x2.trans x4, ok4, ?_⟩
            · rw [show ((l - os.length + (i + 1) : Nat) : Int) = (m : Int) + 1 by omega]
              rfl
            · unfold upT
              rw [if_neg c']
              exact d4
        · rintro σ H2 ⟨tv2, y7, rfl, x2, ok2, d2⟩
          rw [hyl, Nat.sub_self, Nat.sub_zero, List.drop_zero] at d2
          exact ⟨_, rfl, q3 _ _ (x1.trans x2) (G.less ok2 (by omega)) d2⟩
    · rw [decide_eq_true (show (l : Int) < (ys.length : Int) by omega)]
      refine iteT ?_
      exact q2 (by cases e with | none => rfl | some rr => exact if_neg c1) _ g_BadPaper
end

/-! ### claims of a key -/
structure BhCl where
  place : Int
  key : Int
  depth : Int
  said : Option Str
def bhF (c : BhCl) : List (Str × V) := ("place", .int c.place) :: ("key", .int c.key) :: ("depth", .int c.depth) :: (match c.said with | none => [] | some x => [("said", .str x)])
theorem bhF_place (c : BhCl) : (bhF c).lookup ("place" : Str) = some (.int c.place) := by kernel_rfl
theorem bhF_key (c : BhCl) : (bhF c).lookup ("key" : Str) = some (.int c.key) := by kernel_rfl
theorem bhF_depth (c : BhCl) : (bhF c).lookup ("depth" : Str) = some (.int c.depth) := by kernel_rfl
theorem bhF_said {p k d : Int} {x : Str} : (bhF ⟨p, k, d, some x⟩).lookup ("said" : Str) = some (.str x) := by kernel_rfl
theorem bhF_no (c : BhCl) : (bhF c).lookup ("judged" : Str) = none ∧ (bhF c).lookup ("shown" : Str) = none ∧ (bhF c).lookup ("ends" : Str) = none := by
  obtain ⟨p, k, d, s⟩ := c
  cases s with
  | none => exact ⟨by kernel_rfl, by kernel_rfl, by kernel_rfl⟩
  | some x => exact ⟨by kernel_rfl, by kernel_rfl, by kernel_rfl⟩
theorem bhF_mk (p k d : Int) : putF "depth" (.int d) (putF "key" (.int k) (putF "place" (.int p) [])) = bhF ⟨p, k, d, none⟩ := by kernel_rfl
theorem bhF_mk2 (p k d : Int) (x : Str) : putF "said" (.str x) (bhF ⟨p, k, d, none⟩) = bhF ⟨p, k, d, some x⟩ := by kernel_rfl
structure BhC (K : PySem.W.Frag) (C : Addr) : Prop where
  cl : Cls K C
  n_place : NoAttr K C "place"
  n_key : NoAttr K C "key"
  n_depth : NoAttr K C "depth"
structure BhK (K : PySem.W.Frag) (C : Addr) : Prop where
  c : BhC K C
  m_shown : MetX K C "shown" "Behind.shown" s_Behind_shown ["self", "seal", "size", "head", "paper"]
  m_judged : MetX K C "judged" "Claim.judged" s_Claim_judged ["self", "seal", "size", "head", "paper"]
theorem bhk_holds {K : PySem.W.Frag} {mg : Str → Option Value} {C : Addr} (h : K_Holds K mg C) : BhK K C := ⟨⟨h.cl, h.n_place, h.n_key, h.n_depth⟩, h.m_shown, h.m_judged⟩
theorem bhk_lacks {K : PySem.W.Frag} {mg : Str → Option Value} {C : Addr} (h : K_Lacks K mg C) : BhK K C := ⟨⟨h.cl, h.n_place, h.n_key, h.n_depth⟩, h.m_shown, h.m_judged⟩
def endsB (c : BhCl) : List (Int × Str) → Bool
  | [] => c.said.isNone
  | e :: _ => match c.said with
    | none => decide (e.1 ≠ c.key)
    | some x => decide (e.1 = c.key) && decide (e.2 = x)
def judgeW (c : BhCl) (tt : Tm) : WayM → Bool
  | some (os, some rr) => decide (os.length ≤ c.depth.toNat) && (decide (Tm.sl "table" (.int c.depth) (climbT c.key c.depth.toNat os (endT rr)) = tt) && endsB c rr)
  | _ => false
def judgeB (c : BhCl) (n : Nat) (ht : Tm) : PapM → Bool
  | none => false
  | some (x, tt, path, way) => decide (1 ≤ c.depth ∧ c.depth ≤ 16) && (decide (0 ≤ c.key ∧ c.key < 2 ^ c.depth.toNat) && (judgeS c.place (.sl "leaf" (.str x) tt) n ht path && judgeW c tt way))
theorem climbO_none {c : BhCl} {l : Nat} {tt : Tm} (el : c.depth.toNat = l) : ∀ {way : WayM}, climbO c.key l way = none → judgeW c tt way = false
  | none, _ => rfl
  | some (os, none), _ => rfl
  | some (os, some rr), h => by
    by_cases h1 : os.length ≤ l
    · have h : (if os.length ≤ l then some (climbT c.key l os (endT rr)) else none) = none := h
      rw [if_pos h1] at h
      cases h
    · show (decide (os.length ≤ c.depth.toNat) && _) = false
      rw [el, decide_eq_false h1, Bool.false_and]
theorem climbO_some {k : Int} {l : Nat} {t : Tm} : ∀ {way : WayM}, climbO k l way = some t → ∃ os rr, way = some (os, some rr) ∧ os.length ≤ l ∧ t = climbT k l os (endT rr)
  | none, h => (nomatch h)
  | some (os, none), h => (nomatch h)
  | some (os, some rr), h => by
    have h : (if os.length ≤ l then some (climbT k l os (endT rr)) else none) = some t := h
    by_cases h1 : os.length ≤ l
    · rw [if_pos h1] at h
      exact ⟨os, rr, rfl, h1, (Option.some.inj h).symm⟩
    · rw [if_neg h1] at h
      cases h
section
variable {P : Program} {w : World} {K : PySem.W.Frag} {mg : Str → Option Value} {base : Heap} {Fam : Sys → Prop} {C CH CL C_Behind : Addr}
def spBhInit (K : PySem.W.Frag) : Sp := fun vs H Q _ => ∃ (p C dx : Addr) (a b c : Int), BhC K C ∧ vs = [.ref p, .int a, .int b, .int c] ∧ H p = some (.ins C dx []) ∧ ∀ H', ExtO p H H' → Kp H H' → H' p = some (.ins C dx (bhF ⟨a, b, c, none⟩)) → Q .non H'
theorem bhinit_body : ∀ (CX : CXT) (f : Addr) (cdv : Value) (A' : Around) (outer : List Env) (s : Shared) (H : Hp) (vs : List V) (Q : VK) (E : XK), spBhInit K vs H Q E →
      ∃ t, PSs (cxOf CX P w K mg base N_Behind___init__ "Behind.__init__" (defScope s_Behind___init__) f cdv A' outer s H E).nox (defBody s_Behind___init__) t ∧ t { nx := fun _ H' => Q .non H', rt := Q } (start N_Behind___init__ vs) H := by
  intro CX f cdv A' outer s H vs Q E h
  obtain ⟨p, C, dx, a, b, c, KB, rfl, hp, q⟩ := h
  refine ⟨_, (pss_cons (ps_fld (pv 0) (pv 1) rfl)
  (pss_cons (ps_fld (pv 0) (pv 2) rfl)
  (pss_one (ps_fld (pv 0) (pv 3) rfl)))), ?_⟩
  refine ⟨_, rfl, _, rfl, p, C, dx, _, rfl, hp, KB.cl, KB.n_place, by show 0 < 1000; decide, ?_⟩
  refine ⟨_, rfl, _, rfl, p, C, dx, _, rfl, upd_same, KB.cl, KB.n_key, by show 1 < 1000; decide, ?_⟩
  refine ⟨_, rfl, _, rfl, p, C, dx, _, rfl, upd_same, KB.cl, KB.n_depth, by show 2 < 1000; decide, ?_⟩
  have x1 := ExtO.put (o := .ins C dx (putF "place" (.int a) [])) hp
  have k1 := Kp.ins (o := .ins C dx (putF "place" (.int a) [])) hp
  have x2 := x1.trans (ExtO.put (o := .ins C dx (putF "key" (.int b) (putF "place" (.int a) []))) upd_same)
  have k2 := k1.trans (Kp.ins (o := .ins C dx (putF "key" (.int b) (putF "place" (.int a) []))) upd_same)
  refine q _ (x2.trans (ExtO.put upd_same)) (k2.trans (Kp.ins upd_same)) ?_
  rw [upd_same, bhF_mk]
theorem ok_bhinit (D : ClsM K mg C_Behind "Behind" "__init__" "Behind.__init__" s_Behind___init__ ["self", "place", "key", "depth"]) : CalM P w K mg base 1 C_Behind "__init__" (spBhInit K) :=
  calM_of D sc_Behind___init__ (fun vs H Q E h => by obtain ⟨p, C, dx, a, b, c, _, rfl, _⟩ := h; rfl) (fun f cdv A' outer s H vs Q E hr h => by
    obtain ⟨t, h1, h2⟩ := bhinit_body (P := P) (w := w) (K := K) (mg := mg) (base := base) (L2.CX P w) f cdv A' outer s H vs Q E h
    exact ⟨t, h1.nox, h2⟩)
def spLkInit (C : Addr) : Sp := fun vs H Q _ => ∃ (p dx : Addr) (a b c : Int), vs = [.ref p, .int a, .int b, .int c] ∧ H p = some (.ins C dx []) ∧ ∀ H', ExtO p H H' → Kp H H' → H' p = some (.ins C dx (bhF ⟨a, b, c, none⟩)) → Q .non H'
theorem ok_lkinit (KL : K_Lacks K mg CL) : Mak P w K mg base 1 "Lacks" CL (spLkInit CL) [] := by
  refine mak_of KL.mgC KL.made sc_Behind___init__ (fun vs H Q E h => ?_) (fun f cdv A' outer s H vs Q E hr h => ?_)
  · obtain ⟨p, dx, a, b, c, rfl, _⟩ := h
    rfl
  obtain ⟨p, dx, a, b, c, rfl, hp, q⟩ := h
  obtain ⟨t, h1, h2⟩ := bhinit_body (P := P) (w := w) (K := K) (mg := mg) (base := base) _ f cdv A' outer s H _ Q E ⟨p, CL, dx, a, b, c, (bhk_lacks KL).c, rfl, hp, q⟩
  exact ⟨t, h1, h2⟩
def spHoInit (C : Addr) : Sp := fun vs H Q _ => ∃ (p dx : Addr) (a b c : Int) (x : Str), vs = [.ref p, .int a, .int b, .str x, .int c] ∧ H p = some (.ins C dx []) ∧ ∀ H', ExtO p H H' → Kp H H' → H' p = some (.ins C dx (bhF ⟨a, b, c, some x⟩)) → Q .non H'
theorem ok_hoinit (D : ClsM K mg C_Behind "Behind" "__init__" "Behind.__init__" s_Behind___init__ ["self", "place", "key", "depth"]) (KH : K_Holds K mg CH) : Mak P w K mg base 2 "Holds" CH (spHoInit CH) [] := by
  have M_Behind := ok_bhinit (P := P) (w := w) (base := base) D
  have g_Behind := D.gC
  refine mak_of KH.mgC KH.made sc_Holds___init__ (fun vs H Q E h => ?_) (fun f cdv A' outer s H vs Q E hr h => ?_)
  · obtain ⟨p, dx, a, b, c, x, rfl, _⟩ := h
    rfl
  obtain ⟨p, dx, a, b, c, x, rfl, hp, q⟩ := h
  refine ⟨_, (pss_cons (ps_expr (pe_clm M_Behind takes0 hr (by omega) (pe_glob (v := .ref C_Behind) rfl g_Behind rfl) (pa_cons (pv 0) (pa_cons (pv 1) (pa_cons (pv 2) (pa_cons (pv 4) pa_nil))))))
  (pss_one (ps_fld (pv 0) (pv 3) rfl))), ?_⟩
  refine ⟨rfl, _, rfl, _, rfl, _, rfl, _, rfl, p, CH, dx, a, b, c, (bhk_holds KH).c, rfl, hp, fun H1 x1 k1 h1 => ?_⟩
  refine ⟨_, rfl, _, rfl, p, CH, dx, _, rfl, h1, KH.cl, KH.n_said, by show 3 < 1000; decide, ?_⟩
  rw [bhF_mk2]
  exact q _ (x1.trans (ExtO.put h1)) (k1.trans (Kp.ins h1)) upd_same
def spEnds (C : Addr) (isH : Bool) : Sp := fun vs H Q _ => ∃ (p dx : Addr) (c : BhCl) (e : V) (rr : List (Int × Str)), c.said.isSome = isH ∧ vs = [.ref p, e] ∧ H p = some (.ins C dx (bhF c)) ∧ EndV H e rr ∧ Q (.bl (endsB c rr)) H
theorem ok_hends (KH : K_Holds K mg CH) : Met P w K mg base 1 CH "ends" (spEnds CH true) [] := by
  refine met_of KH.cl KH.m_ends sc_Holds_ends (fun vs H Q E h => ?_) (fun f cdv A' outer s H vs Q E hr h => ?_)
  · obtain ⟨p, dx, c, e, rr, _, rfl, _⟩ := h
    rfl
  obtain ⟨p, dx, c, e, rr, hs, rfl, hp, he, q⟩ := h
  refine ⟨_, (pss_one (ps_ret (pe_and (pe_cmpR op_notN (pv 1) pe_non (nomark _)) (pe_and (pe_cmpR op_eq (pe_ix ix_tup (pv 1) pe_int (fun _ _ => rfl)) (pe_fld (pv 0) rfl) (nomark _)) (pe_one (pe_cmpR op_eq (pe_ix ix_tup (pv 1) pe_int (fun _ _ => rfl)) (pe_fld (pv 0) rfl) (nomark _))))))), ?_⟩
  obtain ⟨cp, ck, cd, cs⟩ := c
  cases cs with
  | none => cases hs
  | some x =>
    rcases he with ⟨rfl, rfl⟩ | ⟨y, qe, rfl, rfl, hqe, _⟩
    · refine ⟨_, rfl, rfl, ?_⟩
      refine ⟨_, rfl, iteF ?_⟩
      exact q
    · refine ⟨_, rfl, rfl, ?_⟩
      rw [decide_eq_false (fun z => nomatch z)]
      refine ⟨_, rfl, iteT ?_⟩
      refine ⟨_, rfl, qe, _, 0, _, rfl, rfl, SqT.of hqe, rfl, _, rfl, p, CH, dx, _, _, rfl, hp, KH.cl, KH.n_key, bhF_key _, rfl, ?_⟩
      by_cases c1 : y.1 = ck
      · rw [decide_eq_true (show V.int y.1 = V.int ck from congrArg V.int c1)]
        refine ⟨_, rfl, iteT ?_⟩
        refine ⟨_, rfl, qe, _, 1, _, rfl, rfl, SqT.of hqe, rfl, _, rfl, p, CH, dx, _, _, rfl, hp, KH.cl, KH.n_said, bhF_said, rfl, ?_⟩
        have e1 : endsB ⟨cp, ck, cd, some x⟩ [y] = decide (V.str y.2 = V.str x) := by
          show (decide (y.1 = ck) && decide (y.2 = x)) = _
          rw [decide_eq_true c1, Bool.true_and]
          exact decide_eq_decide.mpr ⟨fun z => congrArg V.str z, fun z => V.str.inj z⟩
        rw [e1] at q
        exact q
      · rw [decide_eq_false (fun z => c1 (V.int.inj z))]
        refine ⟨_, rfl, iteF ?_⟩
        have e1 : endsB ⟨cp, ck, cd, some x⟩ [y] = false := by
          show (decide (y.1 = ck) && decide (y.2 = x)) = _
          rw [decide_eq_false c1, Bool.false_and]
        rw [e1] at q
        exact q
theorem ok_lends (KL : K_Lacks K mg CL) : Met P w K mg base 1 CL "ends" (spEnds CL false) [] := by
  refine met_of KL.cl KL.m_ends sc_Lacks_ends (fun vs H Q E h => ?_) (fun f cdv A' outer s H vs Q E hr h => ?_)
  · obtain ⟨p, dx, c, e, rr, _, rfl, _⟩ := h
    rfl
  obtain ⟨p, dx, c, e, rr, hs, rfl, hp, he, q⟩ := h
  refine ⟨_, (pss_one (ps_ret (pe_or (pe_cmpR op_isN (pv 1) pe_non (nomark _)) (pe_one (pe_cmpR op_ne (pe_ix ix_tup (pv 1) pe_int (fun _ _ => rfl)) (pe_fld (pv 0) rfl) (nomark _)))))), ?_⟩
  obtain ⟨cp, ck, cd, cs⟩ := c
  cases cs with
  | some x => cases hs
  | none =>
    rcases he with ⟨rfl, rfl⟩ | ⟨y, qe, rfl, rfl, hqe, _⟩
    · refine ⟨_, rfl, rfl, ?_⟩
      refine ⟨_, rfl, iteT ?_⟩
      exact q
    · refine ⟨_, rfl, rfl, ?_⟩
      rw [decide_eq_false (fun z => nomatch z)]
      refine ⟨_, rfl, iteF ?_⟩
      refine ⟨_, rfl, qe, _, 0, _, rfl, rfl, SqT.of hqe, rfl, _, rfl, p, CL, dx, _, _, rfl, hp, KL.cl, KL.n_key, bhF_key _, rfl, ?_⟩
      have e1 : endsB ⟨cp, ck, cd, none⟩ [y] = !decide (V.int y.1 = V.int ck) := by
        show decide (y.1 ≠ ck) = _
        by_cases c1 : y.1 = ck
        · rw [decide_eq_false (fun z => z c1), decide_eq_true (congrArg V.int c1)]; rfl
        · rw [decide_eq_true c1, decide_eq_false (fun z => c1 (V.int.inj z))]; rfl
      rw [e1] at q
      exact q
def spShownB (K : PySem.W.Frag) (mg : Str → Option Value) (C : Addr) (isH : Bool) (Fam : Sys → Prop) : Sp := fun vs H Q E => ∃ (S0 : Sys) (p dx : Addr) (c : BhCl) (n : Nat) (m : Int) (Y : Tm) (head v : V) (paper : PapM) (r : Nat), Fam S0 ∧ vs = [.ref p, .ref S0.f, .int (n : Int), head, v] ∧ H p = some (.ins C dx (bhF c)) ∧ c.said.isSome = isH ∧ n ≤ 1000 ∧
  S0.den H head (.sl "book" (.int m) Y) ∧ WS Y ∧ Y.dep ≤ 40 ∧ PapAt K S0 H v paper ∧ S0.ok H (r + 60) ∧
  (∀ H', Ext H H' → S0.ok H' r → Q (.bl (judgeB c n (.sl "book" (.int m) Y) paper)) H') ∧
  (judgeB c n (.sl "book" (.int m) Y) paper = false → ∀ D H', mg "BadPaper" = some (.ref D) → Ext H H' → S0.ok H' r → E (.ref D) none H')
theorem ok_shownB {cc CS : Addr} {isH : Bool} (T : Txt K mg cc) (A : SlA P w K mg base Fam) (I3 : ∀ {S}, Fam S → S.Inj K) (KS : K_Stands K mg CS) (KB : BhK K C) (M_ends : Met P w K mg base 1 C "ends" (spEnds C isH) []) : MetR P w K mg base 5 C "shown" (spShownB K mg C isH Fam) := by
  have Z := T.Z
  have C_Stands := ok_stinit (P := P) (w := w) (base := base) KS
  have M_shown := ok_shownS T A I3 KS
  have C_climbed := ok_climbed T A
  have C_table_seal := ok_table_seal T A
  refine metR_of KB.c.cl KB.m_shown sc_Behind_shown (fun vs H Q E h => ?_) (fun f cdv A' outer s H vs Q E hr h => ?_)
  · obtain ⟨S0, p, dx, c, n, m, Y, head, v, paper, r, _, rfl, _⟩ := h
    rfl
  obtain ⟨S0, p, dx, c, n, m, Y, head, v, paper, r, hF, rfl, hp, hs, hn, hh, hY, hYd, hpap, hok, q1, q2⟩ := h
  have G := A.good hF
  refine ⟨_, (pss_cons (ps_if (PW.pt (pw_or (pt_not (pt_val (pe_callB call_isi rfl Z.isinstance (by decide +kernel) (pa_cons (pv 4) (pa_cons (pe_bltn (v := .ty "tuple") rfl Z.tuple (by decide +kernel) rfl) pa_nil))))) (pw_or1 (pt_cmpR op_ne (pe_callB call_len_seq rfl Z.len PySem.boot_len (pa_cons (pv 4) pa_nil)) pe_int (nomark _))))) (pss_one (ps_ret pe_bl)) pss_nil)
  (pss_cons (ps_if (PW.pt (pw_or (pt_not (pt_chain op_le op_le pe_int (pe_fld (pv 0) rfl) pe_int)) (pw_or1 (pt_not (pt_chain op_le op_lt pe_int (pe_fld (pv 0) rfl) (pe_op op_oneShl pe_int (pe_fld (pv 0) rfl))))))) (pss_one (ps_ret pe_bl)) pss_nil)
  (pss_cons (ps_set (i := 5) sc_Behind_shown.nd rfl (Or.inl rfl) (pe_mk C_Stands hr (by omega) rfl (pa_cons (pe_fld (pv 0) rfl) (pa_cons (pe_ix ix_tup (pv 4) pe_int (fun _ _ => rfl)) (pa_cons (pe_ix ix_tup (pv 4) pe_int (fun _ _ => rfl)) pa_nil)))))
  (pss_cons (ps_if (pt_not (pt_val (pe_mtx M_shown (takes_of rfl rfl rfl rfl) hr (by omega) (pv 5) (pa_cons (pv 1) (pa_cons (pv 2) (pa_cons (pv 3) (pa_cons (pe_ix ix_tup (pv 4) pe_int (fun _ _ => rfl)) pa_nil))))))) (pss_one (ps_ret pe_bl)) pss_nil)
  (pss_cons (ps_set (i := 6) sc_Behind_shown.nd rfl (Or.inl rfl) (pe_cx C_climbed (takes_of rfl rfl rfl rfl) hr (by omega) rfl (pa_cons (pv 1) (pa_cons (pe_fld (pv 0) rfl) (pa_cons (pe_fld (pv 0) rfl) (pa_cons (pe_ix ix_tup (pv 4) pe_int (fun _ _ => rfl)) pa_nil))))))
  (pss_one (ps_ret (pe_and (pe_cmpR (op_eqD hr.units) (pe_c C_table_seal hr (by omega) rfl (pa_cons (pv 1) (pa_cons (pe_fld (pv 0) rfl) (pa_cons (pv 6) pa_nil)))) (pe_ix ix_tup (pv 4) pe_int (fun _ _ => rfl)) (nomark _)) (pe_one (pe_mt M_ends hr (by omega) (pv 0) (pa_cons (pe_ix ix_tup (pe_ix ix_tup (pv 4) pe_int (fun _ _ => rfl)) pe_int (fun _ _ => rfl)) pa_nil))))))))))), ?_⟩
  cases paper with
  | none =>
    have q1 : Q (.bl false) H := q1 H (Ext.refl H) (G.less hok (by omega))
    obtain ⟨b, _⟩ := hpap
    rcases b with b | ⟨q, ys, rfl, hq, b⟩
    · obtain ⟨t, hty, hkt⟩ := b H (Ext.refl H)
      exact ⟨_, rfl, v, .ty "tuple", _, _, false, rfl, .ty "tuple", hty, hkt, false, rfl, q1⟩
    · refine ⟨_, rfl, .ref q, .ty "tuple", _, _, true, rfl, .ty "tuple", .base (.tup hq), kit_ty (by decide +kernel), true, rfl, ?_⟩
      refine ⟨_, rfl, q, ys, rfl, .inr (SqT.of hq), rfl, _, rfl, ?_⟩
      rw [decide_eq_false (fun z => b (by have := V.int.inj z; omega))]
      exact q1
  | some pp =>
    obtain ⟨x, tt, path, way⟩ := pp
    obtain ⟨pq, xv, tv, pv, wv, rfl, hpq, htx, htv, hws, htd, hpath, hway⟩ := hpap
    have qf : ∀ H', Ext H H' → S0.ok H' r → judgeB c n (.sl "book" (.int m) Y) (some (x, tt, path, way)) = false → Q (.bl false) H' := fun H' e ok z => by
      have := q1 H' e ok
      rw [z] at this
      exact this
    refine ⟨_, rfl, .ref pq, .ty "tuple", _, _, true, rfl, .ty "tuple", .base (.tup hpq), kit_ty (by decide +kernel), true, rfl, ?_⟩
    refine ⟨_, rfl, pq, _, rfl, .inr (SqT.of hpq), rfl, _, rfl, ?_⟩
    refine iteF ?_
    refine ⟨_, rfl, p, C, dx, _, _, rfl, hp, KB.c.cl, KB.c.n_depth, bhF_depth c, _, _, rfl, rfl, _, rfl, ?_⟩
    by_cases c1 : 1 ≤ c.depth
    · rw [decide_eq_true c1]
      refine iteT ?_
      refine ⟨_, _, rfl, rfl, _, rfl, ?_⟩
      by_cases c2 : c.depth ≤ 16
      · rw [decide_eq_true c2]
        obtain ⟨l, hl⟩ := Int.eq_ofNat_of_zero_le (show 0 ≤ c.depth by omega)
        have hl16 : l ≤ 16 := by omega
        have el : c.depth.toNat = l := by omega
        refine iteF ?_
        refine ⟨_, rfl, p, C, dx, _, _, rfl, hp, KB.c.cl, KB.c.n_key, bhF_key c, _, _, rfl, rfl, _, rfl, ?_⟩
        by_cases c3 : 0 ≤ c.key
        · rw [decide_eq_true c3]
          refine iteT ?_
          refine ⟨_, rfl, p, C, dx, _, _, rfl, hp, KB.c.cl, KB.c.n_depth, bhF_depth c, l, rfl, by rw [hl], by omega, ?_⟩
          refine ⟨_, _, rfl, rfl, _, rfl, ?_⟩
          by_cases c4 : c.key < 2 ^ l
          · rw [decide_eq_true c4]
            refine iteF ?_
            have jB : judgeB c n (.sl "book" (.int m) Y) (some (x, tt, path, way)) = (judgeS c.place (.sl "leaf" (.str x) tt) n (.sl "book" (.int m) Y) path && judgeW c tt way) := by
              show (decide _ && (decide _ && _)) = _
              rw [decide_eq_true ⟨c1, c2⟩, decide_eq_true (show 0 ≤ c.key ∧ c.key < 2 ^ c.depth.toNat by rw [el]; exact ⟨c3, c4⟩), Bool.true_and, Bool.true_and]
            rw [jB] at q1 q2 qf
            refine ⟨_, rfl, p, C, dx, _, _, rfl, hp, KB.c.cl, KB.c.n_place, bhF_place c, _, rfl, pq, _, 0, _, rfl, rfl, SqT.of hpq, rfl, _, rfl, pq, _, 1, _, rfl, rfl, SqT.of hpq, rfl, fun sp sdx nsp nsdx snex => ?_⟩
            have y1 : Ext H (upd (upd H sdx (.own sp)) sp (.ins CS sdx [])) := (Ext.new nsdx).trans (Ext.new (by rw [upd_ne snex.symm]; exact nsp))
            have ky1 : Kp H (upd (upd H sdx (.own sp)) sp (.ins CS sdx [])) := (Kp.new nsdx).trans (Kp.new (show upd H sdx (.own sp) sp = none by rw [upd_ne snex.symm]; exact nsp))
            refine ⟨sp, sdx, c.place, xv, tv, rfl, upd_same, fun H1 xo kp hg => ⟨rfl, ?_⟩⟩
            have x1 := xo.ext y1 nsp
            have ok1 := G.keep (ky1.trans kp) hok
            have hpq1 := x1.tup hpq
            refine ⟨_, rfl, sp, sdx, _, rfl, hg, (stF_no _ _ _).2, _, rfl, _, rfl, _, rfl, _, rfl, pq, _, 2, _, rfl, rfl, SqT.of hpq1, rfl, S0, sp, sdx, c.place, x, xv, tv, tt, n, m, Y, head, pv, path, r + 40, hF, rfl, hg, G.mono x1.gr htx, G.mono x1.gr htv, hws, htd, hn, G.mono x1.gr hh, hY, hYd, .inl (hpath.1.ext G x1), ok1, fun H2 x2 ok2 => ⟨_, rfl, ?_⟩, fun hj D H' hD e ok => q2 (by rw [hj, Bool.false_and]) D H' hD (x1.trans e) (G.less ok (by omega))⟩
            have x12 := x1.trans x2
            cases hj : judgeS c.place (.sl "leaf" (.str x) tt) n (.sl "book" (.int m) Y) path with
            | false =>
              refine iteT ?_
              exact qf H2 x12 (G.less ok2 (by omega)) (by rw [hj, Bool.false_and])
            | true =>
              rw [hj, Bool.true_and] at q1 q2
              refine iteF ?_
              have hp2 := x12.ins hp
              have hpq2 := x12.tup hpq
              refine ⟨_, rfl, _, rfl, p, C, dx, _, _, rfl, hp2, KB.c.cl, KB.c.n_key, bhF_key c, _, rfl, p, C, dx, _, _, rfl, hp2, KB.c.cl, KB.c.n_depth, bhF_depth c, _, rfl, pq, _, 3, _, rfl, rfl, SqT.of hpq2, rfl, S0, c.key, l, wv, way, r + 5, hF, by rw [hl], c3, by omega, hway.ext G x12, G.less ok2 (by omega), fun t ht u H3 x3 ok3 d3 => ?_, fun hno D hD => q2 ?_ D H2 hD x12 (G.less ok2 (by omega))⟩
              · have x13 := x12.trans x3
                have hp3 := x13.ins hp
                have hpq3 := x13.tup hpq
                obtain ⟨os, rr, rfl, hol, rfl⟩ := climbO_some ht
                obtain ⟨wq, o, ev, ys, rfl, hwq, ho, hd, hos, hosl, hev⟩ := hway
                refine ⟨_, rfl, _, rfl, p, C, dx, _, _, rfl, hp3, KB.c.cl, KB.c.n_depth, bhF_depth c, _, rfl, S0, _, u, .int c.depth, _, r + 4, hF, rfl, ok3, G.int _ ok3, d3, fun vt H4 x4 ok4 d4 => ?_⟩
                have x14 := x13.trans x4
                have hpq4 := x14.tup hpq
                have hp4 := x14.ins hp
                have hwq4 := x14.tup hwq
                have htv4 := G.mono x14.gr htv
                have cw : WS (climbT c.key l os (endT rr)) := climb_ws l os _ (endT_ws rr) fun t ht => (hos t ht).1
                have cdp := climb_dep (k := c.key) (d := 20) l os (endT rr) (Nat.le_trans (endT_dep rr) (by decide)) fun t ht => (hos t ht).2
                obtain ⟨d, d', e1, e2, e3, e4, e5, e6, e7⟩ := (I3 hF).inj ok4 d4 htv4 ((WS.tab c.depth cw).cmp hws)
                have dd1 : (Tm.sl "table" (.int c.depth) (climbT c.key l os (endT rr))).dep ≤ 41 := by show max 0 _ + 1 ≤ 41; omega
                refine ⟨_, rfl, pq, _, 1, _, rfl, rfl, SqT.of hpq4, rfl, d, d', e1, e2, shaped_of e3 (by omega), shaped_of e4 (by omega), ?_⟩
                rw [e7]
                have jW : judgeW c tt (some (os, some rr)) = (decide (Tm.sl "table" (.int c.depth) (climbT c.key l os (endT rr)) = tt) && endsB c rr) := by
                  show (decide (os.length ≤ c.depth.toNat) && (decide (Tm.sl "table" (.int c.depth) (climbT c.key c.depth.toNat os (endT rr)) = tt) && endsB c rr)) = _
                  rw [el, decide_eq_true hol, Bool.true_and]
                rw [jW] at q1
                have q1 := q1 H4 x14 (G.less ok4 (by omega))
                cases he : decide (Tm.sl "table" (.int c.depth) (climbT c.key l os (endT rr)) = tt) with
                | false =>
                  rw [he, Bool.false_and] at q1
                  refine ⟨_, rfl, iteF ?_⟩
                  exact q1
                | true =>
                  rw [he, Bool.true_and] at q1
                  refine ⟨_, rfl, iteT ?_⟩
                  exact ⟨_, rfl, p, dx, _, rfl, hp4, (bhF_no c).2.2, _, rfl, pq, _, 3, _, rfl, rfl, SqT.of hpq4, rfl, wq, _, 1, ev, rfl, rfl, SqT.of hwq4, rfl, p, dx, c, ev, rr, hs, rfl, hp4, EndAt.ext hev x14, q1⟩
              · exact climbO_none el hno
          · rw [decide_eq_false c4]
            refine iteT ?_
            refine qf H (Ext.refl H) (G.less hok (by omega)) ?_
            show (decide _ && (decide _ && _)) = _
            rw [decide_eq_false (show ¬ (0 ≤ c.key ∧ c.key < 2 ^ c.depth.toNat) by rw [el]; exact fun z => c4 z.2), Bool.false_and, Bool.and_false]
        · rw [decide_eq_false c3]
          refine ⟨_, rfl, iteT ?_⟩
          refine qf H (Ext.refl H) (G.less hok (by omega)) ?_
          show (decide _ && (decide _ && _)) = _
          rw [decide_eq_false (show ¬ (0 ≤ c.key ∧ c.key < 2 ^ c.depth.toNat) from fun z => c3 z.1), Bool.false_and, Bool.and_false]
      · rw [decide_eq_false c2]
        refine iteT ?_
        refine iteT ?_
        refine qf H (Ext.refl H) (G.less hok (by omega)) ?_
        show (decide _ && _) = _
        rw [decide_eq_false (fun z => c2 z.2), Bool.false_and]
    · rw [decide_eq_false c1]
      refine ⟨_, rfl, ?_⟩
      refine iteT ?_
      refine iteT ?_
      refine qf H (Ext.refl H) (G.less hok (by omega)) ?_
      show (decide _ && _) = _
      rw [decide_eq_false (fun z => c1 z.1), Bool.false_and]
end

section
variable {P : Program} {w : World} {K : PySem.W.Frag} {mg : Str → Option Value} {base : Heap} {Fam : Sys → Prop} {C CH CL CF : Addr}
def spJudgedB (K : PySem.W.Frag) (C : Addr) (isH : Bool) (Fam : Sys → Prop) : Sp := fun vs H Q _ => ∃ (S0 : Sys) (p dx : Addr) (c : BhCl) (n : Nat) (m : Int) (Y : Tm) (head v : V) (paper : PapM) (r : Nat), Fam S0 ∧ vs = [.ref p, .ref S0.f, .int (n : Int), head, v] ∧ H p = some (.ins C dx (bhF c)) ∧ c.said.isSome = isH ∧ n ≤ 1000 ∧
  S0.den H head (.sl "book" (.int m) Y) ∧ WS Y ∧ Y.dep ≤ 40 ∧ PapAt K S0 H v paper ∧ S0.ok H (r + 60) ∧
  (∀ H', Ext H H' → S0.ok H' r → Q (.bl (judgeB c n (.sl "book" (.int m) Y) paper)) H')
theorem ok_judgedB {cc CS : Addr} {isH : Bool} (T : Txt K mg cc) (A : SlA P w K mg base Fam) (I3 : ∀ {S}, Fam S → S.Inj K) (KS : K_Stands K mg CS) (KB : BhK K C) (M_ends : Met P w K mg base 1 C "ends" (spEnds C isH) []) : MetR P w K mg base 6 C "judged" (spJudgedB K C isH Fam) := by
  obtain ⟨C_BadPaper, g_BadPaper, F_BadPaper⟩ := T.x_BadPaper.ex
  have M_shown := ok_shownB T A I3 KS KB M_ends
  refine metR_of KB.c.cl KB.m_judged sc_Claim_judged (fun vs H Q E h => ?_) (fun f cdv A' outer s H vs Q E hr h => ?_)
  · obtain ⟨S0, p, dx, c, n, m, Y, head, v, paper, r, _, rfl, _⟩ := h
    rfl
  obtain ⟨S0, p, dx, c, n, m, Y, head, v, paper, r, hF, rfl, hp, hs, hn, hh, hY, hYd, hpap, hok, q⟩ := h
  refine ⟨_, (pss_one (ps_try_onlyE (pss_one (ps_ret (pv 5))) rfl rfl ⟨rfl, by decide, .inl g_BadPaper⟩ (takes_of rfl rfl rfl rfl) (fun W pn xe tk po => (pss_one (ps_set (i := 5) sc_Claim_judged.nd rfl (Or.inl rfl) (pe_mtx M_shown tk hr (by omega) (pv 0) (pa_cons (pv 1) (pa_cons (pv 2) (pa_cons (pv 3) (pa_cons (pv 4) pa_nil)))))))) (fun a oe cls d pn hz hf => (pss_when (P := cls = .ref C_BadPaper ∧ d = none) fun hsu => (pss_one (ps_ret pe_bl)))))), ?_⟩
  refine ⟨_, rfl, p, dx, _, rfl, hp, (bhF_no c).2.1, _, rfl, _, rfl, _, rfl, _, rfl, S0, p, dx, c, n, m, Y, head, v, paper, r, hF, rfl, hp, hs, hn, hh, hY, hYd, hpap, hok, fun H' e ok => ⟨_, rfl, q H' e ok⟩, fun hj D H' hD e ok => ?_⟩
  rw [g_BadPaper] at hD
  cases hD
  refine ⟨true, F_BadPaper.eP, fun _ p2 hp2 => ⟨⟨rfl, rfl⟩, ?_⟩, fun z => nomatch z⟩
  have := q H' e ok
  rw [hj] at this
  exact this
/-- the claims of a key, by their classes -/
def csB (K : PySem.W.Frag) (CH CL : Addr) (Fam : Sys → Prop) (C : Addr) (sp : Sp) : Prop := (C = CH ∧ sp = spJudgedB K CH true Fam) ∨ (C = CL ∧ sp = spJudgedB K CL false Fam)
theorem ok_csB {cc CS : Addr} (T : Txt K mg cc) (A : SlA P w K mg base Fam) (I3 : ∀ {S}, Fam S → S.Inj K) (KS : K_Stands K mg CS) (KH : K_Holds K mg CH) (KL : K_Lacks K mg CL) : ∀ C sp, csB K CH CL Fam C sp → MetR P w K mg base 6 C "judged" sp := by
  rintro C sp (⟨rfl, rfl⟩ | ⟨rfl, rfl⟩)
  · exact ok_judgedB T A I3 KS (bhk_holds KH) (ok_hends KH)
  · exact ok_judgedB T A I3 KS (bhk_lacks KL) (ok_lends KL)
/-- the class of a claim of a key -/
def clB (CH CL : Addr) (c : BhCl) : Addr := match c.said with
  | some _ => CH
  | none => CL
theorem csB_at (K : PySem.W.Frag) (CH CL : Addr) (Fam : Sys → Prop) (c : BhCl) : csB K CH CL Fam (clB CH CL c) (spJudgedB K (clB CH CL c) c.said.isSome Fam) := by
  obtain ⟨p, k, d, s⟩ := c
  cases s with
  | some x => exact .inl ⟨rfl, rfl⟩
  | none => exact .inr ⟨rfl, rfl⟩
end

/-! ### a claim of a key is shown just where it holds, by the own paper alone -/
theorem way_end_mem (k : Int) (x : Str) : ∀ (l : Nat) (rows : List (Int × Str)), RowsOk l rows → ((k, x) ∈ rows ↔ (wayT l rows k).2 = [(k, x)])
  | l, rows, h => by
    by_cases c : rows.length ≤ 1
    · rw [wayT_few c]
      match rows, c with
      | [], _ => exact ⟨fun z => (nomatch z), fun z => (nomatch z)⟩
      | [e], _ =>
        exact ⟨fun z => by rw [List.mem_singleton.mp z], fun z => by
          have z : [e] = [(k, x)] := z
          rw [z]
          exact List.mem_singleton_self _⟩
    · match l, h with
      | 0, h => exact absurd h.zero c
      | l + 1, h =>
        rw [wayT_more (by omega)]
        have ih := way_end_mem k x l (rows.filter (bitK l (k / 2 ^ l % 2))) h.part
        rw [List.mem_filter] at ih
        exact ⟨fun z => ih.mp ⟨z, decide_eq_true rfl⟩, fun z => (ih.mpr z).1⟩
/-- what is asked of the key -/
def thereB (c : BhCl) (kv : List (Int × Str)) : Bool := match c.said with
  | none => (getI kv c.key).isNone
  | some x => decide (getI kv c.key = some x)
theorem getI_iff {l : Nat} {kv : List (Int × Str)} (h : TbOk l kv) (k : Int) (x : Str) : getI kv k = some x ↔ (k, x) ∈ srtI kv := by
  rw [(srt_perm kv).mem_iff]
  constructor
  · intro g
    have hk : k ∈ kv.map (·.1) := by
      apply Classical.byContradiction
      intro n
      rw [getI_none n] at g
      cases g
    obtain ⟨t, g1, g2⟩ := getI_mem hk
    rw [g] at g1
    rw [Option.some.inj g1]
    exact g2
  · intro g
    exact getI_of (e := (k, x)) h.nd g
theorem ends_there {l : Nat} {kv : List (Int × Str)} (h : TbOk l kv) (c : BhCl) : endsB c (wayT l (srtI kv) c.key).2 = thereB c kv := by
  have hr := rows_ok h (srt_perm kv)
  have he := wayT_end l (srtI kv) c.key hr
  have hm : ∀ x, getI kv c.key = some x ↔ (wayT l (srtI kv) c.key).2 = [(c.key, x)] := fun x => (getI_iff h c.key x).trans (way_end_mem c.key x l (srtI kv) hr)
  generalize (wayT l (srtI kv) c.key).2 = r at he hm
  obtain ⟨p, k, d, s⟩ := c
  have hm : ∀ x, getI kv k = some x ↔ r = [(k, x)] := hm
  match r, he.1 with
  | [], _ =>
    have g : getI kv k = none := by
      cases g : getI kv k with
      | none => rfl
      | some x => exact nomatch (hm x).mp g
    cases s with
    | none =>
      show true = (getI kv k).isNone
      rw [g]
      rfl
    | some x =>
      show false = decide (getI kv k = some x)
      rw [g]
      rfl
  | [e], _ =>
    by_cases ek : e.1 = k
    · have g : getI kv k = some e.2 := (hm e.2).mpr (by rw [← ek])
      cases s with
      | none =>
        show decide (e.1 ≠ k) = (getI kv k).isNone
        rw [g, decide_eq_false (fun z => z ek)]
        rfl
      | some x =>
        show (decide (e.1 = k) && decide (e.2 = x)) = decide (getI kv k = some x)
        rw [g, decide_eq_true ek, Bool.true_and]
        exact decide_eq_decide.mpr ⟨fun z => congrArg some z, fun z => Option.some.inj z⟩
    · have g : getI kv k = none := by
        cases g : getI kv k with
        | none => rfl
        | some x =>
          have := (hm x).mp g
          exact absurd (Prod.ext_iff.mp (List.cons.inj this).1).1 ek
      cases s with
      | none =>
        show decide (e.1 ≠ k) = (getI kv k).isNone
        rw [g, decide_eq_true ek]
        rfl
      | some x =>
        show (decide (e.1 = k) && decide (e.2 = x)) = decide (getI kv k = some x)
        rw [g, decide_eq_false ek]
        rfl
/-- the own paper -/
def ownPap (l : Nat) (es : List En) (size place : Nat) (k : Int) : PapM := match es[place]? with
  | none => none
  | some e => some (S e.1, headT l e.2, some (pathT ((es.map (leafT l)).take size) place), some ((wayT l (srtI e.2) k).1, some (wayT l (srtI e.2) k).2))
def PapOk : PapM → Prop
  | some (_, _, _, some (_, some rr)) => rr.length ≤ 1
  | _ => True
theorem PapAt.okm {K : PySem.W.Frag} {S0 : Sys} {H : Hp} {v : V} : ∀ {p : PapM}, PapAt K S0 H v p → PapOk p
  | none, _ => trivial
  | some (_, _, _, none), _ => trivial
  | some (_, _, _, some (_, none)), _ => trivial
  | some (_, _, _, some (_, some rr)), h => by
    obtain ⟨q, xv, tv, pv, wv, _, _, _, _, _, _, _, hw⟩ := h
    obtain ⟨wq, o, ev, ys, _, _, _, _, _, _, he⟩ := hw
    show rr.length ≤ 1
    rcases he with ⟨g, _⟩ | ⟨x, qe, g, _⟩
    · rw [g]; exact Nat.zero_le _
    · rw [g]; exact Nat.le_refl _
theorem judge_law {l : Nat} {es : List En} (hes : ∀ e ∈ es, TbOk l e.2) {size held : Nat} (hsz : 0 < size ∧ size ≤ es.length) (hhd : held ≤ es.length) (hl : 1 ≤ l ∧ l ≤ 16) (c : BhCl) (paper : PapM) (hp : PapOk paper) :
    judgeB c size (.sl "book" (.int (held : Int)) (topT ((es.map (leafT l)).take held))) paper = true ↔ (held = size ∧ 0 ≤ c.place ∧ c.place < (size : Int) ∧ c.depth = (l : Int) ∧ 0 ≤ c.key ∧ c.key < 2 ^ l ∧ ∃ e, es[c.place.toNat]? = some e ∧ thereB c e.2 = true ∧ paper = ownPap l es size c.place.toNat c.key) := by
  have tl : ((es.map (leafT l)).take size).length = size := by rw [List.length_take, List.length_map]; omega
  have key : ∀ {pl : Nat}, pl < size → ∃ e, es[pl]? = some e ∧ ((es.map (leafT l)).take size).getD pl nonT = leafT l e := fun {pl} h => by
    have h2 : pl < es.length := by omega
    refine ⟨es[pl], List.getElem?_eq_getElem h2, ?_⟩
    rw [List.getD_eq_getElem?_getD, List.getElem?_take_of_lt h, List.getElem?_map, List.getElem?_eq_getElem h2]
    rfl
  constructor
  · intro j
    match paper, hp with
    | some (x, tt, some ps, some (os, some rr)), hp =>
      have hp : rr.length ≤ 1 := hp
      have j : (decide (1 ≤ c.depth ∧ c.depth ≤ 16) && (decide (0 ≤ c.key ∧ c.key < 2 ^ c.depth.toNat) && (judgeS c.place (.sl "leaf" (.str x) tt) size (.sl "book" (.int (held : Int)) (topT ((es.map (leafT l)).take held))) (some ps) && (decide (os.length ≤ c.depth.toNat) && (decide (Tm.sl "table" (.int c.depth) (climbT c.key c.depth.toNat os (endT rr)) = tt) && endsB c rr))))) = true := j
      rw [Bool.and_eq_true, Bool.and_eq_true, Bool.and_eq_true, Bool.and_eq_true, Bool.and_eq_true] at j
      obtain ⟨j1, j2, j3, j4, j5, j6⟩ := j
      have j1 := of_decide_eq_true j1
      have j2 := of_decide_eq_true j2
      obtain ⟨s1, s2, s3, s4⟩ := of_decide_eq_true j3
      have j4 := of_decide_eq_true j4
      have j5 := of_decide_eq_true j5
      have eh : held = size := by
        have := Tm.int.inj (Tm.sl.inj s4).2.1
        omega
      subst eh
      have hpl : c.place.toNat < held := by omega
      obtain ⟨e, he, hg⟩ := key hpl
      have r1 := (Tm.sl.inj s4).2.2
      have r2 := rise_inj (.sl "leaf" (.str x) tt) ((es.map (leafT l)).take held) c.place.toNat ps (by rw [tl]; exact hpl) (by rw [tl]; exact s3)
      rw [tl, hg] at r2
      obtain ⟨r3, r4⟩ := r2.mp r1
      have r5 := (Tm.sl.inj r3).2
      have ex : x = S e.1 := Tm.str.inj r5.1
      have et : tt = headT l e.2 := r5.2
      rw [et] at j5
      have d1 : c.depth = (l : Int) := Tm.int.inj (Tm.sl.inj j5).2.1
      have d2 := (Tm.sl.inj j5).2.2
      have dn : c.depth.toNat = l := by omega
      rw [dn] at j2 j4 d2
      have hee := hes e (List.mem_of_getElem? he)
      have w := (climb_inj c.key l os rr (srtI e.2) j4 hp (rows_ok hee (srt_perm _))).mp d2
      have w1 : os = (wayT l (srtI e.2) c.key).1 := (Prod.ext_iff.mp w).1
      have w2 : rr = (wayT l (srtI e.2) c.key).2 := (Prod.ext_iff.mp w).2
      refine ⟨rfl, s1, s2, d1, j2.1, j2.2, e, he, ?_, ?_⟩
      · rw [← ends_there hee, ← w2]
        exact j6
      · unfold ownPap
        rw [he, ex, et, r4, w1, w2]
    | none, _ => cases j
    | some (x, tt, none, w), _ =>
      have j : (_ && (_ && (false && _))) = true := j
      rw [Bool.false_and, Bool.and_false, Bool.and_false] at j
      cases j
    | some (x, tt, some ps, none), _ =>
      have j : (_ && (_ && (_ && false))) = true := j
      rw [Bool.and_false, Bool.and_false, Bool.and_false] at j
      cases j
    | some (x, tt, some ps, some (os, none)), _ =>
      have j : (_ && (_ && (_ && false))) = true := j
      rw [Bool.and_false, Bool.and_false, Bool.and_false] at j
      cases j
  · rintro ⟨rfl, s1, s2, d1, k1, k2, e, he, ht, rfl⟩
    have hpl : c.place.toNat < held := by omega
    obtain ⟨e', he', hg⟩ := key hpl
    rw [he] at he'
    cases he'
    have dn : c.depth.toNat = l := by omega
    have hee := hes e (List.mem_of_getElem? he)
    have hr := rows_ok hee (srt_perm e.2)
    unfold ownPap
    rw [he]
    show (decide (1 ≤ c.depth ∧ c.depth ≤ 16) && (decide (0 ≤ c.key ∧ c.key < 2 ^ c.depth.toNat) && (judgeS c.place (.sl "leaf" (.str (S e.1)) (headT l e.2)) held (.sl "book" (.int (held : Int)) (topT ((es.map (leafT l)).take held))) (some _) && (decide ((wayT l (srtI e.2) c.key).1.length ≤ c.depth.toNat) && (decide (Tm.sl "table" (.int c.depth) (climbT c.key c.depth.toNat (wayT l (srtI e.2) c.key).1 (endT (wayT l (srtI e.2) c.key).2)) = headT l e.2) && endsB c (wayT l (srtI e.2) c.key).2))))) = true
    have hwl := wayT_len l (srtI e.2) c.key
    have hwe := (wayT_end l (srtI e.2) c.key hr).1
    have w := (climb_inj c.key l _ _ (srtI e.2) hwl hwe hr).mpr rfl
    have r2 := rise_inj (leafT l e) ((es.map (leafT l)).take held) c.place.toNat (pathT ((es.map (leafT l)).take held) c.place.toNat) (by rw [tl]; exact hpl) (by rw [pathT_len])
    rw [tl, hg] at r2
    have r3 := r2.mpr ⟨rfl, rfl⟩
    rw [Bool.and_eq_true, Bool.and_eq_true, Bool.and_eq_true, Bool.and_eq_true, Bool.and_eq_true]
    refine ⟨decide_eq_true (by omega), decide_eq_true ?_, decide_eq_true ⟨s1, s2, ?_, ?_⟩, decide_eq_true ?_, decide_eq_true ?_, ?_⟩
    · rw [dn]; exact ⟨k1, k2⟩
    · rw [pathT_len, tl]
    · exact congrArg _ r3
    · rw [dn]; exact hwl
    · rw [dn, w, d1]
      rfl
    · rw [ends_there hee]
      exact ht

/-! ### a list compared with an empty one: the lengths alone -/
def rNeNil : R2 := fun x y H Q => ∃ (a b : Addr) (xs : List V), x = .ref a ∧ y = .ref b ∧ H a = some (.lst xs) ∧ H b = some (.lst []) ∧ Q (.bl (!xs.isEmpty)) H
theorem op_neNil {X : Cx} (hu : X.A.units + 64 < cLine) : OpR X (compareOp .NotEq) rNeNil := by
  intro pins s σ H x y v u Q I rx ry h
  obtain ⟨a, b, xs, rfl, rfl, ha, hb, q⟩ := h
  cases rx
  cases ry
  obtain ⟨_, its, n, r, hl, e⟩ := I.lstM ha
  obtain ⟨_, its2, n2, r2, hl2, e2⟩ := I.lstM hb
  cases r2
  have la : s.heap.IsList a its.toArray := ⟨_, e, rfl, _, rfl⟩
  have lb : s.heap.IsList b #[] := ⟨_, e2, rfl, _, rfl⟩
  cases xs with
  | nil =>
    cases r
    exact SeqAt.RcNeAt.lists (e := fun _ => true) la lb rfl (by omega) (fun j h1 _ => absurd h1 (by simp)) _ _ _ _ ⟨.bl _, H, I, rfl, q⟩
  | cons x xs =>
    have hz : (its.toArray.size != (#[] : Array Value).size) = true := by
      rw [List.size_toArray, ← hl]
      rfl
    exact SeqAt.RcNeAt.lists_lengths la lb hz (by omega) _ _ _ _ ⟨.bl _, H, I, rfl, q⟩

/-- .. by == -/
def rEqNil : R2 := fun x y H Q => ∃ (a b : Addr) (xs : List V), x = .ref a ∧ y = .ref b ∧ H a = some (.lst xs) ∧ H b = some (.lst []) ∧ Q (.bl xs.isEmpty) H
theorem op_eqNil {X : Cx} (hu : X.A.units + 64 < cLine) : OpR X (compareOp .Eq) rEqNil := by
  intro pins s σ H x y v u Q I rx ry h
  obtain ⟨a, b, xs, rfl, rfl, ha, hb, q⟩ := h
  cases rx
  cases ry
  obtain ⟨_, its, n, r, hl, e⟩ := I.lstM ha
  obtain ⟨_, its2, n2, r2, hl2, e2⟩ := I.lstM hb
  cases r2
  have la : s.heap.IsList a its.toArray := ⟨_, e, rfl, _, rfl⟩
  have lb : s.heap.IsList b #[] := ⟨_, e2, rfl, _, rfl⟩
  cases xs with
  | nil =>
    cases r
    exact SeqAt.RcAt.lists (e := fun _ => true) la lb rfl (by omega) (fun j h1 _ => absurd h1 (by simp)) _ _ _ _ ⟨.bl _, H, I, rfl, q⟩
  | cons x xs =>
    have hz : (its.toArray.size != (#[] : Array Value).size) = true := by
      rw [List.size_toArray, ← hl]
      rfl
    exact SeqAt.RcAt.lists_lengths la lb hz (by omega) _ _ _ _ ⟨.bl _, H, I, rfl, q⟩

/-- a list compared with an empty one by ==, the list any that is read -/
def rEqNilS (K : PySem.W.Frag) : R2 := fun x y H Q => ∃ (a b : Addr) (xs : List V), x = .ref a ∧ y = .ref b ∧ SqL K H a xs ∧ H b = some (.lst []) ∧ Q (.bl xs.isEmpty) H
theorem op_eqNilS {X : Cx} (hu : X.A.units + 64 < cLine) : OpR X (compareOp .Eq) (rEqNilS X.K) := by
  intro pins s σ H x y v u Q I rx ry h
  obtain ⟨a, b, xs, rfl, rfl, ha, hb, q⟩ := h
  cases rx
  cases ry
  obtain ⟨its, r, ⟨o, n, e, hc, hdi, hd⟩, _⟩ := I.list ha
  have hl := r.length
  obtain ⟨_, its2, n2, r2, hl2, e2⟩ := I.lstM hb
  cases r2
  have la : s.heap.IsList a its.toArray := ⟨_, e, hc, _, hd⟩
  have lb : s.heap.IsList b #[] := ⟨_, e2, rfl, _, rfl⟩
  cases xs with
  | nil =>
    cases r
    exact SeqAt.RcAt.lists (e := fun _ => true) la lb rfl (by omega) (fun j h1 _ => absurd h1 (by simp)) _ _ _ _ ⟨.bl _, H, I, rfl, q⟩
  | cons x xs =>
    have hz : (its.toArray.size != (#[] : Array Value).size) = true := by
      rw [List.size_toArray, ← hl]
      rfl
    exact SeqAt.RcAt.lists_lengths la lb hz (by omega) _ _ _ _ ⟨.bl _, H, I, rfl, q⟩

section
variable {P : Program} {w : World} {K : PySem.W.Frag} {mg : Str → Option Value} {base : Heap} {Fam : Sys → Prop}
theorem ok_law_top1 {cc : Addr} {k : Nat} (T : Txt K mg cc) (A : SlA P w K mg base Fam) (C__law_top : Cal P w K mg base (k + 2) "_law_top" (spTop K Fam k) []) : Cal P w K mg base (k + 3) "_law_top" (spTop K Fam (k + 1)) [] := by
  have Z := T.Z
  refine cal_of T.d__law_top sc__law_top (fun vs H Q E h => ?_) (fun f cdv A' outer s H vs Q E hr h => ?_)
  · obtain ⟨S, a, xs, ts, r, _, rfl, _⟩ := h
    rfl
  obtain ⟨S, a, xs, ts, r, hF, rfl, hS, hD, _, hk, hl, hok, q⟩ := h
  have hlen := hD.len
  have G := A.good hF
  refine ⟨_, (pss_cons (ps_if (pt_cmpR (op_eqNilS hr.units) (pv 1) (pe_lst pa_nil) (nomark _)) (pss_one (ps_ret (pe_sl (i := 0) A.held hr (by omega) rfl (by first | exact Or.inl rfl | exact Or.inr (Or.inl rfl) | exact Or.inr (Or.inr rfl)) (pa_cons pe_str (pa_cons pe_int (pa_cons pe_int pa_nil)))))) pss_nil)
  (pss_cons (ps_if (pt_cmpR op_eq (pe_callB call_len_seq rfl Z.len PySem.boot_len (pa_cons (pv 1) pa_nil)) pe_int (nomark _)) (pss_one (ps_ret (pe_ix ix_list (pv 1) pe_int (fun _ _ => rfl)))) pss_nil)
  (pss_cons (ps_set (i := 2) sc__law_top.nd rfl (Or.inl rfl) pe_int)
  (pss_cons (ps_while PassesOwn.never (pt_cmpR op_lt (pe_op op_mul (pv 2) pe_int) (pe_callB call_len_seq rfl Z.len PySem.boot_len (pa_cons (pv 1) pa_nil)) (nomark _)) (pss_one (ps_set (i := 2) sc__law_top.nd rfl (Or.inl rfl) (pe_op op_mul (pv 2) pe_int))))
  (pss_cons (ps_par (i := 3) (j := 4) rfl sc__law_top.nd rfl rfl (by decide) rfl rfl (pa_cons (pe_c C__law_top hr (by omega) rfl (pa_cons (pv 0) (pa_cons (pe_slice sl_list (pv 1) po_none (po_some (pv 2))) pa_nil))) (pa_cons (pe_c C__law_top hr (by omega) rfl (pa_cons (pv 0) (pa_cons (pe_slice sl_list (pv 1) (po_some (pv 2)) po_none) pa_nil))) pa_nil)) (by rfl))
  (pss_one (ps_ret (pe_sl (i := 0) A.held hr (by omega) rfl (by first | exact Or.inl rfl | exact Or.inr (Or.inl rfl) | exact Or.inr (Or.inr rfl)) (pa_cons pe_str (pa_cons (pv 3) (pa_cons (pv 4) pa_nil))))))))))), ?_⟩
  -- no leaf
  refine ⟨_, rfl, Nat.zero_le _, fun p0 hp0 => ?_⟩
  have x0 := Ext.new (o := .lst []) hp0
  replace hok := G.keep (Kp.new (o := .lst []) hp0) hok
  replace hS := x0.seq hS
  replace hD := hD.mono G x0.gr
  replace q := fun v H' e ok d => q v H' (x0.trans e) ok d
  have hp0' : upd H p0 (.lst []) p0 = some (.lst []) := upd_same
  generalize upd H p0 (.lst []) = H at x0 hok hS hD q hp0' ⊢
  refine ⟨a, p0, xs, rfl, rfl, hS, hp0', _, rfl, ite2 (fun c => ?_) (fun c => ?_)⟩
  · have e : ts = [] := List.eq_nil_of_length_eq_zero (by have := List.isEmpty_iff.mp c; rw [this] at hlen; exact hlen.symm)
    subst e
    refine ⟨S, _, hF, rfl, hok, r, "none", .int 0, .int 0, _, _, rfl, by decide +kernel, hok, G.int 0 hok, G.int 0 hok, fun v H' e ok d => q v H' e ok ?_⟩
    rw [topT_nil]
    exact d
  have n0 : xs.length ≠ 0 := fun z => c (List.isEmpty_iff.mpr (List.eq_nil_of_length_eq_zero z))
  -- one
  refine ⟨_, rfl, a, _, rfl, .inl hS, rfl, _, rfl, ite2 (fun c => ?_) (fun c => ?_)⟩
  · have c' : (xs.length : Int) = 1 := V.int.inj (of_decide_eq_true c)
    obtain ⟨v, hv, dv⟩ := atI_den hD (i := 0) (Int.le_refl 0) (by omega)
    refine ⟨_, rfl, a, xs, 0, v, rfl, rfl, hS, hv, q v H (Ext.refl H) ?_ ?_⟩
    · refine G.less hok ?_
      omega
    · rw [topT_single (by omega)]
      exact dv
  have n1 : xs.length ≠ 1 := fun z => c (decide_eq_true (by rw [z]; rfl))
  -- more
  have h2 : 2 ≤ ts.length := by omega
  have hsl := splitN_lt h2
  have hsp := splitN_pos ts.length
  have hk1 : ts.length ≤ 2 ^ k := hk
  obtain ⟨k', rfl⟩ : ∃ k', k = k' + 1 := by
    cases k with
    | zero => simp at hk1; omega
    | succ k' => exact ⟨k', rfl⟩
  obtain ⟨b1, b2⟩ := splitN_le_pow h2 hk1
  have hcs := costT_split h2
  have lg := Nat.log2_le_self ts.length
  refine ⟨fun m σ H' => ∃ i : Nat, m = ts.length - 2 ^ i ∧ 2 ^ i < ts.length ∧ σ = [some (.ref S.f), some (.ref a), some (.int ((2 ^ i : Nat) : Int)), none, none] ∧ H' = H, ⟨_, 0, rfl, by simp; omega, rfl, rfl⟩, ?_⟩
  rintro m σ H' ⟨i, rfl, hi, rfl, rfl⟩
  have cm : CMul ((2 ^ i : Nat) : Int) 2 := .inr ⟨by decide, by decide⟩
  refine ⟨_, rfl, _, 2, rfl, rfl, cm, _, rfl, a, _, rfl, .inl hS, _, _, rfl, rfl, _, rfl, ite2 (fun c => ?_) (fun c => ?_)⟩
  · have c' : ((2 ^ i : Nat) : Int) * 2 < (xs.length : Int) := of_decide_eq_true c
    refine ⟨fun σ' H'' => ∃ j : Nat, j = i + 1 ∧ σ' = [some (.ref S.f), some (.ref a), some (.int ((2 ^ j : Nat) : Int)), none, none] ∧ H'' = H', fun σ' H'' ⟨j, ej, es, eh⟩ => ⟨ts.length - 2 ^ j, ?_, j, rfl, ?_, es, eh⟩, ?_⟩
    · subst ej
      rw [Nat.pow_succ]
      have := Nat.two_pow_pos i
      omega
    · subst ej
      rw [Nat.pow_succ]
      omega
    · refine ⟨_, rfl, _, 2, rfl, rfl, cm, i + 1, rfl, ?_, rfl⟩
      have e : ((2 ^ i : Nat) : Int) * 2 = ((2 ^ (i + 1) : Nat) : Int) := by
        rw [Nat.pow_succ]
        omega
      show [some (.ref S.f), some (.ref a), some (V.int (((2 ^ i : Nat) : Int) * 2)), none, none] = _
      rw [e]
  have c' : ¬ ((2 ^ i : Nat) : Int) * 2 < (xs.length : Int) := of_decide_eq_false (Bool.eq_false_iff.mpr c)
  rw [show 2 ^ i = splitN ts.length from (splitN_of hi (by omega)).symm]
  clear hi cm c c'
  -- the first part
  refine ⟨_, rfl, _, rfl, _, rfl, ((splitN ts.length : Nat) : Int), rfl, a, _, rfl, hS, fun p hp => ?_⟩
  rw [cut_to]
  have x1 := Ext.new (o := .lst (xs.take (splitN ts.length))) hp
  have k1 := Kp.new (o := .lst (xs.take (splitN ts.length))) hp
  refine ⟨S, p, _, ts.take (splitN ts.length), r + 1 + costT (ts.length - splitN ts.length), hF, rfl, SqL.of upd_same, (hD.take _).mono G k1.gr, by omega, ?_, ?_, ?_, fun v1 H1 x2 ok1 d1 => ?_⟩
  · rw [List.length_take]
    show _ ≤ 2 ^ k'
    omega
  · rw [List.length_take]
    omega
  · rw [List.length_take, Nat.min_eq_left (by omega)]
    exact G.less (G.keep k1 hok) (by omega)
  -- the rest
  have xx := x1.trans x2
  refine ⟨_, rfl, _, rfl, _, rfl, ((splitN ts.length : Nat) : Int), rfl, a, _, rfl, xx.seq hS, fun p2 hp2 => ?_⟩
  rw [cut_from]
  have x3 := Ext.new (o := .lst (xs.drop (splitN ts.length))) hp2
  have k3 := Kp.new (o := .lst (xs.drop (splitN ts.length))) hp2
  refine ⟨S, p2, _, ts.drop (splitN ts.length), r + 1, hF, rfl, SqL.of upd_same, ((hD.drop _).mono G xx.gr).mono G k3.gr, by omega, ?_, ?_, ?_, fun v2 H2 x4 ok2 d2 => ?_⟩
  · rw [List.length_drop]
    show _ ≤ 2 ^ k'
    omega
  · rw [List.length_drop]
    omega
  · rw [List.length_drop]
    exact G.keep k3 ok1
  refine ⟨_, _, rfl, S, _, hF, rfl, ok2, _, rfl, _, rfl, r, "pair", topT (ts.take (splitN ts.length)), topT (ts.drop (splitN ts.length)), _, _, rfl, by decide +kernel, ok2, G.mono (x3.trans x4).gr d1, d2, fun v H' x5 ok3 d3 => ?_⟩
  refine q v H' (((xx.trans x3).trans x4).trans x5) ok3 ?_
  rw [topT_more h2]
  exact d3
theorem ok_law_top {cc : Addr} (T : Txt K mg cc) (A : SlA P w K mg base Fam) : ∀ k : Nat, Cal P w K mg base (k + 2) "_law_top" (spTop K Fam k) []
  | 0 => by
    obtain ⟨f, fd, ps, ds, F, m, kp, b, v⟩ := (cal_no (P := P) (w := w) (base := base) T.d__law_top 2).ex
    exact ⟨f, fd, ps, ds, F.imp fun vs H Q E h => by obtain ⟨_, _, _, _, _, _, _, _, _, z, _⟩ := h; exact absurd rfl z, m, kp, b, v⟩
  | k + 1 => ok_law_top1 T A (ok_law_top T A k)
end

section
variable {P : Program} {w : World} {K : PySem.W.Frag} {mg : Str → Option Value} {base : Heap} {Fam : Sys → Prop}
theorem ok__law_path1 {cc : Addr} {k j : Nat} (T : Txt K mg cc) (A : SlA P w K mg base Fam) (C__law_top : ∀ k, Cal P w K mg base (k + j) "_law_top" (spTop K Fam k) []) (C__law_path : Cal P w K mg base (k + j + 1) "_law_path" (spPath K Fam k) []) : Cal P w K mg base (k + j + 2) "_law_path" (spPath K Fam (k + 1)) [] := by
  have Z := T.Z
  have C__law_top := C__law_top (k + 1)
  refine cal_of T.d__law_path sc__law_path (fun vs H Q E h => ?_) (fun f cdv A' outer s H vs Q E hr h => ?_)
  · obtain ⟨S, a, xs, ts, old, r, _, rfl, _⟩ := h
    rfl
  obtain ⟨S, a, xs, ts, place, r, hF, rfl, hS, hD, _, hk, hl, ho, hok, q⟩ := h
  have hlen := hD.len
  have G := A.good hF
  refine ⟨_, (pss_cons (ps_if (pt_cmpR op_eq (pe_callB call_len_seq rfl Z.len PySem.boot_len (pa_cons (pv 1) pa_nil)) pe_int (nomark _)) (pss_one (ps_ret (pe_lst pa_nil))) pss_nil)
  (pss_cons (ps_set (i := 3) sc__law_path.nd rfl (Or.inl rfl) pe_int)
  (pss_cons (ps_while PassesOwn.never (pt_cmpR op_lt (pe_op op_mul (pv 3) pe_int) (pe_callB call_len_seq rfl Z.len PySem.boot_len (pa_cons (pv 1) pa_nil)) (nomark _)) (pss_one (ps_set (i := 3) sc__law_path.nd rfl (Or.inl rfl) (pe_op op_mul (pv 3) pe_int))))
  (pss_cons (ps_if (pt_cmpR op_lt (pv 2) (pv 3) (nomark _)) (pss_cons (ps_set (i := 4) sc__law_path.nd rfl (Or.inl rfl) (pe_c C__law_top hr (by omega) rfl (pa_cons (pv 0) (pa_cons (pe_slice sl_list (pv 1) (po_some (pv 3)) po_none) pa_nil))))
  (pss_one (ps_ret (pe_op op_cat (pe_c C__law_path hr (by omega) rfl (pa_cons (pv 0) (pa_cons (pe_slice sl_list (pv 1) po_none (po_some (pv 3))) (pa_cons (pv 2) pa_nil)))) (pe_lst (pa_cons (pv 4) pa_nil)))))) pss_nil)
  (pss_cons (ps_set (i := 4) sc__law_path.nd rfl (Or.inl rfl) (pe_c C__law_top hr (by omega) rfl (pa_cons (pv 0) (pa_cons (pe_slice sl_list (pv 1) po_none (po_some (pv 3))) pa_nil))))
  (pss_one (ps_ret (pe_op op_cat (pe_c C__law_path hr (by omega) rfl (pa_cons (pv 0) (pa_cons (pe_slice sl_list (pv 1) (po_some (pv 3)) po_none) (pa_cons (pe_op op_sub (pv 2) (pv 3)) pa_nil)))) (pe_lst (pa_cons (pv 4) pa_nil)))))))))), ?_⟩
  -- one leaf
  refine ⟨_, rfl, a, _, rfl, .inl hS, rfl, _, rfl, ite2 (fun c => ?_) (fun c => ?_)⟩
  · have c' : (xs.length : Int) = 1 := V.int.inj (of_decide_eq_true c)
    refine ⟨Nat.zero_le _, fun p hp => ?_⟩
    refine q p [] _ (Ext.new hp) hp upd_same (G.less (G.keep (Kp.new hp) hok) (by omega)) ?_
    rw [pathT_one (by omega)]
    exact DenL.nil
  have n1 : xs.length ≠ 1 := fun z => c (decide_eq_true (by rw [z] <;> rfl))
  have h2 : 2 ≤ ts.length := by omega
  have hsl := splitN_lt h2
  have hsp := splitN_pos ts.length
  have hk1 : ts.length ≤ 2 ^ k := hk
  obtain ⟨k', rfl⟩ : ∃ k', k = k' + 1 := by
    cases k with
    | zero => simp at hk1; omega
    | succ k' => exact ⟨k', rfl⟩
  obtain ⟨b1, b2⟩ := splitN_le_pow h2 hk1
  have hcs := costT_split h2
  have lg := Nat.log2_le_self ts.length
  refine ⟨fun m σ H' => ∃ i : Nat, m = ts.length - 2 ^ i ∧ 2 ^ i < ts.length ∧ σ = [some (.ref S.f), some (.ref a), some (.int (place : Int)), some (.int ((2 ^ i : Nat) : Int)), none] ∧ H' = H, ⟨_, 0, rfl, by simp; omega, rfl, rfl⟩, ?_⟩
  rintro m σ H' ⟨i, rfl, hi, rfl, rfl⟩
  have cm : CMul ((2 ^ i : Nat) : Int) 2 := .inr ⟨by decide, by decide⟩
  refine ⟨_, rfl, _, 2, rfl, rfl, cm, _, rfl, a, _, rfl, .inl hS, _, _, rfl, rfl, _, rfl, ite2 (fun c => ?_) (fun c => ?_)⟩
  · have c' : ((2 ^ i : Nat) : Int) * 2 < (xs.length : Int) := of_decide_eq_true c
    refine ⟨fun σ' H'' => ∃ j : Nat, j = i + 1 ∧ σ' = [some (.ref S.f), some (.ref a), some (.int (place : Int)), some (.int ((2 ^ j : Nat) : Int)), none] ∧ H'' = H', fun σ' H'' ⟨j, ej, es, eh⟩ => ⟨ts.length - 2 ^ j, ?_, j, rfl, ?_, es, eh⟩, ?_⟩
    · subst ej
      rw [Nat.pow_succ]
      have := Nat.two_pow_pos i
      omega
    · subst ej
      rw [Nat.pow_succ]
      omega
    · refine ⟨_, rfl, _, 2, rfl, rfl, cm, i + 1, rfl, ?_, rfl⟩
      have e : ((2 ^ i : Nat) : Int) * 2 = ((2 ^ (i + 1) : Nat) : Int) := by
        rw [Nat.pow_succ]
        omega
      show [some (.ref S.f), some (.ref a), some (.int (place : Int)), some (V.int (((2 ^ i : Nat) : Int) * 2)), none] = _
      rw [e]
  have c' : ¬ ((2 ^ i : Nat) : Int) * 2 < (xs.length : Int) := of_decide_eq_false (Bool.eq_false_iff.mpr c)
  rw [show 2 ^ i = splitN ts.length from (splitN_of hi (by omega)).symm]
  clear hi cm c c'
  have lt1 : (ts.take (splitN ts.length)).length = splitN ts.length := by
    rw [List.length_take]
    omega
  have ld1 : (ts.drop (splitN ts.length)).length = ts.length - splitN ts.length := List.length_drop
  refine ⟨_, rfl, _, rfl, _, _, rfl, rfl, _, rfl, ite2 (fun c => ?_) (fun c => ?_)⟩
  · -- in the first part
    have c' : (place : Int) < ((splitN ts.length : Nat) : Int) := of_decide_eq_true c
    refine ⟨_, rfl, _, rfl, _, rfl, ((splitN ts.length : Nat) : Int), rfl, a, _, rfl, hS, fun p2 hp2 => ?_⟩
    rw [cut_from]
    have x3 := Ext.new (o := .lst (xs.drop (splitN ts.length))) hp2
    have k3 := Kp.new (o := .lst (xs.drop (splitN ts.length))) hp2
    refine ⟨S, p2, _, ts.drop (splitN ts.length), r + costT (splitN ts.length), hF, rfl, SqL.of upd_same, (hD.drop _).mono G k3.gr, by omega, ?_, ?_, ?_, fun v2 H2 x4 ok2 d2 => ?_⟩
    · rw [ld1]
      exact Nat.le_trans b2 (Nat.pow_le_pow_right (by decide) (by omega))
    · omega
    · rw [ld1]
      exact G.less (G.keep k3 hok) (by omega)
    have xx := x3.trans x4
    refine ⟨_, rfl, _, rfl, _, rfl, ((splitN ts.length : Nat) : Int), rfl, a, _, rfl, xx.seq hS, fun p hp => ?_⟩
    rw [cut_to]
    have x1 := Ext.new (o := .lst (xs.take (splitN ts.length))) hp
    have k1 := Kp.new (o := .lst (xs.take (splitN ts.length))) hp
    refine ⟨_, rfl, S, p, _, ts.take (splitN ts.length), place, r, hF, rfl, SqL.of upd_same, ((hD.take _).mono G xx.gr).mono G k1.gr, by omega, ?_, ?_, ?_, ?_, fun p1 ys H1 x2 np1 hp1 ok1 d1 => ?_⟩
    · rw [lt1]
      exact b1
    · omega
    · omega
    · rw [lt1]
      exact G.keep k1 ok2
    refine ⟨_, rfl, by show 1 ≤ sizeLine; decide, fun p3 hp3 => ?_⟩
    have l1 := d1.len
    rw [pathT_len, lt1] at l1
    have gl := plen_le k' place (splitN ts.length) b1
    have kk : k' ≤ 1000 := by
      have := hr.dp
      have e0 : recursionLimit = 1000 := rfl
      omega
    refine ⟨p1, p3, ys, [v2], rfl, rfl, by rw [upd_ne (ne_of_none hp1 hp3)]; exact hp1, upd_same, ?_, fun p4 hp4 => ?_⟩
    · rw [l1]
      show _ + 1 ≤ _
      rw [sizeLine_eq]
      omega
    have x5 := (Ext.new (o := .lst [v2]) hp3).trans (Ext.new (o := .lst (ys ++ [v2])) hp4)
    have np4 := (((xx.trans x1).trans x2).free ((Ext.new (o := .lst [v2]) hp3).free hp4))
    refine q p4 _ _ (((xx.trans x1).trans x2).trans x5) np4 upd_same (G.keep ((Kp.new hp3).trans (Kp.new hp4)) ok1) ?_
    rw [pathT_low (by omega) (by omega)]
    exact (d1.mono G x5.gr).append (DenL.one (G.mono ((x1.trans x2).trans x5).gr d2))
  · -- in the rest
    have c' : ¬ (place : Int) < ((splitN ts.length : Nat) : Int) := of_decide_eq_false (Bool.eq_false_iff.mpr c)
    refine ⟨_, rfl, _, rfl, _, rfl, ((splitN ts.length : Nat) : Int), rfl, a, _, rfl, hS, fun p2 hp2 => ?_⟩
    rw [cut_to]
    have x3 := Ext.new (o := .lst (xs.take (splitN ts.length))) hp2
    have k3 := Kp.new (o := .lst (xs.take (splitN ts.length))) hp2
    refine ⟨S, p2, _, ts.take (splitN ts.length), r + costT (ts.length - splitN ts.length), hF, rfl, SqL.of upd_same, (hD.take _).mono G k3.gr, by omega, ?_, ?_, ?_, fun v2 H2 x4 ok2 d2 => ?_⟩
    · rw [lt1]
      exact Nat.le_trans b1 (Nat.pow_le_pow_right (by decide) (by omega))
    · omega
    · rw [lt1]
      exact G.less (G.keep k3 hok) (by omega)
    have xx := x3.trans x4
    refine ⟨_, rfl, _, rfl, _, rfl, ((splitN ts.length : Nat) : Int), rfl, a, _, rfl, xx.seq hS, fun p hp => ?_⟩
    rw [cut_from]
    have x1 := Ext.new (o := .lst (xs.drop (splitN ts.length))) hp
    have k1 := Kp.new (o := .lst (xs.drop (splitN ts.length))) hp
    refine ⟨_, rfl, _, rfl, _, _, rfl, rfl, S, p, _, ts.drop (splitN ts.length), place - splitN ts.length, r, hF, ?_, SqL.of upd_same, ((hD.drop _).mono G xx.gr).mono G k1.gr, by omega, ?_, ?_, ?_, ?_, fun p1 ys H1 x2 np1 hp1 ok1 d1 => ?_⟩
    · rw [show ((place - splitN ts.length : Nat) : Int) = (place : Int) - ((splitN ts.length : Nat) : Int) by omega]
      rfl
    · rw [ld1]
      exact b2
    · omega
    · omega
    · rw [ld1]
      exact G.keep k1 ok2
    refine ⟨_, rfl, by show 1 ≤ sizeLine; decide, fun p3 hp3 => ?_⟩
    have l1 := d1.len
    rw [pathT_len, ld1] at l1
    have gl := plen_le k' (place - splitN ts.length) (ts.length - splitN ts.length) b2
    have kk : k' ≤ 1000 := by
      have := hr.dp
      have e0 : recursionLimit = 1000 := rfl
      omega
    refine ⟨p1, p3, ys, [v2], rfl, rfl, by rw [upd_ne (ne_of_none hp1 hp3)]; exact hp1, upd_same, ?_, fun p4 hp4 => ?_⟩
    · rw [l1]
      show _ + 1 ≤ _
      rw [sizeLine_eq]
      omega
    have x5 := (Ext.new (o := .lst [v2]) hp3).trans (Ext.new (o := .lst (ys ++ [v2])) hp4)
    have np4 := (((xx.trans x1).trans x2).free ((Ext.new (o := .lst [v2]) hp3).free hp4))
    refine q p4 _ _ (((xx.trans x1).trans x2).trans x5) np4 upd_same (G.keep ((Kp.new hp3).trans (Kp.new hp4)) ok1) ?_
    rw [pathT_high (by omega) (by omega)]
    exact (d1.mono G x5.gr).append (DenL.one (G.mono ((x1.trans x2).trans x5).gr d2))
theorem ok__law_path {cc : Addr} {j : Nat} (T : Txt K mg cc) (A : SlA P w K mg base Fam) (C__law_top : ∀ k, Cal P w K mg base (k + j) "_law_top" (spTop K Fam k) []) : ∀ k : Nat, Cal P w K mg base (k + j + 1) "_law_path" (spPath K Fam k) []
  | 0 => by
    obtain ⟨f, fd, ps, ds, F, m, kp, b, v⟩ := (cal_no (P := P) (w := w) (base := base) T.d__law_path (0 + j + 1)).ex
    exact ⟨f, fd, ps, ds, F.imp fun vs H Q E h => by obtain ⟨_, _, _, _, _, _, _, _, _, _, z, _⟩ := h; exact absurd rfl z, m, kp, b, v⟩
  | k + 1 => cal_mono (ok__law_path1 T A C__law_top (ok__law_path T A C__law_top k)) (by omega)
end

/-- a growth from a size that is not nought is asked -/
def spGrowP (K : PySem.W.Frag) (Fam : Sys → Prop) (k : Nat) : Sp := fun vs H Q _ => ∃ (S : Sys) (a : Addr) (xs : List V) (ts : List Tm) (old r : Nat), Fam S ∧ vs = [.ref S.f, .ref a, .int (old : Int)] ∧ SqL K H a xs ∧ DenL S H xs ts ∧ k ≠ 0 ∧ ts.length ≤ 2 ^ (k - 1) ∧ ts.length ≤ 1000 ∧ 0 < old ∧ old ≤ ts.length ∧ S.ok H (r + costT ts.length) ∧
  ∀ p ys H', Ext H H' → H p = none → H' p = some (.lst ys) → S.ok H' r → DenL S H' ys (growT ts old) → Q (.ref p) H'
section
variable {P : Program} {w : World} {K : PySem.W.Frag} {mg : Str → Option Value} {base : Heap} {Fam : Sys → Prop}
theorem ok__law_growth1 {cc : Addr} {k j : Nat} (T : Txt K mg cc) (A : SlA P w K mg base Fam) (C__law_top : ∀ k, Cal P w K mg base (k + j) "_law_top" (spTop K Fam k) []) (C__law_growth : Cal P w K mg base (k + j + 1) "_law_growth" (spGrowP K Fam k) []) : Cal P w K mg base (k + j + 2) "_law_growth" (spGrowP K Fam (k + 1)) [] := by
  have Z := T.Z
  have C__law_top := C__law_top (k + 1)
  refine cal_of T.d__law_growth sc__law_growth (fun vs H Q E h => ?_) (fun f cdv A' outer s H vs Q E hr h => ?_)
  · obtain ⟨S, a, xs, ts, old, r, _, rfl, _⟩ := h
    rfl
  obtain ⟨S, a, xs, ts, old, r, hF, rfl, hS, hD, _, hk, hl, hpos, ho, hok, q⟩ := h
  have hlen := hD.len
  have G := A.good hF
  refine ⟨_, (pss_cons (ps_if (pt_cmpR op_eq (pv 2) (pe_callB call_len_seq rfl Z.len PySem.boot_len (pa_cons (pv 1) pa_nil)) (nomark _)) (pss_one (ps_ret (pe_lst (pa_cons (pe_c C__law_top hr (by omega) rfl (pa_cons (pv 0) (pa_cons (pv 1) pa_nil))) pa_nil)))) pss_nil)
  (pss_cons (ps_set (i := 3) sc__law_growth.nd rfl (Or.inl rfl) pe_int)
  (pss_cons (ps_while PassesOwn.never (pt_cmpR op_lt (pe_op op_mul (pv 3) pe_int) (pe_callB call_len_seq rfl Z.len PySem.boot_len (pa_cons (pv 1) pa_nil)) (nomark _)) (pss_one (ps_set (i := 3) sc__law_growth.nd rfl (Or.inl rfl) (pe_op op_mul (pv 3) pe_int))))
  (pss_cons (ps_if (pt_cmpR op_le (pv 2) (pv 3) (nomark _)) (pss_cons (ps_set (i := 4) sc__law_growth.nd rfl (Or.inl rfl) (pe_c C__law_top hr (by omega) rfl (pa_cons (pv 0) (pa_cons (pe_slice sl_list (pv 1) (po_some (pv 3)) po_none) pa_nil))))
  (pss_one (ps_ret (pe_op op_cat (pe_c C__law_growth hr (by omega) rfl (pa_cons (pv 0) (pa_cons (pe_slice sl_list (pv 1) po_none (po_some (pv 3))) (pa_cons (pv 2) pa_nil)))) (pe_lst (pa_cons (pv 4) pa_nil)))))) pss_nil)
  (pss_cons (ps_set (i := 4) sc__law_growth.nd rfl (Or.inl rfl) (pe_c C__law_top hr (by omega) rfl (pa_cons (pv 0) (pa_cons (pe_slice sl_list (pv 1) po_none (po_some (pv 3))) pa_nil))))
  (pss_one (ps_ret (pe_op op_cat (pe_c C__law_growth hr (by omega) rfl (pa_cons (pv 0) (pa_cons (pe_slice sl_list (pv 1) (po_some (pv 3)) po_none) (pa_cons (pe_op op_sub (pv 2) (pv 3)) pa_nil)))) (pe_lst (pa_cons (pv 4) pa_nil)))))))))), ?_⟩
  -- all of it
  refine ⟨_, rfl, _, rfl, a, _, rfl, .inl hS, rfl, _, rfl, ite2 (fun c => ?_) (fun c => ?_)⟩
  · have c' : (old : Int) = (xs.length : Int) := V.int.inj (of_decide_eq_true c)
    have e : old = ts.length := by omega
    subst e
    refine ⟨_, rfl, _, rfl, S, a, xs, ts, r, hF, rfl, hS, hD, by omega, hk, hl, hok, fun v H1 x1 ok1 d1 => ?_⟩
    refine ⟨by show 1 ≤ sizeLine; decide, fun p hp => ?_⟩
    refine q p [v] _ (x1.trans (Ext.new hp)) (x1.free hp) upd_same (G.keep (Kp.new hp) ok1) ?_
    rw [growT_all (by omega)]
    exact DenL.one (G.mono (Kp.new hp).gr d1)
  have n1 : old ≠ ts.length := fun z => c (decide_eq_true (by rw [z, hlen] <;> rfl))
  have h2 : 2 ≤ ts.length := by omega
  have hsl := splitN_lt h2
  have hsp := splitN_pos ts.length
  have hk1 : ts.length ≤ 2 ^ k := hk
  obtain ⟨k', rfl⟩ : ∃ k', k = k' + 1 := by
    cases k with
    | zero => simp at hk1; omega
    | succ k' => exact ⟨k', rfl⟩
  obtain ⟨b1, b2⟩ := splitN_le_pow h2 hk1
  have hcs := costT_split h2
  have lg := Nat.log2_le_self ts.length
  refine ⟨fun m σ H' => ∃ i : Nat, m = ts.length - 2 ^ i ∧ 2 ^ i < ts.length ∧ σ = [some (.ref S.f), some (.ref a), some (.int (old : Int)), some (.int ((2 ^ i : Nat) : Int)), none] ∧ H' = H, ⟨_, 0, rfl, by simp; omega, rfl, rfl⟩, ?_⟩
  rintro m σ H' ⟨i, rfl, hi, rfl, rfl⟩
  have cm : CMul ((2 ^ i : Nat) : Int) 2 := .inr ⟨by decide, by decide⟩
  refine ⟨_, rfl, _, 2, rfl, rfl, cm, _, rfl, a, _, rfl, .inl hS, _, _, rfl, rfl, _, rfl, ite2 (fun c => ?_) (fun c => ?_)⟩
  · have c' : ((2 ^ i : Nat) : Int) * 2 < (xs.length : Int) := of_decide_eq_true c
    refine ⟨fun σ' H'' => ∃ j : Nat, j = i + 1 ∧ σ' = [some (.ref S.f), some (.ref a), some (.int (old : Int)), some (.int ((2 ^ j : Nat) : Int)), none] ∧ H'' = H', fun σ' H'' ⟨j, ej, es, eh⟩ => ⟨ts.length - 2 ^ j, ?_, j, rfl, ?_, es, eh⟩, ?_⟩
    · subst ej
      rw [Nat.pow_succ]
      have := Nat.two_pow_pos i
      omega
    · subst ej
      rw [Nat.pow_succ]
      omega
    · refine ⟨_, rfl, _, 2, rfl, rfl, cm, i + 1, rfl, ?_, rfl⟩
      have e : ((2 ^ i : Nat) : Int) * 2 = ((2 ^ (i + 1) : Nat) : Int) := by
        rw [Nat.pow_succ]
        omega
      show [some (.ref S.f), some (.ref a), some (.int (old : Int)), some (V.int (((2 ^ i : Nat) : Int) * 2)), none] = _
      rw [e]
  have c' : ¬ ((2 ^ i : Nat) : Int) * 2 < (xs.length : Int) := of_decide_eq_false (Bool.eq_false_iff.mpr c)
  rw [show 2 ^ i = splitN ts.length from (splitN_of hi (by omega)).symm]
  clear hi cm c c'
  have lt1 : (ts.take (splitN ts.length)).length = splitN ts.length := by
    rw [List.length_take]
    omega
  have ld1 : (ts.drop (splitN ts.length)).length = ts.length - splitN ts.length := List.length_drop
  refine ⟨_, rfl, _, rfl, _, _, rfl, rfl, _, rfl, ite2 (fun c => ?_) (fun c => ?_)⟩
  · -- in the first part
    have c' : (old : Int) ≤ ((splitN ts.length : Nat) : Int) := of_decide_eq_true c
    refine ⟨_, rfl, _, rfl, _, rfl, ((splitN ts.length : Nat) : Int), rfl, a, _, rfl, hS, fun p2 hp2 => ?_⟩
    rw [cut_from]
    have x3 := Ext.new (o := .lst (xs.drop (splitN ts.length))) hp2
    have k3 := Kp.new (o := .lst (xs.drop (splitN ts.length))) hp2
    refine ⟨S, p2, _, ts.drop (splitN ts.length), r + costT (splitN ts.length), hF, rfl, SqL.of upd_same, (hD.drop _).mono G k3.gr, by omega, ?_, ?_, ?_, fun v2 H2 x4 ok2 d2 => ?_⟩
    · rw [ld1]
      exact Nat.le_trans b2 (Nat.pow_le_pow_right (by decide) (by omega))
    · omega
    · rw [ld1]
      exact G.less (G.keep k3 hok) (by omega)
    have xx := x3.trans x4
    refine ⟨_, rfl, _, rfl, _, rfl, ((splitN ts.length : Nat) : Int), rfl, a, _, rfl, xx.seq hS, fun p hp => ?_⟩
    rw [cut_to]
    have x1 := Ext.new (o := .lst (xs.take (splitN ts.length))) hp
    have k1 := Kp.new (o := .lst (xs.take (splitN ts.length))) hp
    refine ⟨_, rfl, S, p, _, ts.take (splitN ts.length), old, r, hF, rfl, SqL.of upd_same, ((hD.take _).mono G xx.gr).mono G k1.gr, by omega, ?_, ?_, ?_, ?_, ?_, fun p1 ys H1 x2 np1 hp1 ok1 d1 => ?_⟩
    · rw [lt1]
      exact b1
    · omega
    · omega
    · omega
    · rw [lt1]
      exact G.keep k1 ok2
    refine ⟨_, rfl, by show 1 ≤ sizeLine; decide, fun p3 hp3 => ?_⟩
    have l1 := d1.len
    have gl := growT_len k' (ts.take (splitN ts.length)) old (by rw [lt1]; exact b1)
    have kk : k' ≤ 1000 := by
      have := hr.dp
      have e0 : recursionLimit = 1000 := rfl
      omega
    refine ⟨p1, p3, ys, [v2], rfl, rfl, by rw [upd_ne (ne_of_none hp1 hp3)]; exact hp1, upd_same, ?_, fun p4 hp4 => ?_⟩
    · rw [l1]
      show _ + 1 ≤ _
      rw [sizeLine_eq]
      omega
    have x5 := (Ext.new (o := .lst [v2]) hp3).trans (Ext.new (o := .lst (ys ++ [v2])) hp4)
    have np4 := (((xx.trans x1).trans x2).free ((Ext.new (o := .lst [v2]) hp3).free hp4))
    refine q p4 _ _ (((xx.trans x1).trans x2).trans x5) np4 upd_same (G.keep ((Kp.new hp3).trans (Kp.new hp4)) ok1) ?_
    rw [growT_low (by omega) (by omega) (by omega)]
    exact (d1.mono G x5.gr).append (DenL.one (G.mono ((x1.trans x2).trans x5).gr d2))
  · -- in the rest
    have c' : ¬ (old : Int) ≤ ((splitN ts.length : Nat) : Int) := of_decide_eq_false (Bool.eq_false_iff.mpr c)
    refine ⟨_, rfl, _, rfl, _, rfl, ((splitN ts.length : Nat) : Int), rfl, a, _, rfl, hS, fun p2 hp2 => ?_⟩
    rw [cut_to]
    have x3 := Ext.new (o := .lst (xs.take (splitN ts.length))) hp2
    have k3 := Kp.new (o := .lst (xs.take (splitN ts.length))) hp2
    refine ⟨S, p2, _, ts.take (splitN ts.length), r + costT (ts.length - splitN ts.length), hF, rfl, SqL.of upd_same, (hD.take _).mono G k3.gr, by omega, ?_, ?_, ?_, fun v2 H2 x4 ok2 d2 => ?_⟩
    · rw [lt1]
      exact Nat.le_trans b1 (Nat.pow_le_pow_right (by decide) (by omega))
    · omega
    · rw [lt1]
      exact G.less (G.keep k3 hok) (by omega)
    have xx := x3.trans x4
    refine ⟨_, rfl, _, rfl, _, rfl, ((splitN ts.length : Nat) : Int), rfl, a, _, rfl, xx.seq hS, fun p hp => ?_⟩
    rw [cut_from]
    have x1 := Ext.new (o := .lst (xs.drop (splitN ts.length))) hp
    have k1 := Kp.new (o := .lst (xs.drop (splitN ts.length))) hp
    refine ⟨_, rfl, _, rfl, _, _, rfl, rfl, S, p, _, ts.drop (splitN ts.length), old - splitN ts.length, r, hF, ?_, SqL.of upd_same, ((hD.drop _).mono G xx.gr).mono G k1.gr, by omega, ?_, ?_, ?_, ?_, ?_, fun p1 ys H1 x2 np1 hp1 ok1 d1 => ?_⟩
    · rw [show ((old - splitN ts.length : Nat) : Int) = (old : Int) - ((splitN ts.length : Nat) : Int) by omega]
      rfl
    · rw [ld1]
      exact b2
    · omega
    · omega
    · omega
    · rw [ld1]
      exact G.keep k1 ok2
    refine ⟨_, rfl, by show 1 ≤ sizeLine; decide, fun p3 hp3 => ?_⟩
    have l1 := d1.len
    have gl := growT_len k' (ts.drop (splitN ts.length)) (old - splitN ts.length) (by rw [ld1]; exact b2)
    have kk : k' ≤ 1000 := by
      have := hr.dp
      have e0 : recursionLimit = 1000 := rfl
      omega
    refine ⟨p1, p3, ys, [v2], rfl, rfl, by rw [upd_ne (ne_of_none hp1 hp3)]; exact hp1, upd_same, ?_, fun p4 hp4 => ?_⟩
    · rw [l1]
      show _ + 1 ≤ _
      rw [sizeLine_eq]
      omega
    have x5 := (Ext.new (o := .lst [v2]) hp3).trans (Ext.new (o := .lst (ys ++ [v2])) hp4)
    have np4 := (((xx.trans x1).trans x2).free ((Ext.new (o := .lst [v2]) hp3).free hp4))
    refine q p4 _ _ (((xx.trans x1).trans x2).trans x5) np4 upd_same (G.keep ((Kp.new hp3).trans (Kp.new hp4)) ok1) ?_
    rw [growT_high (by omega) (by omega) (by omega)]
    exact (d1.mono G x5.gr).append (DenL.one (G.mono ((x1.trans x2).trans x5).gr d2))
theorem ok__law_growth {cc : Addr} {j : Nat} (T : Txt K mg cc) (A : SlA P w K mg base Fam) (C__law_top : ∀ k, Cal P w K mg base (k + j) "_law_top" (spTop K Fam k) []) : ∀ k : Nat, Cal P w K mg base (k + j + 1) "_law_growth" (spGrowP K Fam k) []
  | 0 => by
    obtain ⟨f, fd, ps, ds, F, m, kp, b, v⟩ := (cal_no (P := P) (w := w) (base := base) T.d__law_growth (0 + j + 1)).ex
    exact ⟨f, fd, ps, ds, F.imp fun vs H Q E h => by obtain ⟨_, _, _, _, _, _, _, _, _, _, z, _⟩ := h; exact absurd rfl z, m, kp, b, v⟩
  | k + 1 => cal_mono (ok__law_growth1 T A C__law_top (ok__law_growth T A C__law_top k)) (by omega)
end

/-- a def called without anything -/
theorem pe_c0 {X : Cx} {k j : Nat} {x : Str} {sp : Sp} {dvs : List V} {p pos : Pos} (c : Cal X.prog X.w X.K X.mg X.base k x sp dvs) (hr : Room j X.A) (hk : k ≤ j) (hg : Gl X x)
    (hdb : (x == ("__debug__" : Str)) = false := by decide) : PE X (.Call (.Name x p) [] [] pos) (tCall sp dvs C8.E0 tNil) := by
  obtain ⟨f, fd, ps, ds, F, m, kp, b, v⟩ := c.ex
  exact pe_call0 F (hr.mono hk) hg m kp b v pass0 hdb

/-! ### as many stretches as there are ones -/
def popF : Nat → Nat → Nat
  | 0, _ => 0
  | f + 1, n => if n = 0 then 0 else popF f (n - greatN n) + 1
def onesN (n i : Nat) : Nat := ((List.range i).filter fun j => decide (n / 2 ^ j % 2 = 1)).length
theorem onesN_succ (n i : Nat) : onesN n (i + 1) = onesN n i + if n / 2 ^ i % 2 = 1 then 1 else 0 := by
  unfold onesN
  rw [List.range_succ, List.filter_append, List.length_append]
  by_cases h : n / 2 ^ i % 2 = 1
  · rw [if_pos h]
    simp [h]
  · rw [if_neg h]
    simp [h]
theorem onesN_le (n : Nat) : ∀ i, onesN n i ≤ i
  | 0 => Nat.le_refl _
  | i + 1 => by
    rw [onesN_succ]
    have := onesN_le n i
    split <;> omega
theorem pop_ones : ∀ n : Nat, n < 401 → popF 10 n = onesN n 10 := by decide +kernel
theorem stT_pop : ∀ (f : Nat) (ts : List Tm), ts.length < 2 ^ f → (stT ts).length = popF f ts.length
  | 0, ts, h => by
    rw [List.eq_nil_of_length_eq_zero (show ts.length = 0 by simpa using h), stT_nil]
    rfl
  | f + 1, ts, h => by
    unfold popF
    by_cases h0 : ts.length = 0
    · rw [if_pos h0, List.eq_nil_of_length_eq_zero h0, stT_nil]
      rfl
    · rw [if_neg h0, stT_more h0, List.length_cons]
      have a := greatN_le (show 0 < ts.length by omega)
      have b := greatN_lt ts.length
      have c : greatN ts.length ≤ 2 ^ f := Nat.pow_le_pow_right (by decide) (by
        have : ts.length.log2 < f + 1 := (Nat.log2_lt h0).mpr h
        omega)
      have e : (ts.drop (greatN ts.length)).length = ts.length - greatN ts.length := List.length_drop
      rw [stT_pop f (ts.drop (greatN ts.length)) (by rw [e]; omega), e]
theorem stT_ones {ts : List Tm} (h : ts.length ≤ 400) : (stT ts).length = onesN ts.length 10 := by
  rw [stT_pop 10 ts (by omega), pop_ones _ (by omega)]
/-! ### a table of code objects stays -/
theorem tabS_gr {H H' : Hp} {PT : Addr} {q : Str} (t : LamX.TabS H PT q) (x : Gr H H') : LamX.TabS H' PT q := by
  obtain ⟨ps, h1, h2, h3⟩ := t
  refine ⟨ps, x.keep _ _ h1 True.intro (fun _ z => nomatch z), h2, fun pos cv hc => ?_⟩
  obtain ⟨c, e1, e2⟩ := h3 pos cv hc
  exact ⟨c, e1, x.keep _ _ e2 True.intro (fun _ z => nomatch z)⟩
theorem txtOk_app {x y : Str} (h : txtOk x = true) (h' : txtOk y = true) : txtOk (x ++ y) = true := by
  have e : (x ++ y).cps = x.cps ++ y.cps := rfl
  unfold txtOk PySem.PyData.strOk at *
  rw [e, Array.all_append, h, h']
  rfl

/-! ### a row of many leaves -/
theorem dig100 : ∀ n : Nat, n < 100 → txtOk (toString (n : Int)) = true ∧ (toString (n : Int) : Str).length ≤ 2 := by decide +kernel
section
variable {P : Program} {w : World} {K : PySem.W.Frag} {mg : Str → Option Value} {base : Heap} {C : Addr}
def leaf16 (i : Nat) : Tm := .sl "leaf" (.str ("e" ++ toString ((i : Int) % 97))) (.int ((i : Int) / 97))
def leaves16 (n : Nat) : List Tm := (List.range n).map leaf16
theorem leaves16_len (n : Nat) : (leaves16 n).length = n := by
  unfold leaves16
  rw [List.length_map, List.length_range]
theorem leaves16_succ (n : Nat) : leaves16 (n + 1) = leaves16 n ++ [leaf16 n] := by
  unfold leaves16
  rw [List.range_succ, List.map_append]
  rfl
theorem leaves16_dep {n : Nat} : ∀ t ∈ leaves16 n, t.dep ≤ 1 := fun t ht => by
  obtain ⟨i, _, rfl⟩ := List.mem_map.mp ht
  exact Nat.le_refl _
def spStretches (PT : Addr) : Sp := fun vs H Q _ => ∃ (m p o : Nat), vs = [.int (m : Int), .int (p : Int), .int (o : Int)] ∧ 1 ≤ m ∧ m ≤ 400 ∧ p < m ∧ 1 ≤ o ∧ o ≤ m ∧ LamX.TabS H PT qL ∧ ∀ H', LamX.TabS H' PT qL → Q (.bl true) H'
theorem ok_stretches {cc PT : Addr} (T : Txt K mg cc) (TB : LamX.TabB base mg cc PT) (KF : K_Frontier K mg C) : CalX P w K mg base 16 "_law_stretches_right" (spStretches PT) := by
  have Z := T.Z
  have A := sla16 (P := P) (w := w) (base := base) T
  have C__law_numbers := cal_numbers (P := P) (w := w) (base := base) T.m__law_numbers TB
  have C_Frontier := ok_finit (P := P) (w := w) (base := base) A KF
  have C_none_seal := ok_none_seal T A
  have C_pair_seal := ok_pair_seal T A
  have C_last_of := ok_last (P := P) (w := w) (base := base) T
  have C_split := ok_split (P := P) (w := w) (base := base) T
  have C_top_of := ok_top_of T A 10
  have C_path_of := ok_path_of T A C_split (ok_top_of T A) 10
  have C_growth_of := ok_growth_of T A C_split (ok_top_of T A) 10
  have C__law_top := ok_law_top T A 10
  have C__law_path := ok__law_path T A (ok_law_top T A) 10
  have C__law_growth := ok__law_growth T A (ok_law_top T A) 10
  have C_risen := ok_risen T A C_last_of C_split C_pair_seal
  have M_add := ok_fadd A KF C_pair_seal
  have M_size := ok_fsize (P := P) (w := w) (base := base) KF
  have M_kept := ok_fkept (P := P) (w := w) (base := base) T KF
  have M_top := ok_ftop T A KF C_none_seal C_pair_seal
  have e16 : sizeLine = 16777216 := sizeLine_eq
  refine calX_of T.d__law_stretches_right sc__law_stretches_right (fun vs H Q E h => ?_) (fun f cdv A' outer s H vs Q E hr h => ?_)
  · obtain ⟨m, p, o, rfl, _⟩ := h
    rfl
  obtain ⟨m, p, o, rfl, hm1, hm, hp, ho1, ho, hPT, q⟩ := h
  refine ⟨_, (pss_cons (ps_set (i := 3) sc__law_stretches_right.nd rfl (Or.inr rfl) (pe_c0 C__law_numbers hr (by omega) rfl))
  (pss_cons (ps_setLc (i := 4) (own := [("_law_at", 11)]) (g := gName 11) (tt := tYes) rfl sc__law_stretches_right.nd rfl rfl (sw_true rfl rfl rfl (by decide +kernel)) (pi_range1 rfl Z.range (pa_cons (pv 0) pa_nil)) (blkOk_by (N := N__law_stretches_right) (sc := defScope s__law_stretches_right) (by decide +kernel)) (fun _ _ _ _ _ => (pg_name (i := 11) sc__law_stretches_right.nd rfl (Or.inl rfl))) (fun _ _ _ _ _ => pts_nil) (fun _ _ _ _ _ => (pe_sl (i := 3) A.held hr (by omega) rfl (by first | exact Or.inl rfl | exact Or.inr (Or.inl rfl) | exact Or.inr (Or.inr rfl)) (pa_cons pe_str (pa_cons (pe_op op_add_str pe_str (pe_callTy call_str_int rfl Z.str (by decide +kernel) (pa_cons (pe_op op_mod (pv 11) pe_int) pa_nil))) (pa_cons (pe_op op_fdiv (pv 11) pe_int) pa_nil))))))
  (pss_cons (ps_par (i := 5) (j := 6) rfl sc__law_stretches_right.nd rfl rfl (by decide) rfl rfl (pa_cons (pe_callTy call_list_of rfl Z.list (by decide +kernel) (pa_cons (pv 4) pa_nil)) (pa_cons (pe_mk C_Frontier hr (by omega) rfl (pa_cons (pv 3) pa_nil)) pa_nil)) (by rfl))
  (pss_cons (ps_par (i := 7) (j := 8) rfl sc__law_stretches_right.nd rfl rfl (by decide) rfl rfl (pa_cons (pe_c C_top_of hr (by omega) rfl (pa_cons (pv 3) (pa_cons (pv 5) pa_nil))) (pa_cons (pe_c C_path_of hr (by omega) rfl (pa_cons (pv 3) (pa_cons (pv 5) (pa_cons (pv 1) pa_nil)))) pa_nil)) (by rfl))
  (pss_cons (ps_if (PW.pt (pw_or (pt_cmpR (op_neD hr.units) (pv 7) (pe_c C__law_top hr (by omega) rfl (pa_cons (pv 3) (pa_cons (pv 4) pa_nil))) (nomark _)) (pw_or1 (pt_cmpR (op_neD hr.units) (pv 8) (pe_c C__law_path hr (by omega) rfl (pa_cons (pv 3) (pa_cons (pv 4) (pa_cons (pv 1) pa_nil)))) (nomark _))))) (pss_one (ps_ret pe_bl)) pss_nil)
  (pss_cons (ps_if (PW.pt (pw_or (pt_cmpR (op_neD hr.units) (pe_cx C_risen (takes_of rfl rfl rfl rfl) hr (by omega) rfl (pa_cons (pv 3) (pa_cons (pe_ix ix_list (pv 4) (pv 1) (fun _ _ => rfl)) (pa_cons (pv 1) (pa_cons (pv 0) (pa_cons (pv 8) pa_nil)))))) (pv 7) (nomark _)) (pw_or1 (pt_cmpR (op_neD hr.units) (pv 5) (pv 4) (nomark _))))) (pss_one (ps_ret pe_bl)) pss_nil)
  (pss_cons (ps_if (pt_cmpR (op_neD hr.units) (pe_c C_growth_of hr (by omega) rfl (pa_cons (pv 3) (pa_cons (pv 5) (pa_cons (pv 2) pa_nil)))) (pe_c C__law_growth hr (by omega) rfl (pa_cons (pv 3) (pa_cons (pv 4) (pa_cons (pv 2) pa_nil)))) (nomark _)) (pss_one (ps_ret pe_bl)) pss_nil)
  (pss_cons (ps_if (pt_cmpR (op_neD hr.units) (pe_c C_growth_of hr (by omega) rfl (pa_cons (pv 3) (pa_cons (pv 5) (pa_cons pe_int pa_nil)))) (pe_lst pa_nil) (nomark _)) (pss_one (ps_ret pe_bl)) pss_nil)
  (pss_cons (ps_for (passes_of rfl) rfl (pi_list (pv 4)) (pg_name (i := 9) sc__law_stretches_right.nd rfl (Or.inl rfl)) (pss_one (ps_expr (pe_mt M_add hr (by omega) (pv 6) (pa_cons (pv 9) pa_nil)))))
  (pss_cons (ps_set (i := 10) sc__law_stretches_right.nd rfl (Or.inl rfl) (pe_callB call_len_seq rfl Z.len PySem.boot_len (pa_cons (pe_lc (own := [("_law_sign", 12)]) (g := gName 12) (tt := _) rfl sc__law_stretches_right.nd (pi_range1 rfl Z.range (pa_cons pe_int pa_nil)) (blkOk_by (N := N__law_stretches_right) (sc := defScope s__law_stretches_right) (by decide +kernel)) (fun _ _ _ _ _ => (pg_name (i := 12) sc__law_stretches_right.nd rfl (Or.inl rfl))) (fun _ _ _ _ _ => (pts_one (pt_cmpR op_eq (pe_op op_odd (pe_op op_shrN (pv 0) (pv 12)) pe_int) pe_int (nomark _)))) (fun _ _ _ _ _ => (pv 12))) pa_nil)))
  (pss_cons (ps_if (PW.pt (pw_or (pt_cmpR (op_neD hr.units) (pe_mt0 M_top hr (by omega) (pv 6)) (pv 7) (nomark _)) (pw_or (pt_cmpR op_ne (pe_callB call_len_seq rfl Z.len PySem.boot_len (pa_cons (pe_mt0 M_kept hr (by omega) (pv 6)) pa_nil)) (pv 10) (nomark _)) (pw_or1 (pt_cmpR op_ne (pe_mt0 M_size hr (by omega) (pv 6)) (pv 0) (nomark _)))))) (pss_one (ps_ret pe_bl)) pss_nil)
  (pss_one (ps_ret (pe_or (pe_cmpR op_lt (pv 0) pe_int (nomark _)) (pe_one (pe_chain op_ge op_gt (pe_op op_mul (pe_c C_split hr (by omega) rfl (pa_cons (pv 0) pa_nil)) pe_int) (pv 0) (pe_c C_split hr (by omega) rfl (pa_cons (pv 0) pa_nil)))))))))))))))))), ?_⟩
  refine ⟨rfl, hPT, fun N H1 _ t1 n1 => ?_⟩
  have hF : Fam16 mg (numSys N) := .inr ⟨N, rfl⟩
  have G := A.good hF
  have ok1 : (numSys N).ok H1 sizeLine := n1
  have hNf : (numSys N).f = N.f := rfl
  rw [← hNf]
  generalize numSys N = S at hF G ok1 ⊢
  clear n1 hNf
  -- the leaves
  refine ⟨_, rfl, (m : Int), rfl, by omega, by omega, fun D nD => ?_⟩
  refine lc_range (fun i H' => ∃ ys, Ext H1 H' ∧ H' D = some (.lst ys) ∧ S.ok H' (sizeLine - i) ∧ DenL S H' ys (leaves16 i)) ⟨[], Ext.new nD, upd_same, G.keep (Kp.new nD) ok1, DenL.nil⟩ ?_ ?_
  · rintro i H2 hi ⟨ys, x, hD, ok, hd⟩
    have hi : i < m := by omega
    obtain ⟨mm, hmm⟩ := Int.eq_ofNat_of_zero_le (Int.emod_nonneg (i : Int) (show (97 : Int) ≠ 0 by decide))
    have hm97 : mm < 100 := by
      have := Int.emod_lt_of_pos (i : Int) (show (0 : Int) < 97 by decide)
      omega
    obtain ⟨d1, d2⟩ := dig100 mm hm97
    rw [Int.zero_add]
    refine ⟨rfl, S, _, hF, rfl, ok, _, rfl, _, 97, rfl, rfl, (by show (0 : Int) < 97; decide), (i : Int) % 97, rfl, ?_, _, _, rfl, rfl, ?_, ?_⟩
    · rw [hmm, Int.natAbs_natCast]
      have : mm.log2 ≤ mm := Nat.log2_le_self mm
      omega
    · rw [hmm]
      have e1 : ("e" : Str).length = 1 := rfl
      rw [e1, sizeLine_eq]
      omega
    have hr1 : sizeLine - i = (sizeLine - (i + 1)) + 1 := by omega
    refine ⟨_, rfl, (i : Int), 97, rfl, rfl, ⟨by decide, by decide⟩, sizeLine - (i + 1), "leaf", .str ("e" ++ toString ((i : Int) % 97)), .int ((i : Int) / 97), _, _, rfl, by decide +kernel, by rw [← hr1]; exact ok, G.str _ ok ?_, G.int _ ok, fun v H3 x2 ok2 dv => ?_⟩
    · rw [hmm]
      exact txtOk_app (by decide +kernel) d1
    have hl2 := hd.len
    rw [leaves16_len] at hl2
    have hD2 : H3 D = some (.lst ys) := x2.lst hD
    refine ⟨ys, hD2, by rw [hl2, sizeLine_eq]; omega, ys ++ [v], (x.trans x2).mut nD, upd_same, G.keep (Kp.lst hD2) ok2, ?_⟩
    rw [leaves16_succ]
    exact (hd.mono G (x2.gr.trans (Kp.lst hD2).gr)).append (DenL.one (G.mono (Kp.lst hD2).gr dv))
  rintro H2 ⟨ys, x1, hD, ok2, hd⟩
  rw [Int.toNat_natCast] at hd ok2
  have hyl := hd.len
  rw [leaves16_len] at hyl
  have t2 := tabS_gr t1 x1.gr
  have tl := leaves16_len m
  have tdep := leaves16_dep (n := m)
  replace ok2 := G.less ok2 (show 16000000 ≤ sizeLine - m by omega)
  generalize leaves16 m = ts at hd tl tdep
  subst tl
  -- the row handed, the frontier
  refine ⟨_, rfl, D, ys, rfl, .inl (SqL.of hD), fun L nL => ?_⟩
  have x2 := Ext.new (o := .lst ys) nL
  have hL : upd H2 L (.lst ys) L = some (.lst ys) := upd_same
  have ok3 := G.keep (Kp.new (o := .lst ys) nL) ok2
  have hD3 := x2.lst hD
  have hd3 := hd.mono G x2.gr
  have t3 := tabS_gr t2 x2.gr
  generalize upd H2 L (.lst ys) = H3 at hL ok3 hD3 hd3 t3 ⊢
  refine ⟨_, rfl, fun fp fx nf nfx nfe => ?_⟩
  have y1 : Ext H3 (upd (upd H3 fx (.own fp)) fp (.ins C fx [])) := (Ext.new nfx).trans (Ext.new (by rw [upd_ne nfe.symm]; exact nf))
  have ky1 : Kp H3 (upd (upd H3 fx (.own fp)) fp (.ins C fx [])) := (Kp.new nfx).trans (Kp.new (by rw [upd_ne nfe.symm]; exact nf))
  refine ⟨S, fp, fx, 16000000, hF, rfl, upd_same, G.keep ky1 ok3, fun H4 xo4 ok4 fr4 => ⟨rfl, ?_⟩⟩
  have x3 : Ext H3 H4 := xo4.ext y1 nf
  have hL4 := x3.lst hL
  have hD4 := x3.lst hD3
  have hd4 := hd3.mono G x3.gr
  have t4 := tabS_gr t3 x3.gr
  refine ⟨_, _, rfl, ?_⟩
  have len9 : ts.length ≤ 2 ^ 9 := by show _ ≤ 512; omega
  have ct := costT_le ts.length
  have tdT : (topT ts).dep ≤ 60 := Nat.le_trans (topT_dep 9 ts len9 tdep) (by decide)
  have tdU : ∀ us : List Tm, (∀ t ∈ us, t ∈ ts) → us.length ≤ ts.length → (topT us).dep ≤ 60 := fun us hu hul => Nat.le_trans (topT_dep 9 us (by omega) fun t ht => tdep t (hu t ht)) (by decide)
  have tdP : ∀ t ∈ pathT ts p, t.dep ≤ 60 := pathT_mem tdU
  have tdG : ∀ t ∈ growT ts o, t.dep ≤ 60 := growT_mem tdU
  -- the top, the path
  refine ⟨_, rfl, _, rfl, S, L, ys, ts, 15999000, hF, rfl, SqL.of hL4, hd4, by decide, len9, by omega, G.less ok4 (by omega), fun tv H5 x5 ok5 dtv => ?_⟩
  refine ⟨_, rfl, _, rfl, _, rfl, S, L, ys, ts, p, 15998000, hF, rfl, SqL.of (x5.lst hL4), hd4.mono G x5.gr, by decide, len9, by omega, hp, G.less ok5 (by omega), fun pp ps H6 x6 npp hpp ok6 dpp => ?_⟩
  refine ⟨_, _, rfl, ?_⟩
  have x56 := x5.trans x6
  have dt6 := G.mono x6.gr dtv
  -- the law's own
  refine ⟨_, rfl, _, rfl, _, rfl, S, D, ys, ts, 15997000, hF, rfl, SqL.of (x56.lst hD4), hd4.mono G x56.gr, by decide, len9, by omega, G.less ok6 (by omega), fun tv2 H7 x7 ok7 dtv2 => ?_⟩
  obtain ⟨d1, a1, a2, a3, a4⟩ := eq_tm G (G.mono x7.gr dt6) dtv2 tdT
  refine ⟨d1, d1, a1, a2, a3, a3, _, rfl, ?_⟩
  rw [a4]
  refine iteF ?_
  have x57 := x56.trans x7
  refine ⟨_, rfl, _, rfl, _, rfl, _, rfl, S, D, ys, ts, p, 15996000, hF, rfl, SqL.of (x57.lst hD4), hd4.mono G x57.gr, by decide, len9, by omega, hp, G.less ok7 (by omega), fun pp2 ps2 H8 x8 npp2 hpp2 ok8 dpp2 => ?_⟩
  have x68 := x7.trans x8
  obtain ⟨d2, b1, b2, b3, b4⟩ := eq_rows G (SqL.of (x68.lst hpp)) (SqL.of hpp2) (dpp.mono G x68.gr) dpp2 tdP
  refine ⟨d2, d2, b1, b2, b3, b3, _, rfl, ?_⟩
  rw [b4]
  refine iteF ?_
  have x58 := x57.trans x8
  have dt8 := G.mono x68.gr dt6
  have hpp8 := x68.lst hpp
  have dpp8 := dpp.mono G x68.gr
  have hD8 := x58.lst hD4
  have hL8 := x58.lst hL4
  have hd8 := hd4.mono G x58.gr
  -- the leaf and the path come to the top
  obtain ⟨lv, hlv, dlv⟩ := atI_den hd8 (i := (p : Int)) (by omega) (by omega)
  rw [Int.toNat_natCast] at dlv
  have pll := pathT_len ts p
  have pl9 := plen_le 9 p ts.length len9
  have lg := Nat.log2_le_self ts.length
  refine ⟨_, rfl, _, rfl, _, rfl, D, ys, (p : Int), lv, rfl, rfl, SqL.of hD8, hlv, _, rfl, _, rfl, _, rfl, S, lv, _, p, ts.length, .ref pp, 15995000, hF, rfl, dlv, hp, by omega, G.less ok8 (by omega), .inl ⟨pp, ps, pathT ts p, rfl, hpp8, dpp8, by omega, tdP, fun _ u H9 x9 ok9 du => ?_, fun hne => absurd pll hne⟩⟩
  rw [rise_path ts p hp] at du
  have dt9 := G.mono x9.gr dt8
  obtain ⟨d3, c1, c2, c3, c4⟩ := eq_tm G du dt9 tdT
  refine ⟨_, rfl, d3, d3, c1, c2, c3, c3, _, rfl, ?_⟩
  rw [c4]
  refine iteF ?_
  have hD9 := x9.lst hD8
  have hL9 := x9.lst hL8
  have hd9 := hd8.mono G x9.gr
  obtain ⟨d4, e1, e2, e3, e4⟩ := eq_rows G (SqL.of hL9) (SqL.of hD9) hd9 hd9 (fun t ht => Nat.le_trans (tdep t ht) (by decide))
  refine ⟨_, rfl, _, rfl, d4, d4, e1, e2, e3, e3, _, rfl, ?_⟩
  rw [e4]
  refine iteF ?_
  -- the growths
  refine ⟨_, rfl, _, rfl, _, rfl, S, L, ys, ts, o, 15994000, hF, rfl, SqL.of hL9, hd9, by decide, len9, by omega, ho, G.less ok9 (by omega), fun gp gs Ha xa ngp hgp oka dgp => ?_⟩
  refine ⟨_, rfl, _, rfl, _, rfl, S, D, ys, ts, o, 15993000, hF, rfl, SqL.of (xa.lst hD9), hd9.mono G xa.gr, by decide, len9, by omega, ho1, ho, G.less oka (by omega), fun gp2 gs2 Hb xb ngp2 hgp2 okb dgp2 => ?_⟩
  obtain ⟨d5, f1, f2, f3, f4⟩ := eq_rows G (SqL.of (xb.lst hgp)) (SqL.of hgp2) (dgp.mono G xb.gr) dgp2 tdG
  refine ⟨d5, d5, f1, f2, f3, f3, _, rfl, ?_⟩
  rw [f4]
  refine iteF ?_
  have xab := xa.trans xb
  refine ⟨_, rfl, _, rfl, S, L, ys, ts, 0, 15992000, hF, rfl, SqL.of (xab.lst hL9), hd9.mono G xab.gr, by decide, len9, by omega, Nat.zero_le _, G.less okb (by omega), fun gp3 gs3 Hc xc ngp3 hgp3 okc dgp3 => ?_⟩
  rw [growT_zero] at dgp3
  have gs0 : gs3 = [] := List.eq_nil_of_length_eq_zero dgp3.len
  subst gs0
  refine ⟨Nat.zero_le _, fun e0 he0 => ?_⟩
  have xd := Ext.new (o := .lst []) he0
  have okd := G.keep (Kp.new (o := .lst []) he0) okc
  refine ⟨.list [], .list [], .lst (SqL.of (xd.lst hgp3)) .nil, .lst (SqL.of upd_same) .nil, by decide +kernel, by decide +kernel, _, rfl, ?_⟩
  refine iteF ?_
  have xad := (xab.trans xc).trans xd
  have hDd := xad.lst hD9
  have hdd := hd9.mono G xad.gr
  have dtd := G.mono xad.gr dt9
  have frd := fr4.ext G ((((x58.trans x9).trans xad)))
  have td := tabS_gr t4 ((((x58.trans x9).trans xad))).gr
  generalize upd Hc e0 (.lst []) = Hd at okd hDd hdd dtd frd td ⊢
  -- the frontier is told the leaves
  refine ⟨_, rfl, D, rfl, ⟨_, SqL.of hDd⟩, for_list (K := K) (a := D) (xs := ys) (fun i σ H' => ∃ (y9 : Option V), σ = [some (.int (ts.length : Int)), some (.int (p : Int)), some (.int (o : Int)), some (.ref S.f), some (.ref D), some (.ref L), some (.ref fp), some tv, some (.ref pp), y9, none, none, none] ∧ H' D = some (.lst ys) ∧ DenL S H' ys ts ∧ S.den H' tv (topT ts) ∧ LamX.TabS H' PT qL ∧ FrAt C S H' fp (ts.take i) ∧ S.ok H' (15990000 - i * 402)) ⟨none, rfl, hDd, hdd, dtd, td, by rw [List.take_zero]; exact frd, G.less okd (by omega)⟩ (fun i σ H' _ ⟨_, _, h, _⟩ => SqL.of h) ?_ ?_⟩
  · rintro i y σ He hy ⟨y9, rfl, hDe, hde, dte, te, fre, oke⟩
    obtain ⟨hi, _⟩ := List.getElem?_eq_some_iff.mp hy
    have hil : i < ts.length := by omega
    have hti : ts[i]? = some (ts[i]'hil) := List.getElem?_eq_getElem _
    have dy := hde.at_ i y _ hy hti
    have ltk : (ts.take i).length = i := by rw [List.length_take]; omega
    have fre' := fre
    obtain ⟨dx, l, zs, hfp, hl, _⟩ := fre'
    refine ⟨_, rfl, fp, dx, _, rfl, hfp, (frF_no1 _ _ _).1, _, rfl, S, fp, y, ts.take i, ts[i]'hil, 15990000 - (i + 1) * 402, hF, rfl, fre, dy, by omega, G.less oke (by omega), fun Hf xo okf frf => ?_⟩
    have nD : D ≠ fp := fun z => by rw [z, hfp] at hDe; cases hDe
    refine ⟨_, rfl, xo.lst nD hDe, hde.mono G xo.gr, G.mono xo.gr dte, tabS_gr te xo.gr, ?_, okf⟩
    rw [List.take_add_one, hti]
    exact frf
  rintro σ He ⟨y9, rfl, hDe, hde, dte, te, fre, oke⟩
  rw [hyl, List.take_length] at fre
  rw [hyl] at oke
  -- the ones
  refine ⟨10, rfl, by omega, by omega, fun D2 nD2 => ?_⟩
  refine lc_range (fun i H' => ∃ zs : List V, Ext He H' ∧ Kp He H' ∧ H' D2 = some (.lst zs) ∧ zs.length = onesN ts.length i) ⟨[], Ext.new nD2, Kp.new nD2, upd_same, rfl⟩ ?_ ?_
  · rintro i Hf hi ⟨zs, x, k, hD2, hz⟩
    rw [Int.zero_add]
    have hmo : ((ts.length : Int) / 2 ^ i) = ((ts.length / 2 ^ i : Nat) : Int) := by
      rw [Int.natCast_ediv, pow_cast]
    have hs := onesN_succ ts.length i
    have hle := onesN_le ts.length i
    refine ⟨rfl, _, rfl, _, rfl, _, i, rfl, rfl, ts.length / 2 ^ i, by rw [hmo], rfl, rfl, _, rfl, ite2 (fun c => ?_) (fun c => ?_)⟩
    · have c' : ((ts.length / 2 ^ i % 2 : Nat) : Int) = 1 := V.int.inj (of_decide_eq_true c)
      rw [if_pos (by omega)] at hs
      refine ⟨_, rfl, zs, hD2, by omega, zs ++ [.int (i : Int)], x.mut nD2, k.trans (Kp.lst hD2), upd_same, ?_⟩
      rw [List.length_append, hz, hs]
      rfl
    · have c' : ¬ ((ts.length / 2 ^ i % 2 : Nat) : Int) = 1 := fun z => c (decide_eq_true (by rw [z]))
      rw [if_neg (by omega)] at hs
      exact ⟨zs, x, k, hD2, by omega⟩
  rintro Hf ⟨zs, xf, kf, hD2, hz⟩
  have ez : zs.length = (stT ts).length := by rw [hz, stT_ones hm]; rfl
  refine ⟨D2, zs, rfl, .inl (SqL.of hD2), ?_⟩
  have frf := fre.ext G xf
  have okf := G.keep kf oke
  have dtf := G.mono xf.gr dte
  have tf := tabS_gr te xf.gr
  obtain ⟨dx, l, ws, hfp, hl, _⟩ := id frf
  refine ⟨_, rfl, fp, dx, _, rfl, hfp, (frF_no1 _ _ _).2.2.2, S, fp, ts, 15800000, hF, rfl, frf, G.less okf (by omega), fun u Hg xg okg du => ?_⟩
  obtain ⟨d6, g1, g2, g3, g4⟩ := eq_tm G du (G.mono xg.gr dtf) tdT
  refine ⟨_, rfl, d6, d6, g1, g2, g3, g3, _, rfl, ?_⟩
  rw [g4]
  refine iteF ?_
  refine ⟨_, rfl, fp, dx, _, rfl, xg.ins hfp, (frF_no1 _ _ _).2.2.1, S, fp, ts, rfl, frf.ext G xg, fun qk ks nqk dk => ?_⟩
  have hkl := dk.len
  have xh := Ext.new (o := .lst ks) nqk
  refine ⟨qk, ks, rfl, .inl (SqL.of upd_same), _, rfl, rfl, _, rfl, ?_⟩
  rw [hkl, ez, decide_eq_true rfl]
  refine iteF ?_
  refine ⟨_, rfl, fp, dx, _, rfl, (xg.trans xh).ins hfp, (frF_no1 _ _ _).2.1, S, fp, ts, rfl, frf.ext G (xg.trans xh), _, rfl, rfl, _, rfl, ?_⟩
  rw [decide_eq_true rfl]
  refine iteF ?_
  have th := tabS_gr tf (xg.trans xh).gr
  refine ⟨_, rfl, _, _, rfl, rfl, _, rfl, ite2 (fun c => ?_) (fun c => ?_)⟩
  · exact q _ th
  · have c' : ¬ (ts.length : Int) < 2 := of_decide_eq_false (Bool.eq_false_iff.mpr c)
    have h2 : 2 ≤ ts.length := by omega
    have s1 := splitN_lt h2
    have s2 := splitN_ge h2
    refine ⟨_, rfl, ts.length, rfl, h2, by omega, _, 2, rfl, rfl, .inr ⟨by decide, by decide⟩, _, rfl, _, _, rfl, rfl, _, rfl, ?_⟩
    rw [decide_eq_true (show (ts.length : Int) ≤ ((splitN ts.length : Nat) : Int) * 2 by omega)]
    refine iteT ?_
    refine ⟨_, rfl, ts.length, rfl, h2, by omega, _, _, rfl, rfl, ?_⟩
    have e8 : decide (((splitN ts.length : Nat) : Int) < (ts.length : Int)) = true := decide_eq_true (by omega)
    show Q (.bl (decide (((splitN ts.length : Nat) : Int) < (ts.length : Int)))) _
    rw [e8]
    exact q _ th
end

/-! ### a table's keys in a drawn turn -/
def valX (k : Int) : Str := "v" ++ toString (k % 5)
def pr16 (k : Int) : Int × Str := (k, valX k)
theorem mod_small (k : Int) {m : Nat} (h0 : 0 < m) (hm : m ≤ 100) : ∃ n : Nat, k % (m : Int) = (n : Int) ∧ n < m ∧ txtOk (toString (k % (m : Int))) = true ∧ (toString (k % (m : Int)) : Str).length ≤ 2 := by
  obtain ⟨n, hn⟩ := Int.eq_ofNat_of_zero_le (Int.emod_nonneg k (show (m : Int) ≠ 0 by omega))
  have hl := Int.emod_lt_of_pos k (show (0 : Int) < (m : Int) by omega)
  obtain ⟨a, b⟩ := dig100 n (by omega)
  refine ⟨n, hn, by omega, ?_, ?_⟩
  · rw [hn]; exact a
  · rw [hn]; exact b
theorem valX_ok (k : Int) : txtOk (valX k) = true := by
  obtain ⟨n, hn, _, a, _⟩ := mod_small k (m := 5) (by decide) (by decide)
  exact txtOk_app (by decide +kernel) a
theorem fst16 (ks : List Int) : (ks.map pr16).map (·.1) = ks := by
  rw [List.map_map]
  exact List.map_id _
theorem putI_new16 {kvs : List (Int × Str)} {k : Int} {x : Str} (h : k ∉ kvs.map (·.1)) : putI kvs k x = kvs ++ [(k, x)] := by
  unfold putI
  rw [if_neg]
  intro z
  obtain ⟨e, he, q⟩ := List.any_eq_true.mp z
  exact h (List.mem_map.mpr ⟨e, he, of_decide_eq_true q⟩)
theorem put16 {ks : List Int} {k : Int} (h : k ∉ ks) : putI (ks.map pr16) k (valX k) = (ks ++ [k]).map pr16 := by
  rw [putI_new16 (by rw [fst16]; exact h), List.map_append]
  rfl
theorem mem_mid {a b : List Int} {k : Int} (h : (a ++ k :: b).Nodup) : k ∉ a ∧ k ∉ b := by
  rw [List.nodup_append] at h
  obtain ⟨_, h2, h3⟩ := h
  exact ⟨fun z => h3 k z k List.mem_cons_self rfl, (List.nodup_cons.mp h2).1⟩
theorem popI_none {ks : List Int} {k : Int} (h : k ∉ ks) : popI (ks.map pr16) k = ks.map pr16 := by
  unfold popI
  refine List.filter_eq_self.mpr fun e he => decide_eq_true fun z => h ?_
  obtain ⟨x, hx, rfl⟩ := List.mem_map.mp he
  rw [← z]
  exact hx
theorem popI_mid {a b : List Int} {k : Int} (h : (a ++ k :: b).Nodup) : popI ((a ++ k :: b).map pr16) k = (a ++ b).map pr16 := by
  obtain ⟨h1, h2⟩ := mem_mid h
  have e1 := popI_none h1
  have e2 := popI_none h2
  unfold popI at e1 e2 ⊢
  rw [List.map_append, List.filter_append, e1, List.map_cons, List.filter_cons_of_neg (by show ¬ decide ((pr16 k).1 ≠ k) = true; rw [decide_eq_false (fun z => z rfl)]; decide), e2, List.map_append]
theorem getI_in {ks : List Int} {k : Int} (h : k ∈ ks) : (getI (ks.map pr16) k).isSome = true := by
  obtain ⟨t, e, _⟩ := getI_mem (kvs := ks.map pr16) (x := k) (by rw [fst16]; exact h)
  rw [e]
  rfl
theorem tbok16 {l : Nat} {ks : List Int} (nd : ks.Nodup) (rg : ∀ k ∈ ks, 0 ≤ k ∧ k < 2 ^ l) : TbOk l (ks.map pr16) := by
  refine ⟨by rw [fst16]; exact nd, fun e he => ?_, fun e he => ?_⟩
  · obtain ⟨k, hk, rfl⟩ := List.mem_map.mp he
    exact rg k hk
  · obtain ⟨k, hk, rfl⟩ := List.mem_map.mp he
    exact valX_ok k
def keys16 (c : Int) (n : Nat) : List Int := (List.range n).map fun i : Nat => (c + 211 * (i : Int)) % 512
theorem keys16_len (c : Int) (n : Nat) : (keys16 c n).length = n := by
  unfold keys16
  rw [List.length_map, List.length_range]
theorem keys16_succ (c : Int) (n : Nat) : keys16 c (n + 1) = keys16 c n ++ [(c + 211 * (n : Int)) % 512] := by
  unfold keys16
  rw [List.range_succ, List.map_append]
  rfl
theorem keys16_rg (c : Int) (n : Nat) : ∀ k ∈ keys16 c n, 0 ≤ k ∧ k < 2 ^ 9 := fun k hk => by
  obtain ⟨i, _, rfl⟩ := List.mem_map.mp hk
  have e : (2 : Int) ^ 9 = 512 := by decide
  rw [e]
  omega
theorem keys16_nd (c : Int) {n : Nat} (hn : n ≤ 512) : (keys16 c n).Nodup := by
  unfold keys16
  refine List.pairwise_map.mpr ?_
  refine List.Pairwise.imp_of_mem (R := fun a b => a < b) ?_ List.pairwise_lt_range
  intro a b ha hb hab
  have hb' := List.mem_range.mp hb
  omega
theorem take_snoc {α : Type} {l : List α} {i : Nat} {x : α} (h : l[i]? = some x) : l.take (i + 1) = l.take i ++ [x] := by
  rw [List.take_add_one, h]
  rfl
theorem nd_take {ks : List Int} (nd : ks.Nodup) {i : Nat} {k : Int} (h : ks[i]? = some k) : k ∉ ks.take i := by
  have e := take_snoc h
  have nd2 : (ks.take (i + 1)).Nodup := nd.sublist (List.take_sublist _ _)
  rw [e] at nd2
  exact (mem_mid (b := []) nd2).1

/-! ### tables of many keys -/
section
variable {P : Program} {w : World} {K : PySem.W.Frag} {mg : Str → Option Value} {base : Heap} {CT : Addr}
/-- the keys, and two tables -/
structure TT16 (CT : Addr) (S : Sys) (PT : Addr) (H : Hp) (D : Addr) (ks : List Int) (q1 d1 : Addr) (k1 : List Int) (q2 d2 : Addr) (k2 : List Int) : Prop where
  lst : H D = some (.lst (ks.map V.int))
  tab : LamX.TabS H PT qL
  t1 : TbAt CT S.f H q1 d1 9 (k1.map pr16)
  t2 : TbAt CT S.f H q2 d2 9 (k2.map pr16)
  ne : d1 ≠ d2
section
variable {S : Sys} {PT : Addr} {H H' : Hp} {D : Addr} {ks k1 k2 k1' : List Int} {q1 d1 q2 d2 : Addr}
theorem TT16.ext (h : TT16 CT S PT H D ks q1 d1 k1 q2 d2 k2) (x : Ext H H') : TT16 CT S PT H' D ks q1 d1 k1 q2 d2 k2 := ⟨x.lst h.lst, tabS_gr h.tab x.gr, h.t1.ext x, h.t2.ext x, h.ne⟩
theorem TT16.swap (h : TT16 CT S PT H D ks q1 d1 k1 q2 d2 k2) : TT16 CT S PT H D ks q2 d2 k2 q1 d1 k1 := ⟨h.lst, h.tab, h.t2, h.t1, h.ne.symm⟩
theorem TbAt.off {f p d l} {kvs : List (Int × Str)} {o : HO} {kvs' : List (Key × V)} (h : TbAt CT f H p d l kvs) {d' : Addr} (hd : H d' = some (.dK kvs')) (n : d ≠ d') : TbAt CT f (L2.upd H d' o) p d l kvs := by
  obtain ⟨⟨dx, a⟩, b, c⟩ := h
  refine ⟨⟨dx, ?_⟩, ?_, c⟩
  · rw [upd_ne (fun z => by rw [z, hd] at a; cases a)]
    exact a
  · rw [upd_ne n]
    exact b
theorem TT16.put1 (h : TT16 CT S PT H D ks q1 d1 k1 q2 d2 k2) (hl : k1'.length ≤ 1000) : TT16 CT S PT (upd H d1 (.dK (convT (k1'.map pr16)))) D ks q1 d1 k1' q2 d2 k2 := by
  refine ⟨?_, tabS_gr h.tab (Kp.dK h.t1.held).gr, h.t1.upd (by rw [List.length_map]; exact hl), h.t2.off h.t1.held h.ne.symm, h.ne⟩
  rw [upd_ne (fun z => by have := h.lst; rw [z, h.t1.held] at this; cases this)]
  exact h.lst
end
def spTab16 (PT : Addr) : Sp := fun vs H Q _ => ∃ (n : Nat) (c : Int), vs = [.int (n : Int), .int c] ∧ 2 ≤ n ∧ n ≤ 199 ∧ LamX.TabS H PT qL ∧ ∀ H', LamX.TabS H' PT qL → Q (.bl true) H'
theorem kvIn {ks : List Int} {i : Nat} {y : V} (h : (ks.map V.int)[i]? = some y) : ∃ k, ks[i]? = some k ∧ y = .int k := by
  rw [List.getElem?_map] at h
  cases e : ks[i]? with
  | none => rw [e] at h; cases h
  | some z => rw [e] at h; exact ⟨z, rfl, (Option.some.inj h).symm⟩
theorem ok_table16 {cc PT : Addr} (T : Txt K mg cc) (TB : LamX.TabB base mg cc PT) (KT : K_Table K mg CT) : CalX P w K mg base 27 "_law_table_right" (spTab16 PT) := by
  have Z := T.Z
  have A := sla16 (P := P) (w := w) (base := base) T
  have C__law_numbers := cal_numbers (P := P) (w := w) (base := base) T.m__law_numbers TB
  have C_Table := ok_tinit (P := P) (w := w) (base := base) A KT
  have M_put := ok_put (P := P) (w := w) (base := base) T KT
  have M_cut := ok_cut (P := P) (w := w) (base := base) T KT
  have M_rows := ok_rows (P := P) (w := w) (base := base) T KT
  have M_head := ok_thead T A KT
  have M_way := (ok_wayN T A KT).weak
  have e16 : sizeLine = 16777216 := sizeLine_eq
  refine calX_of T.d__law_table_right sc__law_table_right (fun vs H Q E h => ?_) (fun f cdv A' outer s H vs Q E hr h => ?_)
  · obtain ⟨n, c, rfl, _⟩ := h
    rfl
  obtain ⟨n, c, rfl, hn2, hn, hPT, q⟩ := h
  refine ⟨_, (pss_cons (ps_set (i := 2) sc__law_table_right.nd rfl (Or.inl rfl) (pe_c0 C__law_numbers hr (by omega) rfl))
  (pss_cons (ps_par (i := 3) (j := 4) rfl sc__law_table_right.nd rfl rfl (by decide) rfl rfl (pa_cons (pe_mk C_Table hr (by omega) rfl (pa_cons (pv 2) (pa_cons pe_int pa_nil))) (pa_cons (pe_mk C_Table hr (by omega) rfl (pa_cons (pv 2) (pa_cons pe_int pa_nil))) pa_nil)) (by rfl))
  (pss_cons (ps_setLc (i := 5) (own := [("_law_at", 8)]) (g := gName 8) (tt := tYes) rfl sc__law_table_right.nd rfl rfl (sw_true rfl rfl rfl (by decide +kernel)) (pi_range1 rfl Z.range (pa_cons (pv 0) pa_nil)) (blkOk_by (N := N__law_table_right) (sc := defScope s__law_table_right) (by decide +kernel)) (fun _ _ _ _ _ => (pg_name (i := 8) sc__law_table_right.nd rfl (Or.inl rfl))) (fun _ _ _ _ _ => pts_nil) (fun _ _ _ _ _ => (pe_op op_mod (pe_op op_add (pv 1) (pe_op op_mul pe_int (pv 8))) pe_int)))
  (pss_cons (ps_for (passes_of rfl) rfl (pi_list (pv 5)) (pg_name (i := 6) sc__law_table_right.nd rfl (Or.inl rfl)) (pss_one (ps_expr (pe_mtx M_put (takes_of rfl rfl rfl rfl) hr (by omega) (pv 3) (pa_cons (pv 6) (pa_cons (pe_op op_add_str pe_str (pe_callTy call_str_int rfl Z.str (by decide +kernel) (pa_cons (pe_op op_mod (pv 6) pe_int) pa_nil))) pa_nil))))))
  (pss_cons (ps_for (passes_of rfl) rfl (pi_list (pe_callB cr_sortedI rfl Z.sorted (by decide +kernel) (pa_cons (pv 5) pa_nil))) (pg_name (i := 6) sc__law_table_right.nd rfl (Or.inl rfl)) (pss_one (ps_expr (pe_mtx M_put (takes_of rfl rfl rfl rfl) hr (by omega) (pv 4) (pa_cons (pv 6) (pa_cons (pe_op op_add_str pe_str (pe_callTy call_str_int rfl Z.str (by decide +kernel) (pa_cons (pe_op op_mod (pv 6) pe_int) pa_nil))) pa_nil))))))
  (pss_cons (ps_if (PW.pt (pw_or (pt_cmpR (op_neD hr.units) (pe_mt0 M_head hr (by omega) (pv 3)) (pe_mt0 M_head hr (by omega) (pv 4)) (nomark _)) (pw_or (pt_cmpR (op_neD hr.units) (pe_mt0 M_rows hr (by omega) (pv 3)) (pe_mt0 M_rows hr (by omega) (pv 4)) (nomark _)) (pw_or1 (pt_cmpR op_ne (pe_callB call_len_seq rfl Z.len PySem.boot_len (pa_cons (pe_mt0 M_rows hr (by omega) (pv 3)) pa_nil)) (pv 0) (nomark _)))))) (pss_one (ps_ret pe_bl)) pss_nil)
  (pss_cons (ps_for (passes_of rfl) rfl (pi_list (pe_slice sl_list (pv 5) (po_some pe_int) po_none)) (pg_name (i := 6) sc__law_table_right.nd rfl (Or.inl rfl)) (pss_one (ps_expr (pe_mtx M_cut (takes_of rfl rfl rfl rfl) hr (by omega) (pv 3) (pa_cons (pv 6) pa_nil)))))
  (pss_cons (ps_set (i := 7) sc__law_table_right.nd rfl (Or.inl rfl) (pe_mk C_Table hr (by omega) rfl (pa_cons (pv 2) (pa_cons pe_int pa_nil))))
  (pss_cons (ps_for (passes_of rfl) rfl (pi_list (pe_slice sl_list (pv 5) po_none (po_some pe_int))) (pg_name (i := 6) sc__law_table_right.nd rfl (Or.inl rfl)) (pss_one (ps_expr (pe_mtx M_put (takes_of rfl rfl rfl rfl) hr (by omega) (pv 7) (pa_cons (pv 6) (pa_cons (pe_op op_add_str pe_str (pe_callTy call_str_int rfl Z.str (by decide +kernel) (pa_cons (pe_op op_mod (pv 6) pe_int) pa_nil))) pa_nil))))))
  (pss_cons (ps_if (PW.pt (pw_or (pt_cmpR (op_neD hr.units) (pe_mt0 M_head hr (by omega) (pv 3)) (pe_mt0 M_head hr (by omega) (pv 7)) (nomark _)) (pw_or1 (pt_cmpR (op_neD hr.units) (pe_mt0 M_rows hr (by omega) (pv 3)) (pe_mt0 M_rows hr (by omega) (pv 7)) (nomark _))))) (pss_one (ps_ret pe_bl)) pss_nil)
  (pss_one (ps_ret (pe_cmpR (op_eqD hr.units) (pe_mtx M_way (takes_of rfl rfl rfl rfl) hr (by omega) (pv 3) (pa_cons (pe_ix ix_list (pv 5) pe_int (fun _ _ => rfl)) pa_nil)) (pe_mtx M_way (takes_of rfl rfl rfl rfl) hr (by omega) (pv 7) (pa_cons (pe_ix ix_list (pv 5) pe_int (fun _ _ => rfl)) pa_nil)) (nomark _)))))))))))))), ?_⟩
  refine ⟨rfl, hPT, fun N H1 _ t1 n1 => ?_⟩
  have hF : Fam16 mg (numSys N) := .inr ⟨N, rfl⟩
  have G := A.good hF
  have ok1 : (numSys N).ok H1 sizeLine := n1
  have hNf : (numSys N).f = N.f := rfl
  rw [← hNf]
  generalize numSys N = S at hF G ok1 ⊢
  clear n1 hNf
  replace ok1 := G.less ok1 (show 16000000 ≤ sizeLine by omega)
  -- two tables
  refine ⟨_, rfl, fun q1 qx nq nqx nex => ?_⟩
  have y1 : Ext H1 (upd (upd H1 qx (.own q1)) q1 (.ins CT qx [])) := (Ext.new nqx).trans (Ext.new (by rw [upd_ne nex.symm]; exact nq))
  have ky1 : Kp H1 (upd (upd H1 qx (.own q1)) q1 (.ins CT qx [])) := (Kp.new nqx).trans (Kp.new (by rw [upd_ne nex.symm]; exact nq))
  refine ⟨S, q1, qx, 9, 16000000, hF, rfl, upd_same, by decide, G.keep ky1 ok1, fun H2 d1 xo2 kp2 nd1 ok2 tb1 => ⟨rfl, ?_⟩⟩
  have x2 : Ext H1 H2 := xo2.ext y1 nq
  refine ⟨_, rfl, fun q2 qy nq2 nqy ney => ?_⟩
  have y2 : Ext H2 (upd (upd H2 qy (.own q2)) q2 (.ins CT qy [])) := (Ext.new nqy).trans (Ext.new (by rw [upd_ne ney.symm]; exact nq2))
  have ky2 : Kp H2 (upd (upd H2 qy (.own q2)) q2 (.ins CT qy [])) := (Kp.new nqy).trans (Kp.new (by rw [upd_ne ney.symm]; exact nq2))
  refine ⟨S, q2, qy, 9, 16000000, hF, rfl, upd_same, by decide, G.keep ky2 ok2, fun H3 d2 xo3 kp3 nd2 ok3 tb2 => ⟨rfl, ?_⟩⟩
  have x3 : Ext H2 H3 := xo3.ext y2 nq2
  have nd12 : d1 ≠ d2 := fun z => by
    have e := y2.dK tb1.held
    rw [z, nd2] at e
    cases e
  have tb13 := tb1.ext x3
  have t3 := tabS_gr t1 (x2.trans x3).gr
  refine ⟨_, _, rfl, ?_⟩
  -- the keys
  refine ⟨_, rfl, (n : Int), rfl, by omega, by omega, fun D nD => ?_⟩
  refine lc_range (fun i H' => Ext H3 H' ∧ Kp H3 H' ∧ H' D = some (.lst ((keys16 c i).map V.int))) ⟨Ext.new nD, Kp.new nD, by rw [upd_same]; rfl⟩ ?_ ?_
  · rintro i H4 hi ⟨x, k, hD⟩
    have hi : i < n := by omega
    rw [Int.zero_add]
    refine ⟨rfl, _, rfl, _, rfl, 211, (i : Int), rfl, rfl, .inl ⟨by decide, by decide⟩, _, _, rfl, rfl, _, 512, rfl, rfl, (by show (0 : Int) < 512; decide), _, hD, by rw [List.length_map, keys16_len]; omega, x.mut nD, k.trans (Kp.lst hD), ?_⟩
    rw [upd_same, keys16_succ, List.map_append]
    rfl
  rintro H4 ⟨x4, k4, hD⟩
  rw [Int.toNat_natCast] at hD
  have kln := keys16_len c n
  have krg := keys16_rg c n
  have knd := keys16_nd c (show n ≤ 512 by omega)
  generalize keys16 c n = ks at hD kln krg knd
  have hT : TT16 CT S PT H4 D ks q1 d1 [] q2 d2 [] := ⟨hD, tabS_gr t3 x4.gr, tb13.ext x4, tb2.ext x4, nd12⟩
  have ok4 := G.keep k4 ok3
  clear hD tb13 tb1 tb2 t3 t1
  -- put in turn
  have st : ∀ (v3 : V) (y6 : Option V), True := fun _ _ => trivial
  refine ⟨_, rfl, D, rfl, ⟨_, SqL.of hT.lst⟩, for_list (K := K) (a := D) (xs := ks.map V.int) (fun i σ H' => ∃ (y6 : Option V), σ = [some (.int (n : Int)), some (.int c), some (.ref S.f), some (.ref q1), some (.ref q2), some (.ref D), y6, none, none] ∧ TT16 CT S PT H' D ks q1 d1 (ks.take i) q2 d2 [] ∧ S.ok H' 16000000) ⟨none, rfl, hT, ok4⟩ (fun i σ H' _ ⟨_, _, h, _⟩ => SqL.of h.lst) ?_ ?_⟩
  · rintro i y σ H5 hy ⟨y6, rfl, hT, ok⟩
    obtain ⟨k, hk, rfl⟩ := kvIn hy
    have hkr := krg k (List.mem_of_getElem? hk)
    obtain ⟨m5, e5, _, _, l5⟩ := mod_small k (m := 5) (by decide) (by decide)
    obtain ⟨dx, hq1⟩ := hT.t1.at_
    refine ⟨_, rfl, q1, dx, _, rfl, hq1, (tbF_no _ _ _).2.1, _, rfl, _, rfl, k, 5, rfl, rfl, (by show (0 : Int) < 5; decide), k % 5, rfl, ?_, _, _, rfl, rfl, ?_, S.f, q1, d1, 9, _, k, valX k, rfl, hT.t1, fun _ => ?_, fun z => absurd hkr z⟩
    · rw [show k % 5 = (m5 : Int) from e5, Int.natAbs_natCast]
      have : m5.log2 ≤ m5 := Nat.log2_le_self m5
      omega
    · have e1 : ("v" : Str).length = 1 := rfl
      have l5' : (toString (k % 5) : Str).length ≤ 2 := l5
      rw [e1, sizeLine_eq]
      omega
    · rw [put16 (nd_take knd hk), ← take_snoc hk]
      exact ⟨_, rfl, hT.put1 (by rw [List.length_take]; omega), G.keep (Kp.dK hT.t1.held) ok⟩
  rintro σ H5 ⟨y6, rfl, hT, ok5⟩
  rw [List.length_map, List.take_length] at hT
  -- put by rising keys
  refine ⟨_, rfl, D, ks, rfl, SqL.of hT.lst, fun ns p hpm hpw np => ?_⟩
  have xs6 := Ext.new (o := .lst (ns.map V.int)) np
  have hT6 := hT.ext xs6
  have ok6 := G.keep (Kp.new (o := .lst (ns.map V.int)) np) ok5
  have hp6 : upd H5 p (.lst (ns.map V.int)) p = some (.lst (ns.map V.int)) := upd_same
  generalize upd H5 p (.lst (ns.map V.int)) = H6 at hT6 ok6 hp6 ⊢
  have nnd : ns.Nodup := hpm.nodup_iff.mpr knd
  have nrg : ∀ k ∈ ns, 0 ≤ k ∧ k < 2 ^ 9 := fun k hk => krg k (hpm.mem_iff.mp hk)
  have nln := hpm.length_eq
  refine ⟨p, rfl, ⟨_, SqL.of hp6⟩, for_list (K := K) (a := p) (xs := ns.map V.int) (fun i σ H' => ∃ (y6 : Option V), σ = [some (.int (n : Int)), some (.int c), some (.ref S.f), some (.ref q1), some (.ref q2), some (.ref D), y6, none, none] ∧ H' p = some (.lst (ns.map V.int)) ∧ TT16 CT S PT H' D ks q2 d2 (ns.take i) q1 d1 ks ∧ S.ok H' 16000000) ⟨_, rfl, hp6, hT6.swap, ok6⟩ (fun i σ H' _ ⟨_, _, h, _⟩ => SqL.of h) ?_ ?_⟩
  · rintro i y σ H7 hy ⟨y6, rfl, hp, hT, ok⟩
    obtain ⟨k, hk, rfl⟩ := kvIn hy
    have hkr := nrg k (List.mem_of_getElem? hk)
    obtain ⟨m5, e5, _, _, l5⟩ := mod_small k (m := 5) (by decide) (by decide)
    obtain ⟨dx, hq1⟩ := hT.t1.at_
    refine ⟨_, rfl, q2, dx, _, rfl, hq1, (tbF_no _ _ _).2.1, _, rfl, _, rfl, k, 5, rfl, rfl, (by show (0 : Int) < 5; decide), k % 5, rfl, ?_, _, _, rfl, rfl, ?_, S.f, q2, d2, 9, _, k, valX k, rfl, hT.t1, fun _ => ?_, fun z => absurd hkr z⟩
    · rw [show k % 5 = (m5 : Int) from e5, Int.natAbs_natCast]
      have : m5.log2 ≤ m5 := Nat.log2_le_self m5
      omega
    · have e1 : ("v" : Str).length = 1 := rfl
      have l5' : (toString (k % 5) : Str).length ≤ 2 := l5
      rw [e1, sizeLine_eq]
      omega
    · rw [put16 (nd_take nnd hk), ← take_snoc hk]
      refine ⟨_, rfl, ?_, hT.put1 (by rw [List.length_take]; omega), G.keep (Kp.dK hT.t1.held) ok⟩
      rw [upd_ne (fun z => by rw [z, hT.t1.held] at hp; cases hp)]
      exact hp
  rintro σ H7 ⟨y6, rfl, _, hT, ok7⟩
  rw [List.length_map, List.take_length] at hT
  -- the heads, the rows
  have ok1k := tbok16 knd krg
  have ok2n := tbok16 nnd nrg
  have pmn : (ns.map pr16).Perm (ks.map pr16) := hpm.map pr16
  have cl1 : (ks.map pr16).length = n := by rw [List.length_map, kln]
  have cl2 : (ns.map pr16).length = n := by rw [List.length_map, nln, kln]
  have cp := costP_le (show 9 ≤ 16 by decide) (show n ≤ 200 by omega)
  obtain ⟨dx1, hq1⟩ := hT.t2.at_
  obtain ⟨dx2, hq2⟩ := hT.t1.at_
  refine ⟨_, rfl, q1, dx1, _, rfl, hq1, (tbF_no _ _ _).2.2.2.2.2.1, S, q1, d1, 9, _, 15990000, hF, rfl, hT.t2, ok1k, by decide, G.less ok7 (by rw [cl1]; omega), fun v1 rows1 H8 x8 ok8 pr1 pw1 dv1 => ?_⟩
  have hT8 := hT.ext x8
  refine ⟨_, rfl, q2, dx2, _, rfl, x8.ins hq2, (tbF_no _ _ _).2.2.2.2.2.1, S, q2, d2, 9, _, 15980000, hF, rfl, hT8.t1, ok2n, by decide, G.less ok8 (by rw [cl2]; omega), fun v2 rows2 H9 x9 ok9 pr2 pw2 dv2 => ?_⟩
  have er : rows2 = rows1 := kv_same ok1k.nd (pr2.trans pmn) pr1 pw2 pw1
  subst er
  obtain ⟨e1, a1, a2, a3, a4⟩ := eq_tm G (G.mono x9.gr dv1) dv2 (by show max 0 (partT 9 rows2).dep + 1 ≤ 60; have := partT_dep 9 rows2; omega)
  refine ⟨e1, e1, a1, a2, a3, a3, _, rfl, ?_⟩
  rw [a4]
  refine iteF ?_
  have hT9 := hT8.ext x9
  have x79 := x8.trans x9
  refine ⟨_, rfl, q1, dx1, _, rfl, x79.ins hq1, (tbF_no _ _ _).2.2.2.2.1, S.f, q1, d1, 9, _, rfl, hT9.t2, ok1k.nd, ok1k.tx, fun r1 ys1 rw1 Ha xa ka nr1 hr1 kv1 pm1 pwa => ?_⟩
  refine ⟨_, rfl, q2, dx2, _, rfl, (x79.trans xa).ins hq2, (tbF_no _ _ _).2.2.2.2.1, S.f, q2, d2, 9, _, rfl, (hT9.ext xa).t1, ok2n.nd, ok2n.tx, fun r2 ys2 rw2 Hb xb kb nr2 hr2 kv2 pm2 pwb => ?_⟩
  have er2 : rw2 = rw1 := kv_same ok1k.nd (pm2.trans pmn) pm1 pwb pwa
  subst er2
  obtain ⟨e2, b1, b2, b3, b4⟩ := kv_eqd (SqL.of (xb.lst hr1)) (SqL.of hr2) (kv1.gr xb.gr) kv2
  refine ⟨e2, e2, b1, b2, b3, b3, _, rfl, ?_⟩
  rw [b4]
  refine iteF ?_
  have hTb := (hT9.ext xa).ext xb
  have x7b := (x79.trans xa).trans xb
  have okb := G.keep kb (G.keep ka ok9)
  refine ⟨_, rfl, q1, dx1, _, rfl, x7b.ins hq1, (tbF_no _ _ _).2.2.2.2.1, S.f, q1, d1, 9, _, rfl, hTb.t2, ok1k.nd, ok1k.tx, fun r3 ys3 rw3 Hc xc kc nr3 hr3 kv3 pm3 pwc => ?_⟩
  refine ⟨r3, ys3, rfl, .inl (SqL.of hr3), _, rfl, rfl, _, rfl, ?_⟩
  rw [show ys3.length = n by rw [kv3.len, pm3.length_eq, cl1], decide_eq_true rfl]
  refine iteF ?_
  have hTc := (hTb.ext xc).swap
  have okc := G.keep kc okb
  clear hT hT6 hT8 hT9 hTb hq1 hq2
  -- all but two cut
  refine ⟨_, rfl, 2, rfl, D, _, rfl, SqL.of hTc.lst, fun p np => ?_⟩
  rw [show (2 : Int) = ((2 : Nat) : Int) from rfl, cut_from, ← List.map_drop]
  have xd := Ext.new (o := .lst ((ks.drop 2).map V.int)) np
  have hTd := hTc.ext xd
  have okd := G.keep (Kp.new (o := .lst ((ks.drop 2).map V.int)) np) okc
  have hpd : upd Hc p (.lst ((ks.drop 2).map V.int)) p = some (.lst ((ks.drop 2).map V.int)) := upd_same
  generalize upd Hc p (.lst ((ks.drop 2).map V.int)) = Hd at hTd okd hpd ⊢
  refine ⟨p, rfl, ⟨_, SqL.of hpd⟩, for_list (K := K) (a := p) (xs := (ks.drop 2).map V.int) (fun i σ H' => ∃ (y6 : Option V), σ = [some (.int (n : Int)), some (.int c), some (.ref S.f), some (.ref q1), some (.ref q2), some (.ref D), y6, none, none] ∧ H' p = some (.lst ((ks.drop 2).map V.int)) ∧ TT16 CT S PT H' D ks q1 d1 (ks.take 2 ++ ks.drop (2 + i)) q2 d2 ns ∧ S.ok H' 15980000) ⟨_, rfl, hpd, by rw [Nat.add_zero, List.take_append_drop]; exact hTd, okd⟩ (fun i σ H' _ ⟨_, _, h, _⟩ => SqL.of h) ?_ ?_⟩
  · rintro i y σ He hy ⟨y6, rfl, hp, hT, ok⟩
    obtain ⟨k, hk, rfl⟩ := kvIn hy
    rw [List.getElem?_drop] at hk
    obtain ⟨hi, ek⟩ := List.getElem?_eq_some_iff.mp hk
    have hkr := krg k (List.mem_of_getElem? hk)
    obtain ⟨dx, hq1⟩ := hT.t1.at_
    have edrop : ks.drop (2 + i) = k :: ks.drop (2 + (i + 1)) := by
      rw [List.drop_eq_getElem_cons hi, ek]
      rfl
    rw [edrop] at hT
    have nd3 : (ks.take 2 ++ k :: ks.drop (2 + (i + 1))).Nodup := by
      rw [← edrop]
      refine knd.sublist ?_
      have h1 : (ks.take 2 ++ ks.drop (2 + i)).Sublist (ks.take 2 ++ ks.drop 2) := List.Sublist.append_left (by rw [← List.drop_drop]; exact List.drop_sublist _ _) _
      rwa [List.take_append_drop] at h1
    refine ⟨_, rfl, q1, dx, _, rfl, hq1, (tbF_no _ _ _).2.2.1, _, rfl, S.f, q1, d1, 9, _, k, rfl, hT.t1, fun _ => ?_, fun z => absurd ⟨hkr.1, hkr.2, getI_in (List.mem_append_right _ List.mem_cons_self)⟩ z⟩
    rw [popI_mid nd3]
    refine ⟨_, rfl, ?_, hT.put1 (by rw [List.length_append, List.length_take, List.length_drop]; omega), G.keep (Kp.dK hT.t1.held) ok⟩
    rw [upd_ne (fun z => by rw [z, hT.t1.held] at hp; cases hp)]
    exact hp
  rintro σ He ⟨y6, rfl, _, hT, oke⟩
  rw [List.length_map, List.length_drop, List.drop_of_length_le (show ks.length ≤ 2 + (ks.length - 2) by omega), List.append_nil] at hT
  -- a table of the two
  refine ⟨_, rfl, fun q3 qz nq3 nqz nez => ?_⟩
  have y3 : Ext He (upd (upd He qz (.own q3)) q3 (.ins CT qz [])) := (Ext.new nqz).trans (Ext.new (by rw [upd_ne nez.symm]; exact nq3))
  have ky3 : Kp He (upd (upd He qz (.own q3)) q3 (.ins CT qz [])) := (Kp.new nqz).trans (Kp.new (by rw [upd_ne nez.symm]; exact nq3))
  refine ⟨S, q3, qz, 9, 15980000, hF, rfl, upd_same, by decide, G.keep ky3 oke, fun Hf d3 xof kpf nd3 okf tb3 => ⟨rfl, ?_⟩⟩
  have xf : Ext He Hf := xof.ext y3 nq3
  have hTf := hT.ext xf
  have nd13 : d3 ≠ d1 := fun z => by
    have e := y3.dK hT.t1.held
    rw [← z, nd3] at e
    cases e
  replace hTf : TT16 CT S PT Hf D ks q3 d3 [] q1 d1 (ks.take 2) := ⟨hTf.lst, hTf.tab, tb3, hTf.t1, nd13⟩
  refine ⟨_, rfl, 2, rfl, D, _, rfl, SqL.of hTf.lst, fun p2 np2 => ?_⟩
  rw [show (2 : Int) = ((2 : Nat) : Int) from rfl, cut_to, ← List.map_take]
  have xg := Ext.new (o := .lst ((ks.take 2).map V.int)) np2
  have hTg := hTf.ext xg
  have okg := G.keep (Kp.new (o := .lst ((ks.take 2).map V.int)) np2) okf
  have hpg : upd Hf p2 (.lst ((ks.take 2).map V.int)) p2 = some (.lst ((ks.take 2).map V.int)) := upd_same
  generalize upd Hf p2 (.lst ((ks.take 2).map V.int)) = Hg at hTg okg hpg ⊢
  have tnd : (ks.take 2).Nodup := knd.sublist (List.take_sublist _ _)
  have trg : ∀ k ∈ ks.take 2, 0 ≤ k ∧ k < 2 ^ 9 := fun k hk => krg k (List.mem_of_mem_take hk)
  have tln : (ks.take 2).length = 2 := by rw [List.length_take]; omega
  refine ⟨p2, rfl, ⟨_, SqL.of hpg⟩, for_list (K := K) (a := p2) (xs := (ks.take 2).map V.int) (fun i σ H' => ∃ (y6 : Option V), σ = [some (.int (n : Int)), some (.int c), some (.ref S.f), some (.ref q1), some (.ref q2), some (.ref D), y6, some (.ref q3), none] ∧ H' p2 = some (.lst ((ks.take 2).map V.int)) ∧ TT16 CT S PT H' D ks q3 d3 ((ks.take 2).take i) q1 d1 (ks.take 2) ∧ S.ok H' 15980000) ⟨_, rfl, hpg, hTg, okg⟩ (fun i σ H' _ ⟨_, _, h, _⟩ => SqL.of h) ?_ ?_⟩
  · rintro i y σ Hh hy ⟨y6, rfl, hp, hT, ok⟩
    obtain ⟨k, hk, rfl⟩ := kvIn hy
    have hkr := trg k (List.mem_of_getElem? hk)
    obtain ⟨m5, e5, _, _, l5⟩ := mod_small k (m := 5) (by decide) (by decide)
    obtain ⟨dx, hq1⟩ := hT.t1.at_
    refine ⟨_, rfl, q3, dx, _, rfl, hq1, (tbF_no _ _ _).2.1, _, rfl, _, rfl, k, 5, rfl, rfl, (by show (0 : Int) < 5; decide), k % 5, rfl, ?_, _, _, rfl, rfl, ?_, S.f, q3, d3, 9, _, k, valX k, rfl, hT.t1, fun _ => ?_, fun z => absurd hkr z⟩
    · rw [show k % 5 = (m5 : Int) from e5, Int.natAbs_natCast]
      have : m5.log2 ≤ m5 := Nat.log2_le_self m5
      omega
    · have e1 : ("v" : Str).length = 1 := rfl
      have l5' : (toString (k % 5) : Str).length ≤ 2 := l5
      rw [e1, sizeLine_eq]
      omega
    · rw [put16 (nd_take tnd hk), ← take_snoc hk]
      refine ⟨_, rfl, ?_, hT.put1 (by rw [List.length_take]; omega), G.keep (Kp.dK hT.t1.held) ok⟩
      rw [upd_ne (fun z => by rw [z, hT.t1.held] at hp; cases hp)]
      exact hp
  rintro σ Hh ⟨y6, rfl, _, hT, okh⟩
  rw [List.length_map, List.take_length] at hT
  have okt := tbok16 tnd trg
  have ctl : ((ks.take 2).map pr16).length = 2 := by rw [List.length_map, tln]
  have cp2 := costP_le (show 9 ≤ 16 by decide) (show 2 ≤ 200 by decide)
  obtain ⟨dx1, hq1⟩ := hT.t2.at_
  obtain ⟨dx3, hq3⟩ := hT.t1.at_
  refine ⟨_, rfl, q1, dx1, _, rfl, hq1, (tbF_no _ _ _).2.2.2.2.2.1, S, q1, d1, 9, _, 15970000, hF, rfl, hT.t2, okt, by decide, G.less okh (by rw [ctl]; omega), fun v1 rows1 H8 x8 ok8 pr1 pw1 dv1 => ?_⟩
  have hT8 := hT.ext x8
  refine ⟨_, rfl, q3, dx3, _, rfl, x8.ins hq3, (tbF_no _ _ _).2.2.2.2.2.1, S, q3, d3, 9, _, 15960000, hF, rfl, hT8.t1, okt, by decide, G.less ok8 (by rw [ctl]; omega), fun v2 rows2 H9 x9 ok9 pr2 pw2 dv2 => ?_⟩
  have er : rows2 = rows1 := kv_same okt.nd pr2 pr1 pw2 pw1
  subst er
  obtain ⟨e1, a1, a2, a3, a4⟩ := eq_tm G (G.mono x9.gr dv1) dv2 (by show max 0 (partT 9 rows2).dep + 1 ≤ 60; have := partT_dep 9 rows2; omega)
  refine ⟨e1, e1, a1, a2, a3, a3, _, rfl, ?_⟩
  rw [a4]
  refine iteF ?_
  have hT9 := hT8.ext x9
  have x79 := x8.trans x9
  refine ⟨_, rfl, q1, dx1, _, rfl, x79.ins hq1, (tbF_no _ _ _).2.2.2.2.1, S.f, q1, d1, 9, _, rfl, hT9.t2, okt.nd, okt.tx, fun r1 ys1 rw1 Ha xa ka nr1 hr1 kv1 pm1 pwa => ?_⟩
  refine ⟨_, rfl, q3, dx3, _, rfl, (x79.trans xa).ins hq3, (tbF_no _ _ _).2.2.2.2.1, S.f, q3, d3, 9, _, rfl, (hT9.ext xa).t1, okt.nd, okt.tx, fun r2 ys2 rw2 Hb xb kb nr2 hr2 kv2 pm2 pwb => ?_⟩
  have er2 : rw2 = rw1 := kv_same okt.nd pm2 pm1 pwb pwa
  subst er2
  obtain ⟨e2, b1, b2, b3, b4⟩ := kv_eqd (SqL.of (xb.lst hr1)) (SqL.of hr2) (kv1.gr xb.gr) kv2
  refine ⟨e2, e2, b1, b2, b3, b3, _, rfl, ?_⟩
  rw [b4]
  refine iteF ?_
  have hTb := (hT9.ext xa).ext xb
  have x7b := (x79.trans xa).trans xb
  have okb := G.keep kb (G.keep ka ok9)
  -- the ways
  obtain ⟨k0, hk0⟩ : ∃ k0, ks[0]? = some k0 := ⟨ks[0]'(by omega), List.getElem?_eq_getElem _⟩
  have hk0r := krg k0 (List.mem_of_getElem? hk0)
  have hk0v : atI (ks.map V.int) 0 = some (.int k0) := atI_nat (j := 0) (by rw [List.getElem?_map, hk0]; rfl)
  refine ⟨_, rfl, q1, dx1, _, rfl, x7b.ins hq1, (tbF_no _ _ _).2.2.2.2.2.2.1, _, rfl, D, _, 0, _, rfl, rfl, SqL.of hTb.lst, hk0v, S, q1, d1, 9, _, k0, 15950000, hF, rfl, hTb.t2, okt, by decide, G.less okb (by rw [ctl]; omega), fun _ w1 rwc Hc xc okc pmc pwc wv1 => ?_, fun z => absurd hk0r z⟩
  refine ⟨_, rfl, q3, dx3, _, rfl, (x7b.trans xc).ins hq3, (tbF_no _ _ _).2.2.2.2.2.2.1, _, rfl, D, _, 0, _, rfl, rfl, SqL.of (hTb.ext xc).lst, hk0v, S, q3, d3, 9, _, k0, 15940000, hF, rfl, (hTb.ext xc).t1, okt, by decide, G.less okc (by rw [ctl]; omega), fun _ w2 rwd Hd' xd' okd' pmd pwd wv2 => ?_, fun z => absurd hk0r z⟩
  have er3 : rwd = rwc := kv_same okt.nd pmd pmc pwd pwc
  subst er3
  obtain ⟨e3, c1, c2, c3, c4⟩ := way_dp G (wv1.ext G xd') wv2 (fun t ht => Nat.le_trans (wayT_dep 9 rwd k0 t ht) (by decide))
  refine ⟨e3, e3, c1, c2, c3, c3, ?_⟩
  rw [c4]
  exact q _ ((hTb.ext xc).ext xd').tab
end

/-! ### lists that were there, lists that are new -/
def OldL (H : Hp) (L : List Addr) : Prop := ∀ a ∈ L, ∃ xs, H a = some (.lst xs)
theorem OldL.ext {H H' : Hp} {L : List Addr} (h : OldL H L) (x : Ext H H') : OldL H' L := fun a ha => by
  obtain ⟨xs, e⟩ := h a ha
  exact ⟨xs, x.lst e⟩
theorem OldL.one {H : Hp} {a : Addr} {xs : List V} (h : H a = some (.lst xs)) : OldL H [a] := fun y hy => by rw [List.mem_singleton.mp hy]; exact ⟨_, h⟩
theorem notin {H : Hp} {x : Addr} {L : List Addr} (n : H x = none) (h : OldL H L) : x ∉ L := fun hx => by
  obtain ⟨xs, e⟩ := h x hx
  rw [n] at e
  cases e
theorem KpAt.old {CK CT : Addr} {S0 : Sys} {H : Hp} {p : Addr} {l : Nat} {t b v : Addr} {es : List En} (h : KpAt CK CT S0 H p l t b v es) : OldL H [t, b, v] := fun a ha => by
  rcases List.mem_cons.mp ha with rfl | ha
  · exact ⟨_, h.tx⟩
  rcases List.mem_cons.mp ha with rfl | ha
  · obtain ⟨_, z, _⟩ := h.tb; exact ⟨_, z⟩
  rcases List.mem_cons.mp ha with rfl | ha
  · obtain ⟨_, z, _⟩ := h.lv; exact ⟨_, z⟩
  cases ha
/-! ### entries that put one of four keys -/
instance : DecidableEq Act := fun x y => match x, y with
  | .put k t, .put k' t' => if h : k = k' ∧ t = t' then isTrue (by rw [h.1, h.2]) else isFalse fun z => h ⟨(Act.put.inj z).1, (Act.put.inj z).2⟩
  | .cut k, .cut k' => if h : k = k' then isTrue (by rw [h]) else isFalse fun z => h (Act.cut.inj z)
  | .put _ _, .cut _ => isFalse fun z => nomatch z
  | .cut _, .put _ _ => isFalse fun z => nomatch z
def txK (a b : Nat) : List Nat := [112, 117, 116, 32, 48 + a, 32, 118, 48 + b]
def vaK (b : Nat) : Str := S [118, 48 + b]
theorem txK_str : ∀ a : Nat, a < 4 → ∀ b : Nat, b < 7 → ("put " ++ toString (a : Int) ++ " v" ++ toString (b : Int) : Str) = S (txK a b) := by decide +kernel
theorem txK_spl : ∀ a : Nat, a < 4 → ∀ b : Nat, b < 7 → TL.spl [10] 0 [] (txK a b) = [txK a b] := by decide +kernel
theorem txK_read2 : ∀ a : Nat, a < 4 → ∀ b : Nat, b < 7 → readL (txK a b) 2 = some (some (.put (a : Int) [118, 48 + b])) := by decide +kernel
theorem txK_read3 : ∀ a : Nat, a < 4 → ∀ b : Nat, b < 7 → readL (txK a b) 3 = some (some (.put (a : Int) [118, 48 + b])) := by decide +kernel
theorem txK_ok : ∀ a : Nat, a < 4 → ∀ b : Nat, b < 7 → txtOk (S (txK a b)) = true ∧ txtOk (vaK b) = true := by decide +kernel
theorem txK_asc : ∀ a : Nat, a < 4 → ∀ b : Nat, b < 7 → ∀ c ∈ txK a b, c < 128 := by decide +kernel
theorem runK {l a b : Nat} (hl : l = 2 ∨ l = 3) (ha : a < 4) (hb : b < 7) (kv : List (Int × Str)) : runL l 0 (TL.spl [10] 0 [] (txK a b)) kv = .ok (putI kv (a : Int) (vaK b)) := by
  rw [txK_spl a ha b hb]
  unfold runL
  have e : readL (txK a b) l = some (some (.put (a : Int) [118, 48 + b])) := by
    rcases hl with rfl | rfl
    · exact txK_read2 a ha b hb
    · exact txK_read3 a ha b hb
  rw [e]
  rfl
def kvN (a b : Nat → Nat) : Nat → List (Int × Str)
  | 0 => []
  | n + 1 => putI (kvN a b n) (a n : Int) (vaK (b n))
def esN (a b : Nat → Nat) (n : Nat) : List En := (List.range n).map fun i : Nat => ((txK (a i) (b i), kvN a b (i + 1)) : En)
theorem esN_len (a b : Nat → Nat) (n : Nat) : (esN a b n).length = n := by
  unfold esN
  rw [List.length_map, List.length_range]
theorem esN_succ (a b : Nat → Nat) (n : Nat) : esN a b (n + 1) = esN a b n ++ [(txK (a n) (b n), putI (kvN a b n) (a n : Int) (vaK (b n)))] := by
  unfold esN
  rw [List.range_succ, List.map_append]
  rfl
theorem esN_last (a b : Nat → Nat) (n : Nat) : lastKv (esN a b n) = kvN a b n := by
  unfold lastKv
  cases n with
  | zero => rfl
  | succ n =>
    rw [esN_succ, List.getLast?_concat]
    rfl
theorem esN_get {a b : Nat → Nat} {n i : Nat} {e : En} (h : (esN a b n)[i]? = some e) : i < n ∧ e = (txK (a i) (b i), kvN a b (i + 1)) := by
  unfold esN at h
  rw [List.getElem?_map] at h
  have hi : i < n := by
    apply Classical.byContradiction
    intro z
    rw [List.getElem?_eq_none (by rw [List.length_range]; omega)] at h
    cases h
  rw [List.getElem?_range hi] at h
  exact ⟨hi, (Option.some.inj h).symm⟩
theorem esN_at {a b : Nat → Nat} {n i : Nat} (h : i < n) : (esN a b n)[i]? = some (txK (a i) (b i), kvN a b (i + 1)) := by
  unfold esN
  rw [List.getElem?_map, List.getElem?_range h]
  rfl
theorem nat_len : ∀ (m : Nat) (l : List Nat), l.Nodup → (∀ x ∈ l, x < m) → l.length ≤ m
  | 0, l, _, h => by
    cases l with
    | nil => exact Nat.le_refl _
    | cons x l => exact absurd (h x List.mem_cons_self) (by omega)
  | m + 1, l, nd, h => by
    have h1 := nat_len m (l.erase m) (nd.erase m) fun x hx => by
      have h2 := h x (List.mem_of_mem_erase hx)
      have h3 : x ≠ m := fun z => by
        rw [z] at hx
        exact nd.not_mem_erase hx
      omega
    have h4 := List.length_erase (a := m) (l := l)
    split at h4 <;> omega
theorem tb_len {l : Nat} {kv : List (Int × Str)} (h : TbOk l kv) : kv.length ≤ 2 ^ l := by
  have e := nat_len (2 ^ l) (kv.map fun e => e.1.toNat) (List.pairwise_map.mpr ?_) ?_
  · rwa [List.length_map] at e
  · have nd : kv.Pairwise fun a b => a.1 ≠ b.1 := List.pairwise_map.mp h.nd
    refine List.Pairwise.imp_of_mem ?_ nd
    intro a b ha hb hab
    have := (h.rg a ha).1
    have := (h.rg b hb).1
    omega
  · intro x hx
    obtain ⟨e, he, rfl⟩ := List.mem_map.mp hx
    obtain ⟨h1, h2⟩ := h.rg e he
    have e2 : ((2 ^ l : Nat) : Int) = 2 ^ l := pow_cast l
    omega
theorem kvN_ok {l : Nat} (hl : 2 ≤ l) {a b : Nat → Nat} (ha : ∀ i, a i < 4) : ∀ {n : Nat}, (∀ i, i < n → b i < 7) → TbOk l (kvN a b n)
  | 0, _ => ⟨List.Pairwise.nil, fun _ h => (nomatch h), fun _ h => (nomatch h)⟩
  | n + 1, hb => by
    have h4 : (4 : Int) ≤ 2 ^ l := by
      have h1 : 2 ^ 2 ≤ 2 ^ l := Nat.pow_le_pow_right (by decide) hl
      have h2 := pow_cast l
      omega
    have := ha n
    exact tbok_put (kvN_ok hl ha fun i hi => hb i (by omega)) (by omega) (by omega) (txK_ok 0 (by decide) (b n) (hb n (by omega))).2
theorem kvN_len {a b : Nat → Nat} (ha : ∀ i, a i < 4) {n : Nat} (hb : ∀ i, i < n → b i < 7) : (kvN a b n).length ≤ 4 := tb_len (kvN_ok (Nat.le_refl 2) ha hb)
theorem leafT_ws (l : Nat) (e : En) : WS (leafT l e) := .leaf _ (.tab _ (partT_ws _ _))
theorem leafT_dep (l : Nat) (e : En) : (leafT l e).dep ≤ l + 3 := by
  show max 0 (max 0 (partT l (srtI e.2)).dep + 1) + 1 ≤ l + 3
  have := partT_dep l (srtI e.2)
  omega
theorem take_all {α : Type} {l : List α} {n : Nat} (h : l.length = n) : l.take n = l := List.take_of_length_le (by omega)
/-- a place, a growth that are due are judged so -/
theorem judgeS_own {ts : List Tm} {p : Nat} (hp : p < ts.length) : judgeS (p : Int) (ts.getD p nonT) ts.length (.sl "book" (.int (ts.length : Int)) (topT ts)) (some (pathT ts p)) = true := by
  refine decide_eq_true ⟨by omega, by omega, ?_, ?_⟩
  · rw [Int.toNat_natCast]
    exact pathT_len ts p
  · rw [Int.toNat_natCast, rise_path ts p hp]
theorem judgeG_own {ts : List Tm} {o : Nat} (h0 : 0 < o) (ho : o ≤ ts.length) : judgeG (o : Int) ts.length (.sl "book" (.int (o : Int)) (topT (ts.take o))) (.sl "book" (.int (ts.length : Int)) (topT ts)) (some (growT ts o)) = true := by
  unfold judgeG
  rw [if_neg (by omega)]
  refine decide_eq_true ⟨by omega, by omega, ?_, ?_, ?_⟩
  · rw [Int.toNat_natCast]
    exact growT_glen h0 ho
  · rw [Int.toNat_natCast, reg_grow h0 ho]
  · rw [Int.toNat_natCast, reg_grow h0 ho]

/-! ### a keeper of so many entries -/
section
variable {P : Program} {w : World} {K : PySem.W.Frag} {mg : Str → Option Value} {base : Heap} {CK CT CS CG : Addr}
structure KK16 (CK CT : Addr) (S : Sys) (PT : Addr) (H : Hp) (p t b v L : Addr) (es : List En) : Prop where
  kp : KpAt CK CT S H p 2 t b v es
  lv : ∃ ls, H L = some (.lst ls) ∧ DenL S H ls (es.map (leafT 2))
  tab : LamX.TabS H PT qL
  nl : L ∉ [t, b, v]
theorem KK16.ext {S : Sys} {PT : Addr} {H H' : Hp} {p t b v L : Addr} {es : List En} (G : S.Good K) (h : KK16 CK CT S PT H p t b v L es) (x : Ext H H') : KK16 CK CT S PT H' p t b v L es := by
  obtain ⟨ls, h1, h2⟩ := h.lv
  exact ⟨h.kp.ext G x, ⟨ls, x.lst h1, h2.mono G x.gr⟩, tabS_gr h.tab x.gr, h.nl⟩
def spKeep16 (PT : Addr) : Sp := fun vs H Q _ => ∃ (n : Nat) (c : Int), vs = [.int (n : Int), .int c] ∧ 1 ≤ n ∧ n ≤ 300 ∧ LamX.TabS H PT qL ∧ ∀ H', LamX.TabS H' PT qL → Q (.bl true) H'
theorem ok_keep16 {cc PT B C : Addr} (T : Txt K mg cc) (TB : LamX.TabB base mg cc PT) (KT : K_Table K mg CT) (KK : K_Keeper K mg CK) (KS : K_Stands K mg CS) (KG : K_Grows K mg CG) (EI : ExcI K mg "BadRow" "BookError" "row" "BadRow.__init__" s_BadRow___init__ ["self", "row"] C B) : CalX P w K mg base 28 "_law_keeper_right" (spKeep16 PT) := by
  have Z := T.Z
  have A := sla16 (P := P) (w := w) (base := base) T
  have I3 : ∀ {S}, Fam16 mg S → S.Inj K := fun h => inj16 h
  have C__law_numbers := cal_numbers (P := P) (w := w) (base := base) T.m__law_numbers TB
  have C_Keeper := ok_kinit (CT := CT) A KK
  have M_add := ok_kadd T A KT KK EI
  have M_table_head := ok_kthead T A KT KK
  have M_text := ok_ktext (P := P) (w := w) (base := base) (CT := CT) (Fam := Fam16 mg) T KK
  have M_head := ok_khead (CT := CT) T A KK
  have M_path := ok_kpath (CT := CT) T A KK
  have M_growth := ok_kgrow (CT := CT) T A KK
  have M_size := ok_ksize (P := P) (w := w) (base := base) (CT := CT) (Fam := Fam16 mg) T KK
  have C__law_top := ok_law_top T A 10
  have C__law_path := ok__law_path T A (ok_law_top T A) 10
  have C__law_growth := ok__law_growth T A (ok_law_top T A) 10
  have C_Stands := ok_stinit (P := P) (w := w) (base := base) KS
  have C_Grows := ok_grinit (P := P) (w := w) (base := base) KG
  have M_jS := ok_judgedS T A I3 KS
  have M_jG := ok_judgedG T A I3 KG
  have e16 : sizeLine = 16777216 := sizeLine_eq
  refine calX_of T.d__law_keeper_right sc__law_keeper_right (fun vs H Q E h => ?_) (fun f cdv A' outer s H vs Q E hr h => ?_)
  · obtain ⟨n, c, rfl, _⟩ := h
    rfl
  obtain ⟨n, c, rfl, hn1, hn, hPT, q⟩ := h
  refine ⟨_, (pss_cons (ps_set (i := 2) sc__law_keeper_right.nd rfl (Or.inl rfl) (pe_c0 C__law_numbers hr (by omega) rfl))
  (pss_cons (ps_par (i := 3) (j := 4) rfl sc__law_keeper_right.nd rfl rfl (by decide) rfl rfl (pa_cons (pe_mk C_Keeper hr (by omega) rfl (pa_cons (pv 2) (pa_cons pe_int pa_nil))) (pa_cons (pe_lst pa_nil) pa_nil)) (by rfl))
  (pss_cons (ps_for (passes_of rfl) rfl (pi_range1 rfl Z.range (pa_cons (pv 0) pa_nil)) (pg_name (i := 5) sc__law_keeper_right.nd rfl (Or.inl rfl)) (pss_cons (ps_set (i := 6) sc__law_keeper_right.nd rfl (Or.inl rfl) (pe_op op_add_str (pe_op op_add_str (pe_op op_add_str pe_str (pe_callTy call_str_int rfl Z.str (by decide +kernel) (pa_cons (pe_op op_mod (pe_op op_add (pv 1) (pv 5)) pe_int) pa_nil))) pe_str) (pe_callTy call_str_int rfl Z.str (by decide +kernel) (pa_cons (pe_op op_mod (pv 5) pe_int) pa_nil))))
  (pss_cons (ps_if (pt_cmpR op_ne (pe_mtx M_add (takes_of rfl rfl rfl rfl) hr (by omega) (pv 3) (pa_cons (pv 6) pa_nil)) (pv 5) (nomark _)) (pss_one (ps_ret pe_bl)) pss_nil)
  (pss_one (ps_expr (pe_bm PySem.F.plainAttrs_list PySem.F.slot_list_append PySem.F.type_list_append mt_append (pv 4) (pa_cons (pe_sl (i := 2) A.held hr (by omega) rfl (by first | exact Or.inl rfl | exact Or.inr (Or.inl rfl) | exact Or.inr (Or.inr rfl)) (pa_cons pe_str (pa_cons (pv 6) (pa_cons (pe_mtx M_table_head (takes_of rfl rfl rfl rfl) hr (by omega) (pv 3) (pa_cons (pv 5) pa_nil)) pa_nil)))) pa_nil)))))))
  (pss_cons (ps_set (i := 7) sc__law_keeper_right.nd rfl (Or.inl rfl) (pe_sl (i := 2) A.held hr (by omega) rfl (by first | exact Or.inl rfl | exact Or.inr (Or.inl rfl) | exact Or.inr (Or.inr rfl)) (pa_cons pe_str (pa_cons (pv 0) (pa_cons (pe_c C__law_top hr (by omega) rfl (pa_cons (pv 2) (pa_cons (pv 4) pa_nil))) pa_nil)))))
  (pss_cons (ps_par (i := 8) (j := 9) rfl sc__law_keeper_right.nd rfl rfl (by decide) rfl rfl (pa_cons (pe_op op_mod (pv 1) (pv 0)) (pa_cons (pe_op op_add pe_int (pe_op op_mod (pe_op op_fdiv (pv 1) pe_int) (pv 0))) pa_nil)) (by rfl))
  (pss_cons (ps_if (PW.pt (pw_or (pt_cmpR (op_neD hr.units) (pe_mtd M_head (takes_of rfl rfl rfl rfl) hr (by omega) (pv 3) (pa_cons pe_non pa_nil)) (pv 7) (nomark _)) (pw_or1 (pt_cmpR op_ne (pe_mt0 M_size hr (by omega) (pv 3)) (pv 0) (nomark _))))) (pss_one (ps_ret pe_bl)) pss_nil)
  (pss_cons (ps_if (pt_cmpR (op_neD hr.units) (pe_mtd M_path (takes_of rfl rfl rfl rfl) hr (by omega) (pv 3) (pa_cons (pv 8) (pa_cons pe_non pa_nil))) (pe_c C__law_path hr (by omega) rfl (pa_cons (pv 2) (pa_cons (pv 4) (pa_cons (pv 8) pa_nil)))) (nomark _)) (pss_one (ps_ret pe_bl)) pss_nil)
  (pss_cons (ps_if (pt_cmpR (op_neD hr.units) (pe_mtd M_growth (takes_of rfl rfl rfl rfl) hr (by omega) (pv 3) (pa_cons (pv 9) (pa_cons pe_non pa_nil))) (pe_c C__law_growth hr (by omega) rfl (pa_cons (pv 2) (pa_cons (pv 4) (pa_cons (pv 9) pa_nil)))) (nomark _)) (pss_one (ps_ret pe_bl)) pss_nil)
  (pss_cons (ps_set (i := 10) sc__law_keeper_right.nd rfl (Or.inl rfl) (pe_mk C_Stands hr (by omega) rfl (pa_cons (pv 8) (pa_cons (pe_mtx M_text (takes_of rfl rfl rfl rfl) hr (by omega) (pv 3) (pa_cons (pv 8) pa_nil)) (pa_cons (pe_mtx M_table_head (takes_of rfl rfl rfl rfl) hr (by omega) (pv 3) (pa_cons (pv 8) pa_nil)) pa_nil)))))
  (pss_cons (ps_set (i := 11) sc__law_keeper_right.nd rfl (Or.inl rfl) (pe_mk C_Grows hr (by omega) rfl (pa_cons (pv 9) (pa_cons (pe_sl (i := 2) A.held hr (by omega) rfl (by first | exact Or.inl rfl | exact Or.inr (Or.inl rfl) | exact Or.inr (Or.inr rfl)) (pa_cons pe_str (pa_cons (pv 9) (pa_cons (pe_c C__law_top hr (by omega) rfl (pa_cons (pv 2) (pa_cons (pe_slice sl_list (pv 4) po_none (po_some (pv 9))) pa_nil))) pa_nil)))) pa_nil))))
  (pss_cons (ps_set (i := 12) sc__law_keeper_right.nd rfl (Or.inl rfl) (pe_lst (pa_cons (pe_mt M_jS hr (by omega) (pv 10) (pa_cons (pv 2) (pa_cons (pv 0) (pa_cons (pv 7) (pa_cons (pe_mtd M_path (takes_of rfl rfl rfl rfl) hr (by omega) (pv 3) (pa_cons (pv 8) (pa_cons pe_non pa_nil))) pa_nil))))) pa_nil)))
  (pss_cons (ps_expr (pe_bm PySem.F.plainAttrs_list PySem.F.slot_list_append PySem.F.type_list_append mt_append (pv 12) (pa_cons (pe_mt M_jG hr (by omega) (pv 11) (pa_cons (pv 2) (pa_cons (pv 0) (pa_cons (pv 7) (pa_cons (pe_mtd M_growth (takes_of rfl rfl rfl rfl) hr (by omega) (pv 3) (pa_cons (pv 9) (pa_cons pe_non pa_nil))) pa_nil))))) pa_nil)))
  (pss_cons (ps_if (pt_cmpR (op_neD hr.units) (pv 12) (pe_lst (pa_cons pe_bl (pa_cons pe_bl pa_nil))) (nomark _)) (pss_one (ps_ret pe_bl)) pss_nil)
  (pss_one (ps_ret (pe_cmpR (op_eqD hr.units) (pe_mtd M_head (takes_of rfl rfl rfl rfl) hr (by omega) (pv 3) (pa_cons (pv 9) pa_nil)) (pe_sl (i := 2) A.held hr (by omega) rfl (by first | exact Or.inl rfl | exact Or.inr (Or.inl rfl) | exact Or.inr (Or.inr rfl)) (pa_cons pe_str (pa_cons (pv 9) (pa_cons (pe_c C__law_top hr (by omega) rfl (pa_cons (pv 2) (pa_cons (pe_slice sl_list (pv 4) po_none (po_some (pv 9))) pa_nil))) pa_nil)))) (nomark _))))))))))))))))), ?_⟩
  refine ⟨rfl, hPT, fun N H1 _ t1 n1 => ?_⟩
  have hF : Fam16 mg (numSys N) := .inr ⟨N, rfl⟩
  have G := A.good hF
  have ok1 : (numSys N).ok H1 sizeLine := n1
  have hNf : (numSys N).f = N.f := rfl
  rw [← hNf]
  generalize numSys N = S0 at hF G ok1 ⊢
  clear n1 hNf
  replace ok1 := G.less ok1 (show 16000000 ≤ sizeLine by omega)
  -- the keeper, the leaves
  refine ⟨_, rfl, fun p px np npx nex => ?_⟩
  have y1 : Ext H1 (upd (upd H1 px (.own p)) p (.ins CK px [])) := (Ext.new npx).trans (Ext.new (by rw [upd_ne nex.symm]; exact np))
  have ky1 : Kp H1 (upd (upd H1 px (.own p)) p (.ins CK px [])) := (Kp.new npx).trans (Kp.new (by rw [upd_ne nex.symm]; exact np))
  refine ⟨S0, p, px, 2, 16000000, hF, rfl, upd_same, by decide, G.keep ky1 ok1, fun H2 t b v xo2 kp2 nt nb nv ok2 kp0 => ⟨rfl, ?_⟩⟩
  have x2 : Ext H1 H2 := xo2.ext y1 np
  refine ⟨Nat.zero_le _, fun L nL => ?_⟩
  have x3 := Ext.new (o := .lst []) nL
  have ok3 := G.keep (Kp.new (o := .lst []) nL) ok2
  have hK : KK16 CK CT S0 PT (upd H2 L (.lst [])) p t b v L [] := ⟨kp0.ext G x3, ⟨[], upd_same, DenL.nil⟩, tabS_gr (tabS_gr t1 x2.gr) x3.gr, notin nL kp0.old⟩
  generalize upd H2 L (.lst []) = H3 at ok3 hK ⊢
  clear kp0 t1
  refine ⟨_, _, rfl, ?_⟩
  -- the entries
  obtain ⟨fa, hfa⟩ : ∃ fa : Nat → Nat, ∀ i : Nat, ((c + (i : Int)) % 4) = ((fa i : Nat) : Int) ∧ fa i < 4 := ⟨fun i => ((c + (i : Int)) % 4).toNat, fun i => by constructor <;> (dsimp only; omega)⟩
  obtain ⟨fb, hfb⟩ : ∃ fb : Nat → Nat, ∀ i : Nat, ((i : Int) % 7) = ((fb i : Nat) : Int) ∧ fb i < 7 := ⟨fun i => i % 7, fun i => by constructor <;> (dsimp only; omega)⟩
  have ha4 : ∀ i, fa i < 4 := fun i => (hfa i).2
  have hb7 : ∀ i, fb i < 7 := fun i => (hfb i).2
  refine ⟨_, rfl, (n : Int), rfl, by omega, by omega, ?_⟩
  rw [Int.toNat_natCast]
  refine for_range (fun i σ H' => ∃ (y5 y6 : Option V), σ = [some (.int (n : Int)), some (.int c), some (.ref S0.f), some (.ref p), some (.ref L), y5, y6, none, none, none, none, none, none] ∧ KK16 CK CT S0 PT H' p t b v L (esN fa fb i) ∧ S0.ok H' (16000000 - i * 20000)) ⟨none, none, rfl, hK, ok3⟩ ?_ ?_
  · rintro i σ H4 hi ⟨y5, y6, rfl, hK, ok⟩
    rw [Int.zero_add]
    obtain ⟨ea, la⟩ := hfa i
    obtain ⟨eb, lb⟩ := hfb i
    have el := esN_len fa fb i
    obtain ⟨dx, hp⟩ := hK.kp.at_
    obtain ⟨_, _, _, ta, tla⟩ := mod_small (c + (i : Int)) (m := 4) (by decide) (by decide)
    obtain ⟨_, _, _, tb, tlb⟩ := mod_small (i : Int) (m := 7) (by decide) (by decide)
    have tx := txK_str (fa i) la (fb i) lb
    rw [← ea, ← eb] at tx
    have tla' : (toString ((c + (i : Int)) % 4) : Str).length ≤ 2 := tla
    have tlb' : (toString ((i : Int) % 7) : Str).length ≤ 2 := tlb
    have l1 : ("put " : Str).length = 4 := rfl
    have l2 : ("put " ++ toString ((c + (i : Int)) % 4) : Str).length ≤ 6 := by rw [Str.length_append, l1]; omega
    have l3 : (" v" : Str).length = 2 := rfl
    have l4 : ("put " ++ toString ((c + (i : Int)) % 4) ++ " v" : Str).length ≤ 8 := by rw [Str.length_append, l3]; omega
    refine ⟨_, rfl, _, rfl, _, _, rfl, rfl, _, 4, rfl, rfl, (by show (0 : Int) < 4; decide), (c + (i : Int)) % 4, rfl, ?_, _, _, rfl, rfl, ?_, _, _, rfl, rfl, ?_, _, rfl, _, 7, rfl, rfl, (by show (0 : Int) < 7; decide), (i : Int) % 7, rfl, ?_, _, _, rfl, rfl, ?_, ?_⟩
    · rw [ea, Int.natAbs_natCast]
      have := Nat.log2_le_self (fa i)
      omega
    · rw [sizeLine_eq]; omega
    · rw [sizeLine_eq]; omega
    · rw [eb, Int.natAbs_natCast]
      have := Nat.log2_le_self (fb i)
      omega
    · rw [sizeLine_eq]; omega
    rw [tx]
    have e8 : 16000000 - i * 20000 = (16000000 - (i + 1) * 20000 + 13000) + 7000 := by omega
    have i300 : i < 300 := by omega
    refine ⟨_, rfl, p, dx, _, rfl, hp, kno "add", _, rfl, S0, p, 2, t, b, v, esN fa fb i, txK (fa i) (fb i), 16000000 - (i + 1) * 20000 + 13000, hF, rfl, hK.kp, by rw [el]; exact i300, txK_asc _ la _ lb, (by show 8 ≤ 300; decide), G.less ok (by omega), fun kv hrun => ?_, fun z hrun => ?_⟩
    · rw [runK (.inl rfl) la lb, esN_last] at hrun
      cases hrun
      refine ⟨Nat.le_trans (kvN_len (n := i + 1) ha4 fun j _ => hb7 j) (by decide), fun H5 xm ok5 hk5 => ?_⟩
      rw [← esN_succ] at hk5
      refine ⟨_, rfl, rfl, _, rfl, ?_⟩
      rw [el, decide_eq_true rfl]
      refine iteF ?_
      have hL5 : ∃ ls, H5 L = some (.lst ls) ∧ DenL S0 H5 ls ((esN fa fb i).map (leafT 2)) := by
        obtain ⟨ls, h1, h2⟩ := hK.lv
        exact ⟨ls, xm.lst hK.nl h1, h2.mono G xm.gr⟩
      have t5 := tabS_gr hK.tab xm.gr
      obtain ⟨ls, hL, hls⟩ := hL5
      obtain ⟨dx5, hp5⟩ := hk5.at_
      have hin := esN_at (a := fa) (b := fb) (n := i + 1) (i := i) (Nat.lt_succ_self i)
      refine ⟨_, rfl, .inl ⟨rfl, _, SqL.of hL⟩, S0, _, hF, rfl, ok5, _, rfl, _, rfl, p, dx5, _, rfl, hp5, kno "table_head", _, rfl, S0, p, 2, t, b, v, _, (i : Int), 16000000 - (i + 1) * 20000 + 6000, hF, rfl, hk5, G.less ok5 (by omega), fun m e hm he u H6 x6 ok6 du => ?_, fun z => absurd ⟨Int.natCast_nonneg i, by rw [esN_len]; omega⟩ z⟩
      have em : m = i := by omega
      rw [em, hin] at he
      cases he
      refine ⟨16000000 - (i + 1) * 20000, "leaf", .str (S (txK (fa i) (fb i))), _, _, _, rfl, by decide +kernel, G.less ok6 (by omega), G.str _ ok6 (txK_ok _ la _ lb).1, du, fun w7 H7 x7 ok7 d7 => ?_⟩
      have x67 := x6.trans x7
      have hL7 := x67.lst hL
      have lsl := hls.len
      rw [List.length_map, el] at lsl
      refine ⟨L, ls, w7, rfl, rfl, hL7, by rw [lsl, sizeLine_eq]; omega, ?_⟩
      have xm8 : ExtM [L] H7 (upd H7 L (.lst (ls ++ [w7]))) := ((Ext.refl H7).m [L] (OldL.one hL7)).set List.mem_cons_self
      have nLt : ∀ a ∈ [t, b, v], a ∉ [L] := fun a ha hb => hK.nl (by rw [← List.mem_singleton.mp hb]; exact ha)
      refine ⟨_, _, rfl, ⟨(hk5.ext G x67).extM G xm8 (nLt _ List.mem_cons_self) (nLt _ (List.mem_cons_of_mem _ List.mem_cons_self)) (nLt _ (List.mem_cons_of_mem _ (List.mem_cons_of_mem _ List.mem_cons_self))), ⟨_, upd_same, ?_⟩, tabS_gr (tabS_gr t5 x67.gr) xm8.gr, hK.nl⟩, G.keep (Kp.lst hL7) ok7⟩
      rw [esN_succ, List.map_append]
      exact (hls.mono G (x67.gr.trans xm8.gr)).append (DenL.one (G.mono xm8.gr d7))
    · rw [runK (.inl rfl) la lb] at hrun
      cases hrun
  rintro σ H4 ⟨y5, y6, rfl, hK, ok4⟩
  replace ok4 := G.less ok4 (show 10000000 ≤ 16000000 - n * 20000 by omega)
  have esl := esN_len fa fb n
  have hok : ∀ e ∈ esN fa fb n, txtOk (S e.1) = true := fun e he => (hK.kp.ok e he).2.2
  generalize hes : esN fa fb n = es at hK esl hok
  clear hes
  obtain ⟨ts, hts⟩ : ∃ ts, ts = es.map (leafT 2) := ⟨_, rfl⟩
  have tl : ts.length = n := by rw [hts, List.length_map, esl]
  have len9 : ts.length ≤ 2 ^ 9 := by show _ ≤ 512; omega
  have tdep : ∀ t ∈ ts, t.dep ≤ 5 := fun t ht => by rw [hts] at ht; obtain ⟨e, _, rfl⟩ := List.mem_map.mp ht; exact leafT_dep 2 e
  have tws : ∀ t ∈ ts, WS t := fun t ht => by rw [hts] at ht; obtain ⟨e, _, rfl⟩ := List.mem_map.mp ht; exact leafT_ws 2 e
  have ct := costT_le n
  have tdU : ∀ us : List Tm, (∀ t ∈ us, t ∈ ts) → us.length ≤ ts.length → WS (topT us) ∧ (topT us).dep ≤ 15 := fun us hu hul => ⟨topT_ws fun t ht => tws t (hu t ht), Nat.le_trans (topT_dep 9 us (by omega) fun t ht => tdep t (hu t ht)) (by decide)⟩
  have tdT := tdU ts (fun _ h => h) (Nat.le_refl _)
  obtain ⟨pl, epl, hpl⟩ : ∃ pl : Nat, c % (n : Int) = (pl : Int) ∧ pl < n := ⟨(c % (n : Int)).toNat, by have h1 := Int.emod_nonneg c (show (n : Int) ≠ 0 by omega); have h2 := Int.emod_lt_of_pos c (show (0 : Int) < (n : Int) by omega); omega⟩
  obtain ⟨o, eo, ho1, ho⟩ : ∃ o : Nat, 1 + c / 7 % (n : Int) = (o : Int) ∧ 0 < o ∧ o ≤ n := ⟨(1 + c / 7 % (n : Int)).toNat, by have h1 := Int.emod_nonneg (c / 7) (show (n : Int) ≠ 0 by omega); have h2 := Int.emod_lt_of_pos (c / 7) (show (0 : Int) < (n : Int) by omega); omega⟩
  have tdP : ∀ t ∈ pathT ts pl, WS t ∧ t.dep ≤ 15 := pathT_mem tdU
  have tdG : ∀ t ∈ growT ts o, WS t ∧ t.dep ≤ 15 := growT_mem tdU
  obtain ⟨e, hee⟩ : ∃ e, es[pl]? = some e := ⟨es[pl]'(by omega), List.getElem?_eq_getElem _⟩
  have tpl : ts.getD pl nonT = leafT 2 e := by rw [hts, List.getD_eq_getElem?_getD, List.getElem?_map, hee]; rfl
  have etx := hok e (List.mem_of_getElem? hee)
  have tk_all : (es.map (leafT 2)).take n = ts := by rw [← hts]; exact take_all tl
  have tk_o : (es.map (leafT 2)).take o = ts.take o := by rw [← hts]
  have cn : cntOf es.length none = some n := by rw [← esl]; rfl
  have co : cntOf es.length (some (o : Int)) = some o := by
    show (if 0 ≤ (o : Int) ∧ (o : Int) ≤ (es.length : Int) then some (o : Int).toNat else none) = some o
    rw [if_pos ⟨by omega, by omega⟩, Int.toNat_natCast]
  obtain ⟨dx, hp⟩ := hK.kp.at_
  obtain ⟨ls, hL, hls⟩ := id hK.lv
  rw [← hts] at hls
  -- the own head
  refine ⟨S0, _, hF, rfl, ok4, _, rfl, _, rfl, _, rfl, S0, L, ls, ts, 9000000, hF, rfl, SqL.of hL, hls, by decide, len9, by omega, G.less ok4 (by rw [tl]; omega), fun vt H5 x5 ok5 dt => ?_⟩
  refine ⟨8999990, "book", .int (n : Int), topT ts, _, _, rfl, by decide +kernel, G.less ok5 (by omega), G.int _ ok5, dt, fun hv H6 x6 ok6 dh => ?_⟩
  have hK6 := hK.ext G (x5.trans x6)
  have x46 := x5.trans x6
  refine ⟨_, rfl, _, rfl, _, _, rfl, rfl, (by show (0 : Int) < (n : Int); omega), _, rfl, _, 7, rfl, rfl, ⟨by decide, by decide⟩, _, rfl, _, _, rfl, rfl, (by show (0 : Int) < (n : Int); omega), _, _, rfl, rfl, ?_⟩
  refine ⟨.int (pl : Int), .int (o : Int), by show [V.int (c % (n : Int)), V.int (1 + c / 7 % (n : Int))] = _; rw [epl, eo], ?_⟩
  have bk : (Tm.sl "book" (.int (n : Int)) (topT ts)).dep ≤ 60 := by show max 0 (topT ts).dep + 1 ≤ 60; have := tdT.2; omega
  -- the head
  refine ⟨_, rfl, p, dx, _, rfl, x46.ins hp, kno "head", S0, p, 2, t, b, v, es, none, 8990000, hF, rfl, hK6.kp, G.less ok6 (by omega), fun k hc u H7 x7 ok7 du => ?_, fun z => by rw [cn] at z; cases z⟩
  rw [cn] at hc
  cases hc
  rw [tk_all] at du
  obtain ⟨d1, a1, a2, a3, a4⟩ := eq_tm G du (G.mono x7.gr dh) bk
  refine ⟨_, rfl, d1, d1, a1, a2, a3, a3, _, rfl, ?_⟩
  rw [a4]
  refine iteF ?_
  have hK7 := hK6.ext G x7
  have x47 := x46.trans x7
  refine ⟨_, rfl, p, dx, _, rfl, x47.ins hp, kno "size", S0, p, 2, t, b, v, es, hF, rfl, hK7.kp, _, rfl, rfl, _, rfl, ?_⟩
  rw [esl, decide_eq_true rfl]
  refine iteF ?_
  -- the path
  refine ⟨_, rfl, p, dx, _, rfl, x47.ins hp, kno "path", _, rfl, S0, p, 2, t, b, v, es, (pl : Int), none, 8980000, hF, rfl, hK7.kp, G.less ok7 (by omega), fun k m hc hm hmk pp ps H8 x8 npp hpp ok8 dpp => ?_, fun z => absurd ⟨n, cn, Int.natCast_nonneg _, by omega⟩ z⟩
  rw [cn] at hc
  cases hc
  have em : m = pl := by omega
  rw [tk_all, em] at dpp
  have hK8 := hK7.ext G x8
  have x48 := x47.trans x8
  refine ⟨_, rfl, _, rfl, _, rfl, S0, L, ls, ts, pl, 8970000, hF, rfl, SqL.of (x48.lst hL), hls.mono G x48.gr, by decide, len9, by omega, by omega, G.less ok8 (by rw [tl]; omega), fun pp2 ps2 H9 x9 npp2 hpp2 ok9 dpp2 => ?_⟩
  obtain ⟨d2, b1, b2, b3, b4⟩ := eq_rows G (SqL.of (x9.lst hpp)) (SqL.of hpp2) (dpp.mono G x9.gr) dpp2 (fun t ht => Nat.le_trans (tdP t ht).2 (by decide))
  refine ⟨d2, d2, b1, b2, b3, b3, _, rfl, ?_⟩
  rw [b4]
  refine iteF ?_
  have hK9 := hK8.ext G x9
  have x49 := x48.trans x9
  -- the growth
  refine ⟨_, rfl, p, dx, _, rfl, x49.ins hp, kno "growth", _, rfl, S0, p, 2, t, b, v, es, (o : Int), none, 8960000, hF, rfl, hK9.kp, G.less ok9 (by omega), fun k m hc hm hmk gp gs Ha xa ngp hgp oka dgp => ?_, fun z => absurd ⟨n, cn, Int.natCast_nonneg _, by omega⟩ z⟩
  rw [cn] at hc
  cases hc
  have em2 : m = o := by omega
  rw [tk_all, em2] at dgp
  have hKa := hK9.ext G xa
  have x4a := x49.trans xa
  refine ⟨_, rfl, _, rfl, _, rfl, S0, L, ls, ts, o, 8950000, hF, rfl, SqL.of (x4a.lst hL), hls.mono G x4a.gr, by decide, len9, by omega, by omega, by omega, G.less oka (by rw [tl]; omega), fun gp2 gs2 Hb xb ngp2 hgp2 okb dgp2 => ?_⟩
  obtain ⟨d3, c1, c2, c3, c4⟩ := eq_rows G (SqL.of (xb.lst hgp)) (SqL.of hgp2) (dgp.mono G xb.gr) dgp2 (fun t ht => Nat.le_trans (tdG t ht).2 (by decide))
  refine ⟨d3, d3, c1, c2, c3, c3, _, rfl, ?_⟩
  rw [c4]
  refine iteF ?_
  have hKb := hKa.ext G xb
  have x4b := x4a.trans xb
  clear hK hK6 hK7 hK8 hK9 hKa
  have hpin : 0 ≤ (pl : Int) ∧ (pl : Int) < (es.length : Int) := ⟨Int.natCast_nonneg _, by omega⟩
  have dhb := G.mono ((((x7.trans x8).trans x9).trans xa).trans xb).gr dh
  -- a claim of the place
  refine ⟨_, rfl, _, rfl, p, dx, _, rfl, x4b.ins hp, kno "text", _, rfl, S0, p, 2, t, b, v, es, (pl : Int), hF, rfl, hKb.kp, fun m e' hm he' => ?_, fun z => absurd hpin z⟩
  rw [show m = pl by omega, hee] at he'
  cases he'
  refine ⟨_, rfl, p, dx, _, rfl, x4b.ins hp, kno "table_head", _, rfl, S0, p, 2, t, b, v, es, (pl : Int), 8900000, hF, rfl, hKb.kp, G.less okb (by omega), fun m e' hm he' u Hc xc okc du => ?_, fun z => absurd hpin z⟩
  rw [show m = pl by omega, hee] at he'
  cases he'
  refine fun sp sx nsp nsx nse => ?_
  have ys : Ext Hc (upd (upd Hc sx (.own sp)) sp (.ins CS sx [])) := (Ext.new nsx).trans (Ext.new (by rw [upd_ne nse.symm]; exact nsp))
  have kys : Kp Hc (upd (upd Hc sx (.own sp)) sp (.ins CS sx [])) := (Kp.new nsx).trans (Kp.new (by rw [upd_ne nse.symm]; exact nsp))
  refine ⟨sp, sx, (pl : Int), .str (S e.1), u, rfl, upd_same, fun Hd xod kd hsp => ⟨rfl, ?_⟩⟩
  have xd : Ext Hc Hd := xod.ext ys nsp
  have okd := G.keep (kys.trans kd) okc
  have hKd := hKb.ext G (xc.trans xd)
  have x4d := (x4b.trans xc).trans xd
  -- a claim of the growth
  refine ⟨_, rfl, S0, _, hF, rfl, okd, _, rfl, _, rfl, _, rfl, _, rfl, (o : Int), rfl, L, ls, rfl, SqL.of (x4d.lst hL), fun qo nqo => ?_⟩
  rw [cut_to]
  have x5' := Ext.new (o := .lst (ls.take o)) nqo
  refine ⟨S0, qo, _, ts.take o, 8800000, hF, rfl, SqL.of upd_same, (((hls.mono G x4d.gr).mono G x5'.gr).take o), by decide, by rw [List.length_take]; omega, by rw [List.length_take]; omega, ?_, fun vo He xe oke dvo => ?_⟩
  · have := costT_le (ts.take o).length
    have l2 : (ts.take o).length ≤ n := by rw [List.length_take]; omega
    exact G.less (G.keep (Kp.new nqo) okd) (by omega)
  refine ⟨8700000, "book", .int (o : Int), topT (ts.take o), _, _, rfl, by decide +kernel, G.less oke (by omega), G.int _ oke, dvo, fun bv Hf xf okf dbv => ?_⟩
  refine fun gp3 gx ngp3 ngx nge => ?_
  have yg : Ext Hf (upd (upd Hf gx (.own gp3)) gp3 (.ins CG gx [])) := (Ext.new ngx).trans (Ext.new (by rw [upd_ne nge.symm]; exact ngp3))
  have kyg : Kp Hf (upd (upd Hf gx (.own gp3)) gp3 (.ins CG gx [])) := (Kp.new ngx).trans (Kp.new (by rw [upd_ne nge.symm]; exact ngp3))
  refine ⟨gp3, gx, (o : Int), bv, rfl, upd_same, fun Hg xog kg hgp3 => ⟨rfl, ?_⟩⟩
  have xg : Ext Hf Hg := xog.ext yg ngp3
  have okg := G.keep (kyg.trans kg) okf
  have xdg := ((x5'.trans xe).trans xf).trans xg
  have hKg := hKd.ext G xdg
  have x4g := x4d.trans xdg
  have hspg := xdg.ins hsp
  have dug := G.mono (xd.trans xdg).gr du
  have dhg := G.mono ((xc.trans xd).trans xdg).gr dhb
  have dbg := G.mono xg.gr dbv
  have papP : pathT ts pl = pathT ts pl ∧ (pathT ts pl).length ≤ 100 := ⟨rfl, by rw [pathT_len]; have := plen_le 9 pl ts.length len9; omega⟩
  have papG : (growT ts o).length ≤ 100 := by have := growT_len 9 ts o len9; omega
  have j1 : judgeS (pl : Int) (.sl "leaf" (.str (S e.1)) (headT 2 e.2)) n (.sl "book" (.int (n : Int)) (topT ts)) (some (pathT ts pl)) = true := by
    have := judgeS_own (ts := ts) (p := pl) (by omega)
    rw [tpl, tl] at this
    exact this
  have j2 : judgeG (o : Int) n (.sl "book" (.int (o : Int)) (topT (ts.take o))) (.sl "book" (.int (n : Int)) (topT ts)) (some (growT ts o)) = true := by
    have := judgeG_own (ts := ts) (o := o) ho1 (by omega)
    rw [tl] at this
    exact this
  have hd2 : (headT 2 e.2).dep ≤ 18 := by have := leafT_dep 2 e; show max 0 _ + 1 ≤ 18; have h3 := partT_dep 2 (srtI e.2); omega
  have hw2 : WS (headT 2 e.2) := .tab _ (partT_ws _ _)
  have tdo := tdU (ts.take o) (fun t ht => List.mem_of_mem_take ht) (by rw [List.length_take]; omega)
  -- judged
  refine ⟨_, rfl, sp, sx, _, rfl, hspg, (stF_no _ _ _).1, _, rfl, _, rfl, _, rfl, _, rfl, p, dx, _, rfl, x4g.ins hp, kno "path", _, rfl, S0, p, 2, t, b, v, es, (pl : Int), none, 8600000, hF, rfl, hKg.kp, G.less okg (by omega), fun k m hc hm hmk pp3 ps3 Hh xh npp3 hpp3 okh dpp3 => ?_, fun z => absurd ⟨n, cn, Int.natCast_nonneg _, by omega⟩ z⟩
  rw [cn] at hc
  cases hc
  rw [tk_all, show m = pl by omega] at dpp3
  refine ⟨S0, sp, sx, (pl : Int), S e.1, .str (S e.1), u, headT 2 e.2, n, (n : Int), topT ts, hv, .ref pp3, some (pathT ts pl), 8500000, hF, rfl, xh.ins hspg, G.str _ okh etx, G.mono xh.gr dug, hw2, hd2, by omega, G.mono xh.gr dhg, tdT.1, Nat.le_trans tdT.2 (by decide), .inl ⟨pp3, ps3, rfl, hpp3, dpp3, papP.2, fun t ht => ⟨(tdP t ht).1, Nat.le_trans (tdP t ht).2 (by decide)⟩⟩, G.less okh (by omega), fun Hi xi oki => ?_⟩
  rw [j1]
  refine ⟨by show 1 ≤ sizeLine; decide, fun SL nSL => ?_⟩
  have xj := Ext.new (o := .lst [.bl true]) nSL
  have xgj := (xh.trans xi).trans xj
  have hKj := hKg.ext G xgj
  have okj := G.keep (Kp.new (o := .lst [.bl true]) nSL) oki
  have hSL : upd Hi SL (.lst [.bl true]) SL = some (.lst [.bl true]) := upd_same
  have nSLg := (xh.trans xi).free nSL
  generalize upd Hi SL (.lst [.bl true]) = Hj at xj xgj hKj okj hSL ⊢
  refine ⟨_, rfl, .inl ⟨rfl, _, SqL.of hSL⟩, _, rfl, gp3, gx, _, rfl, xgj.ins hgp3, (grF_no _ _).1, _, rfl, _, rfl, _, rfl, _, rfl, p, dx, _, rfl, (x4g.trans xgj).ins hp, kno "growth", _, rfl, S0, p, 2, t, b, v, es, (o : Int), none, 8400000, hF, rfl, hKj.kp, G.less okj (by omega), fun k m hc hm hmk gp4 gs4 Hk xk ngp4 hgp4 okk dgp4 => ?_, fun z => absurd ⟨n, cn, Int.natCast_nonneg _, by omega⟩ z⟩
  rw [cn] at hc
  cases hc
  rw [tk_all, show m = o by omega] at dgp4
  have xgk := xgj.trans xk
  refine ⟨S0, gp3, gx, (o : Int), bv, _, n, _, hv, .ref gp4, some (growT ts o), 8300000, hF, rfl, xgk.ins hgp3, G.mono xgk.gr dbg, ⟨_, _, rfl, tdo.1, Nat.le_trans tdo.2 (by decide)⟩, by omega, G.mono xgk.gr dhg, ⟨_, _, rfl, tdT.1, Nat.le_trans tdT.2 (by decide)⟩, .inl ⟨gp4, gs4, rfl, hgp4, dgp4, papG, fun t ht => ⟨(tdG t ht).1, Nat.le_trans (tdG t ht).2 (by decide)⟩⟩, G.less okk (by omega), fun Hl xl okl => ?_⟩
  rw [j2]
  have hSLl := (xk.trans xl).lst hSL
  refine ⟨SL, [.bl true], .bl true, rfl, rfl, hSLl, by show 1 < sizeLine; decide, ?_⟩
  have xm := (xgj.trans (xk.trans xl)).mut (o := .lst ([.bl true] ++ [.bl true])) nSLg
  have okm := G.keep (Kp.lst (o := .lst ([.bl true] ++ [.bl true])) hSLl) okl
  have hSLm : upd Hl SL (.lst ([.bl true] ++ [.bl true])) SL = some (.lst [.bl true, .bl true]) := upd_same
  generalize upd Hl SL (.lst ([.bl true] ++ [.bl true])) = Hm at xm okm hSLm ⊢
  have hKm := hKg.ext G xm
  have x4m := x4g.trans xm
  refine ⟨_, rfl, by show 2 ≤ sizeLine; decide, fun e0 he0 => ?_⟩
  have xn := Ext.new (o := .lst [.bl true, .bl true]) he0
  have hKn := hKm.ext G xn
  have x4n := x4m.trans xn
  have okn := G.keep (Kp.new (o := .lst [.bl true, .bl true]) he0) okm
  refine ⟨.list [.bool true, .bool true], .list [.bool true, .bool true], .lst (SqL.of (xn.lst hSLm)) (.cons (.bl true) (.cons (.bl true) .nil)), .lst (SqL.of upd_same) (.cons (.bl true) (.cons (.bl true) .nil)), by decide +kernel, by decide +kernel, _, rfl, ?_⟩
  rw [show PyData.eqv (.list [.bool true, .bool true]) (.list [.bool true, .bool true]) = true by decide +kernel]
  refine iteF ?_
  generalize upd Hm e0 (.lst [.bl true, .bl true]) = Hn at hKn x4n okn ⊢
  -- an old head
  refine ⟨_, rfl, p, dx, _, rfl, x4n.ins hp, kno "head", _, rfl, S0, p, 2, t, b, v, es, some (o : Int), 8200000, hF, rfl, hKn.kp, G.less okn (by omega), fun k hc uo Ho xo oko duo => ?_, fun z => by rw [co] at z; cases z⟩
  rw [co] at hc
  cases hc
  rw [tk_o] at duo
  have hKo := hKn.ext G xo
  have x4o := x4n.trans xo
  refine ⟨S0, _, hF, rfl, oko, _, rfl, _, rfl, _, rfl, _, rfl, (o : Int), rfl, L, ls, rfl, SqL.of (x4o.lst hL), fun qp nqp => ?_⟩
  rw [cut_to]
  have xp := Ext.new (o := .lst (ls.take o)) nqp
  refine ⟨S0, qp, _, ts.take o, 8100000, hF, rfl, SqL.of upd_same, (((hls.mono G x4o.gr).mono G xp.gr).take o), by decide, by rw [List.length_take]; omega, by rw [List.length_take]; omega, ?_, fun vq Hq xq okq dvq => ?_⟩
  · have := costT_le (ts.take o).length
    have l2 : (ts.take o).length ≤ n := by rw [List.length_take]; omega
    exact G.less (G.keep (Kp.new nqp) oko) (by omega)
  refine ⟨8000000, "book", .int (o : Int), topT (ts.take o), _, _, rfl, by decide +kernel, G.less okq (by omega), G.int _ okq, dvq, fun br Hr xr okr dbr => ?_⟩
  have xor := (xp.trans xq).trans xr
  obtain ⟨d9, i1, i2, i3, i4⟩ := eq_tm G (G.mono xor.gr duo) dbr (by show max 0 _ + 1 ≤ 60; have := tdo.2; omega)
  refine ⟨d9, d9, i1, i2, i3, i3, ?_⟩
  rw [i4]
  exact q _ (hKo.ext G xor).tab
end

/-! ### own papers of another form -/
/-- what is data, and stays so -/
def DatE (K : PySem.W.Frag) (H : Hp) (v : V) : Prop := OddD K H v fun d => d.depth ≤ 40
section
variable {K : PySem.W.Frag} {H : Hp}
theorem dp_len : ∀ {vs : List V} {ds : List PyData}, DpAll K H vs ds → vs.length = ds.length
  | _, _, .nil => rfl
  | _, _, .cons _ h => by rw [List.length_cons, List.length_cons, dp_len h]
theorem dat_all : ∀ {vs : List V}, (∀ v ∈ vs, DatE K H v) → ∀ H', Ext H H' → ∃ ds, DpAll K H' vs ds ∧ PyData.canLayAll0 ds = true ∧ PyData.depthAll ds ≤ 40
  | [], _, _, _ => ⟨[], .nil, rfl, Nat.zero_le _⟩
  | v :: vs, h, H', x => by
    obtain ⟨d, a1, a2, _, a4⟩ := h v List.mem_cons_self H' x
    obtain ⟨ds, b1, b2, b3⟩ := dat_all (vs := vs) (fun u hu => h u (List.mem_cons_of_mem _ hu)) H' x
    refine ⟨d :: ds, .cons a1 b1, ?_, ?_⟩
    · rw [PyData.canLayAll0, a2, b2]
      rfl
    · show max d.depth (PyData.depthAll ds) ≤ 40
      exact Nat.max_le.mpr ⟨a4, b3⟩
theorem odd_tl {a : Addr} {vs : List V} {P : PyData → Prop} (h : H a = some (.tup vs)) (D : ∀ v ∈ vs, DatE K H v) (hP : ∀ ds, ds.length = vs.length → P (.tuple ds)) : OddD K H (.ref a) P := fun H' x => by
  obtain ⟨ds, a1, a2, a3⟩ := dat_all D H' x
  exact ⟨.tuple ds, .tup (SqT.of (x.tup h)) a1, a2, by show PyData.depthAll ds + 1 ≤ 50; omega, hP ds (dp_len a1).symm⟩
theorem odd_ll {a : Addr} {vs : List V} {P : PyData → Prop} (h : H a = some (.lst vs)) (D : ∀ v ∈ vs, DatE K H v) (hP : ∀ ds, ds.length = vs.length → P (.list ds)) : OddD K H (.ref a) P := fun H' x => by
  obtain ⟨ds, a1, a2, a3⟩ := dat_all D H' x
  exact ⟨.list ds, .lst (SqL.of (x.lst h)) a1, a2, by show PyData.depthAll ds + 1 ≤ 50; omega, hP ds (dp_len a1).symm⟩
theorem datE_str {x : Str} (h : txtOk x = true) : DatE K H (.str x) := fun H' _ => ⟨.str x, .str x, h, Nat.zero_le _, Nat.zero_le _⟩
theorem datE_int (i : Int) : DatE K H (.int i) := fun H' _ => ⟨.int i, .int i, rfl, Nat.zero_le _, Nat.zero_le _⟩
theorem datE_non : DatE K H .non := fun H' _ => ⟨.none, .non, rfl, Nat.zero_le _, Nat.zero_le _⟩
theorem not_lst {a : Addr} {vs : List V} (h : H a = some (.lst vs)) : NoT K H (.ref a) "tuple" := fun H' x => ⟨.type "list", .base (.lst (x.lst h)), kit_ty (by decide +kernel)⟩
theorem not_tup {a : Addr} {vs : List V} (h : H a = some (.tup vs)) : NoT K H (.ref a) "list" := fun H' x => ⟨.type "tuple", .base (.tup (x.tup h)), kit_ty (by decide +kernel)⟩
theorem not_non (T : String) (hT : T = "tuple" ∨ T = "list") : NoT K H .non T := fun H' x => by
  rcases hT with rfl | rfl
  · exact ⟨_, .base .non, kit_ty (by decide +kernel)⟩
  · exact ⟨_, .base .non, kit_ty (by decide +kernel)⟩
theorem not_int (i : Int) : NoT K H (.int i) "tuple" := fun H' x => ⟨.type "int", .base (.int _), kit_ty (by decide +kernel)⟩
theorem not_str (x : Str) : NoT K H (.str x) "tuple" := fun H' y => ⟨.type "str", .base (.str _), kit_ty (by decide +kernel)⟩
end
/-- what the own paper is, and the book -/
structure FS16 (l : Nat) (es : List En) (pl : Nat) (k : Int) (e : En) : Prop where
  get : es[pl]? = some e
  ok : ∀ e ∈ es, TbOk l e.2 ∧ txtOk (S e.1) = true
  sz : pl + 1 ≤ es.length ∧ 2 ≤ es.length ∧ es.length ≤ 38
  l3 : 1 ≤ l ∧ l ≤ 12
def psF (l : Nat) (es : List En) (pl : Nat) : List Tm := pathT ((es.map (leafT l)).take es.length) pl
theorem FS16.own {l : Nat} {es : List En} {pl : Nat} {k : Int} {e : En} (F : FS16 l es pl k e) : ownPap l es es.length pl k = some (S e.1, headT l e.2, some (psF l es pl), some ((wayT l (srtI e.2) k).1, some (wayT l (srtI e.2) k).2)) := by
  unfold ownPap
  rw [F.get]
  rfl
theorem FS16.tx {l : Nat} {es : List En} {pl : Nat} {k : Int} {e : En} (F : FS16 l es pl k e) : txtOk (S e.1) = true := (F.ok e (List.mem_of_getElem? F.get)).2
theorem FS16.hd {l : Nat} {es : List En} {pl : Nat} {k : Int} {e : En} (F : FS16 l es pl k e) : WS (headT l e.2) ∧ (headT l e.2).dep ≤ 14 := by
  refine ⟨.tab _ (partT_ws l _), ?_⟩
  have := partT_dep l (srtI e.2)
  have := F.l3.2
  show max 0 (partT l (srtI e.2)).dep + 1 ≤ 14
  omega
theorem plen_pos {p n : Nat} (h : 2 ≤ n) : plen p n ≠ 0 := by
  by_cases c : p < splitN n
  · rw [plen_low h c]; omega
  · rw [plen_high h c]; omega
theorem FS16.pth {l : Nat} {es : List En} {pl : Nat} {k : Int} {e : En} (F : FS16 l es pl k e) : (∀ t ∈ psF l es pl, WS t ∧ t.dep ≤ 28) ∧ (psF l es pl).length ≠ 0 ∧ (psF l es pl).length ≤ 6 := by
  have h3 := F.l3
  have hs := F.sz
  have ll : ((es.map (leafT l)).take es.length).length = es.length := by rw [List.length_take, List.length_map]; omega
  refine ⟨pathT_mem fun us hu hlu => ?_, ?_, ?_⟩
  · have hm : ∀ t ∈ us, WS t ∧ t.dep ≤ 15 := fun t ht => by
      obtain ⟨e, _, rfl⟩ := List.mem_map.mp (List.mem_of_mem_take (hu t ht))
      have := leafT_dep l e
      exact ⟨leafT_ws l e, by omega⟩
    refine ⟨topT_ws fun t ht => (hm t ht).1, ?_⟩
    have hlu' : us.length ≤ 2 ^ 6 := by show us.length ≤ 64; omega
    have := topT_dep (d := 15) 6 us hlu' fun t ht => (hm t ht).2
    omega
  · unfold psF
    rw [pathT_len, ll]
    exact plen_pos hs.2.1
  · unfold psF
    rw [pathT_len, ll]
    exact plen_le 6 pl es.length (by show es.length ≤ 64; omega)
theorem FS16.way {l : Nat} {es : List En} {pl : Nat} {k : Int} {e : En} (F : FS16 l es pl k e) : (∀ t ∈ (wayT l (srtI e.2) k).1, WS t ∧ t.dep ≤ 20) ∧ (wayT l (srtI e.2) k).1.length ≤ 12 := by
  have h3 := F.l3
  have := wayT_len l (srtI e.2) k
  exact ⟨fun t ht => ⟨wayT_ws l _ k t ht, by have := wayT_dep l (srtI e.2) k t ht; omega⟩, by omega⟩
/-- the own paper's parts on the heap, with the plain seal -/
structure FF16 (fS : Addr) (H : Hp) (l : Nat) (es : List En) (pl : Nat) (k : Int) (e : En) (q pq wq o : Addr) (tv ev : V) (ys zs : List V) : Prop where
  hq : H q = some (.tup [.str (S e.1), tv, .ref pq, .ref wq])
  hp : H pq = some (.lst ys)
  dp : DenL (plainSys tfP fS) H ys (psF l es pl)
  hw : H wq = some (.tup [.ref o, ev])
  ho : H o = some (.lst zs)
  dw : DenL (plainSys tfP fS) H zs (wayT l (srtI e.2) k).1
  he : EndV H ev (wayT l (srtI e.2) k).2
  dt : DenP tfP H tv (headT l e.2)
def BadV (K : PySem.W.Frag) (fS : Addr) (H : Hp) (own : PapM) (v : V) : Prop := ∃ pm, PapAt K (plainSys tfP fS) H v pm ∧ pm ≠ own
theorem BadV.ext {K : PySem.W.Frag} {fS : Addr} {H H' : Hp} {own : PapM} {v : V} (h : BadV K fS H own v) (x : Ext H H') : BadV K fS H' own v := by
  obtain ⟨pm, a, b⟩ := h
  exact ⟨pm, a.ext (goodP fS) x, b⟩
theorem cut_drop1 {xs : List V} (h : xs.length ≠ 0) : cutV xs none (some (-1)) = xs.take (xs.length - 1) := by
  unfold cutV
  rw [HT.sIx_none]
  have e1 := HT.clip_eq (-1) xs.length xs.length
  rw [if_pos (by decide)] at e1
  have e : HT.sIx xs.length xs.length (some (-1)) = xs.length - 1 := by omega
  rw [e, List.drop_zero, Nat.sub_zero]
section
variable {K : PySem.W.Frag} {fS : Addr} {H H' : Hp} {l : Nat} {es : List En} {pl : Nat} {k : Int} {e : En} {q pq wq o a b : Addr} {tv ev : V} {ys zs : List V}
theorem FF16.ext (K : PySem.W.Frag) (F : FF16 fS H l es pl k e q pq wq o tv ev ys zs) (x : Ext H H') : FF16 fS H' l es pl k e q pq wq o tv ev ys zs :=
  ⟨x.tup F.hq, x.lst F.hp, F.dp.mono (goodP (K := K) fS) x.gr, x.tup F.hw, x.lst F.ho, F.dw.mono (goodP (K := K) fS) x.gr, F.he.gr x.gr, F.dt.mono x.gr⟩
theorem dat_den {v : V} {t : Tm} (h : DenP tfP H v t) (hd : t.dep ≤ 30) : DatE K H v := fun H' x => by
  obtain ⟨a1, a2, a3⟩ := (h.mono x.gr).dp (K := K)
  exact ⟨_, a1, a2, by omega, by omega⟩
theorem dat_denl {vs : List V} {ts : List Tm} (h : DenL (plainSys tfP fS) H vs ts) (hd : ∀ t ∈ ts, t.dep ≤ 30) : ∀ v ∈ vs, DatE K H v := fun v hv => by
  obtain ⟨i, hi, rfl⟩ := List.mem_iff_getElem.mp hv
  have hl := h.len
  exact dat_den (h.at_ i _ _ (List.getElem?_eq_getElem hi) (List.getElem?_eq_getElem (by omega))) (hd _ (List.getElem_mem _))
theorem dat_end {rr : List (Int × Str)} (h : EndV H ev rr) : DatE K H ev := fun H' x => by
  rcases h with ⟨_, rfl⟩ | ⟨y, qe, _, rfl, g, t⟩
  · exact ⟨.none, .non, rfl, Nat.zero_le _, Nat.zero_le _⟩
  · refine ⟨.tuple [.int y.1, .str y.2], .tup (SqT.of (x.tup g)) (.cons (.int _) (.cons (.str _) .nil)), ?_, by show max 0 (max 0 0) + 1 ≤ 50; decide, by show max 0 (max 0 0) + 1 ≤ 40; decide⟩
    show (true && (txtOk y.2 && true)) = true
    rw [t]
    rfl
variable (F : FF16 fS H l es pl k e q pq wq o tv ev ys zs) (FS : FS16 l es pl k e)
include F FS
theorem FF16.d_tv : DatE K H tv := dat_den F.dt (by have := FS.hd.2; omega)
theorem FF16.d_pq : DatE K H (.ref pq) := fun H' x => by
  obtain ⟨ds, m1, _, m3, m4⟩ := DenL.same (K := K) (n := 28) (goodP fS) (F.dp.mono (goodP (K := K) fS) x.gr) (F.dp.mono (goodP (K := K) fS) x.gr) fun t ht => (FS.pth.1 t ht).2
  exact ⟨.list ds, .lst (SqL.of (x.lst F.hp)) m1, m3, by show PyData.depthAll ds + 1 ≤ 50; omega, by show PyData.depthAll ds + 1 ≤ 40; omega⟩
theorem FF16.d_zs : ∀ v ∈ zs, DatE K H v := dat_denl F.dw fun t ht => Nat.le_trans (FS.way.1 t ht).2 (by decide)
theorem FF16.d_ys : ∀ v ∈ ys, DatE K H v := dat_denl F.dp fun t ht => Nat.le_trans (FS.pth.1 t ht).2 (by decide)
theorem FF16.d_o : DatE K H (.ref o) := fun H' x => by
  obtain ⟨ds, m1, _, m3, m4⟩ := DenL.same (K := K) (n := 20) (goodP fS) (F.dw.mono (goodP (K := K) fS) x.gr) (F.dw.mono (goodP (K := K) fS) x.gr) fun t ht => (FS.way.1 t ht).2
  exact ⟨.list ds, .lst (SqL.of (x.lst F.ho)) m1, m3, by show PyData.depthAll ds + 1 ≤ 50; omega, by show PyData.depthAll ds + 1 ≤ 40; omega⟩
omit FS in
theorem FF16.d_ev : DatE K H ev := dat_end F.he
theorem FF16.d_wq : DatE K H (.ref wq) := fun H' x => by
  obtain ⟨ds, m1, _, m3, m4⟩ := DenL.same (K := K) (n := 20) (goodP fS) (F.dw.mono (goodP (K := K) fS) x.gr) (F.dw.mono (goodP (K := K) fS) x.gr) fun t ht => (FS.way.1 t ht).2
  have h3 : ∃ d, Dp K H' ev d ∧ d.canLay0 = true ∧ d.depth ≤ 1 := by
    rcases F.he with ⟨_, rfl⟩ | ⟨y, qe, _, rfl, g, t⟩
    · exact ⟨.none, .non, rfl, Nat.zero_le _⟩
    · refine ⟨.tuple [.int y.1, .str y.2], .tup (SqT.of (x.tup g)) (.cons (.int _) (.cons (.str _) .nil)), ?_, by show max 0 (max 0 0) + 1 ≤ 1; decide⟩
      show (true && (txtOk y.2 && true)) = true
      rw [t]
      rfl
  obtain ⟨d, n1, n2, n3⟩ := h3
  refine ⟨.tuple [.list ds, d], .tup (SqT.of (x.tup F.hw)) (.cons (.lst (SqL.of (x.lst F.ho)) m1) (.cons n1 .nil)), ?_, ?_, ?_⟩
  · show (PyData.canLayAll0 ds && (d.canLay0 && true)) = true
    rw [m3, n2]
    rfl
  · show max (PyData.depthAll ds + 1) (max d.depth 0) + 1 ≤ 50
    omega
  · show max (PyData.depthAll ds + 1) (max d.depth 0) + 1 ≤ 40
    omega
theorem FF16.pth : PathAt K (plainSys tfP fS) H (.ref pq) (some (psF l es pl)) :=
  ⟨⟨pq, ys, rfl, F.hp, F.dp, by have := FS.pth.2.2; omega, FS.pth.1⟩, fun z => nomatch z⟩
theorem FF16.way : WayAt K (plainSys tfP fS) H (.ref wq) (some ((wayT l (srtI e.2) k).1, some (wayT l (srtI e.2) k).2)) :=
  ⟨wq, o, ev, zs, rfl, F.hw, F.ho, F.dw, FS.way.1, by have := FS.way.2; omega, F.he⟩
/-- the own paper itself -/
theorem FF16.own : PapAt K (plainSys tfP fS) H (.ref q) (ownPap l es es.length pl k) := by
  rw [FS.own]
  exact ⟨q, _, tv, .ref pq, .ref wq, rfl, F.hq, .str _ FS.tx, F.dt, FS.hd.1, by have := FS.hd.2; omega, F.pth FS, F.way FS⟩
/-- a paper that is none -/
theorem FF16.bad0 {v : V} (h1 : NoT K H v "tuple" ∨ ∃ q ys, v = .ref q ∧ H q = some (.tup ys) ∧ ys.length ≠ 4) (h2 : OddD K H v fun d => ∀ a b c e, d ≠ .tuple [a, b, c, e]) : BadV K fS H (ownPap l es es.length pl k) v :=
  ⟨Option.none, ⟨h1, h2⟩, by rw [FS.own]; exact fun z => nomatch z⟩
theorem FF16.some' {nq : Addr} {xv tv' pv wv : V} {x : Str} {tt : Tm} {path : Option (List Tm)} {way : WayM} (h : H nq = some (.tup [xv, tv', pv, wv])) (dx : DenP tfP H xv (.str x)) (dt : DenP tfP H tv' tt) (ht : WS tt ∧ tt.dep ≤ 18) (hp : PathAt K (plainSys tfP fS) H pv path) (hw : WayAt K (plainSys tfP fS) H wv way)
    (ne : x ≠ S e.1 ∨ tt ≠ headT l e.2 ∨ path ≠ some (psF l es pl) ∨ way ≠ some ((wayT l (srtI e.2) k).1, some (wayT l (srtI e.2) k).2)) : BadV K fS H (ownPap l es es.length pl k) (.ref nq) := by
  refine ⟨some (x, tt, path, way), ⟨nq, xv, tv', pv, wv, rfl, h, dx, dt, ht.1, ht.2, hp, hw⟩, ?_⟩
  rw [FS.own]
  intro z
  have z1 := Option.some.inj z
  have a1 := (Prod.ext_iff.mp z1).1
  have z2 := (Prod.ext_iff.mp z1).2
  have a2 := (Prod.ext_iff.mp z2).1
  have z3 := (Prod.ext_iff.mp z2).2
  have a3 := (Prod.ext_iff.mp z3).1
  have a4 := (Prod.ext_iff.mp z3).2
  rcases ne with n | n | n | n
  · exact n a1
  · exact n a2
  · exact n a3
  · exact n a4
theorem FF16.ht : WS (headT l e.2) ∧ (headT l e.2).dep ≤ 18 := ⟨FS.hd.1, Nat.le_trans FS.hd.2 (by decide)⟩
theorem FF16.dx : DenP tfP H (.str (S e.1)) (.str (S e.1)) := .str _ FS.tx
/-! papers that are none -/
theorem FF16.b_non : BadV K fS H (ownPap l es es.length pl k) .non := F.bad0 FS (.inl (not_non _ (.inl rfl))) fun H' _ => ⟨.none, .non, rfl, Nat.zero_le _, fun _ _ _ _ z => nomatch z⟩
theorem FF16.b_int (i : Int) : BadV K fS H (ownPap l es es.length pl k) (.int i) := F.bad0 FS (.inl (not_int i)) fun H' _ => ⟨.int i, .int i, rfl, Nat.zero_le _, fun _ _ _ _ z => nomatch z⟩
theorem FF16.b_str {x : Str} (h : txtOk x = true) : BadV K fS H (ownPap l es es.length pl k) (.str x) := F.bad0 FS (.inl (not_str x)) fun H' _ => ⟨.str x, .str x, h, Nat.zero_le _, fun _ _ _ _ z => nomatch z⟩
theorem FF16.b_lst {vs : List V} (h : H a = some (.lst vs)) (D : ∀ v ∈ vs, DatE K H v) : BadV K fS H (ownPap l es es.length pl k) (.ref a) := F.bad0 FS (.inl (not_lst h)) (odd_ll h D fun _ _ _ _ _ _ z => nomatch z)
theorem FF16.b_tup {vs : List V} (h : H a = some (.tup vs)) (D : ∀ v ∈ vs, DatE K H v) (n : vs.length ≠ 4) : BadV K fS H (ownPap l es es.length pl k) (.ref a) :=
  F.bad0 FS (.inr ⟨a, vs, rfl, h, n⟩) (odd_tl h D fun ds hl _ _ _ _ z => n (by rw [← hl, PyData.tuple.inj z]; rfl))
theorem FF16.d4 : ∀ v ∈ [.str (S e.1), tv, .ref pq, .ref wq], DatE K H v := fun v hv => by
  rcases List.mem_cons.mp hv with rfl | hv
  · exact datE_str FS.tx
  rcases List.mem_cons.mp hv with rfl | hv
  · exact F.d_tv FS
  rcases List.mem_cons.mp hv with rfl | hv
  · exact F.d_pq FS
  rcases List.mem_cons.mp hv with rfl | hv
  · exact F.d_wq FS
  cases hv
/-! another text, another head -/
theorem FF16.b_tx {x : Str} (h : H a = some (.tup [.str x, tv, .ref pq, .ref wq])) (hx : txtOk x = true) (n : x ≠ S e.1) : BadV K fS H (ownPap l es es.length pl k) (.ref a) :=
  F.some' FS h (.str x hx) F.dt (F.ht FS) (F.pth FS) (F.way FS) (.inl n)
theorem FF16.b_tx0 (h : H a = some (.tup [.non, tv, .ref pq, .ref wq])) : BadV K fS H (ownPap l es es.length pl k) (.ref a) :=
  F.some' FS h .non F.dt (F.ht FS) (F.pth FS) (F.way FS) (.inl fun z => by have := FS.tx; rw [← z, badX_no] at this; cases this)
theorem FF16.b_tv0 (h : H a = some (.tup [.str (S e.1), .non, .ref pq, .ref wq])) : BadV K fS H (ownPap l es es.length pl k) (.ref a) :=
  F.some' FS h (F.dx FS) .non ⟨.str _, Nat.zero_le _⟩ (F.pth FS) (F.way FS) (.inr (.inl fun z => nomatch z))
/-! another path -/
theorem FF16.b_path {v : V} {p : Option (List Tm)} (h : H a = some (.tup [.str (S e.1), tv, v, .ref wq])) (hp : PathAt K (plainSys tfP fS) H v p) (n : p ≠ some (psF l es pl)) : BadV K fS H (ownPap l es es.length pl k) (.ref a) :=
  F.some' FS h (F.dx FS) F.dt (F.ht FS) hp (F.way FS) (.inr (.inr (.inl n)))
omit F FS in
theorem path_odd {v : V} (h : NoT K H v "list") (h2 : OddD K H v fun d => ∀ a, d ≠ .list a) : PathAt K (plainSys tfP fS) H v Option.none := by
  refine ⟨fun H' x => ⟨h H' x, ?_⟩, fun _ => h2⟩
  obtain ⟨d, a1, a2, a3, a4⟩ := h2 H' x
  refine ⟨d, a1, shaped_of a2 (by omega), ?_⟩
  cases d <;> first | rfl | exact absurd rfl (a4 _)
omit F FS in
theorem path_tup {vs : List V} (h : H a = some (.tup vs)) (D : ∀ v ∈ vs, DatE K H v) : PathAt K (plainSys tfP fS) H (.ref a) Option.none := path_odd (not_tup h) (odd_tl h D fun _ _ _ z => nomatch z)
omit F FS in
theorem path_non : PathAt K (plainSys tfP fS) H .non Option.none := path_odd (not_non _ (.inr rfl)) fun H' _ => ⟨.none, .non, rfl, Nat.zero_le _, fun _ z => nomatch z⟩
theorem FF16.path_more (h : H a = some (.lst (ys ++ ys.take 1))) : PathAt K (plainSys tfP fS) H (.ref a) (some (psF l es pl ++ (psF l es pl).take 1)) := by
  refine ⟨⟨a, _, rfl, h, F.dp.append (F.dp.take 1), ?_, fun t ht => ?_⟩, fun z => nomatch z⟩
  · rw [List.length_append, List.length_take]
    have := FS.pth.2.2
    omega
  · rcases List.mem_append.mp ht with ht | ht
    · exact FS.pth.1 t ht
    · exact FS.pth.1 t (List.mem_of_mem_take ht)
theorem FF16.path_less (h : H a = some (.lst (cutV ys none (some (-1))))) : PathAt K (plainSys tfP fS) H (.ref a) (some ((psF l es pl).take ((psF l es pl).length - 1))) := by
  have hl := F.dp.len
  have h0 := FS.pth.2.1
  rw [cut_drop1 (by omega), hl] at h
  refine ⟨⟨a, _, rfl, h, F.dp.take _, ?_, fun t ht => FS.pth.1 t (List.mem_of_mem_take ht)⟩, fun z => nomatch z⟩
  rw [List.length_take]
  have := FS.pth.2.2
  omega
omit F in
theorem FS16.ne_more : some (psF l es pl ++ (psF l es pl).take 1) ≠ some (psF l es pl) := fun z => by
  have h0 := FS.pth.2.1
  have := congrArg List.length (Option.some.inj z)
  rw [List.length_append, List.length_take] at this
  omega
omit F in
theorem FS16.ne_less : some ((psF l es pl).take ((psF l es pl).length - 1)) ≠ some (psF l es pl) := fun z => by
  have h0 := FS.pth.2.1
  have := congrArg List.length (Option.some.inj z)
  rw [List.length_take] at this
  omega
/-! another way -/
theorem FF16.b_way {v : V} {wm : WayM} (h : H a = some (.tup [.str (S e.1), tv, .ref pq, v])) (hw : WayAt K (plainSys tfP fS) H v wm) (n : wm ≠ some ((wayT l (srtI e.2) k).1, some (wayT l (srtI e.2) k).2)) : BadV K fS H (ownPap l es es.length pl k) (.ref a) :=
  F.some' FS h (F.dx FS) F.dt (F.ht FS) (F.pth FS) hw (.inr (.inr (.inr n)))
omit F FS in
theorem way_non : WayAt K (plainSys tfP fS) H .non Option.none := ⟨.inl (not_non _ (.inl rfl)), fun H' _ => ⟨.none, .non, rfl, Nat.zero_le _, fun _ _ z => nomatch z⟩⟩
omit F FS in
theorem way_lst {vs : List V} (h : H a = some (.lst vs)) (D : ∀ v ∈ vs, DatE K H v) : WayAt K (plainSys tfP fS) H (.ref a) Option.none := ⟨.inl (not_lst h), odd_ll h D fun _ _ _ _ z => nomatch z⟩
omit F FS in
theorem way_tup {vs : List V} (h : H a = some (.tup vs)) (D : ∀ v ∈ vs, DatE K H v) (n : vs.length ≠ 2) : WayAt K (plainSys tfP fS) H (.ref a) Option.none :=
  ⟨.inr ⟨a, vs, rfl, h, .inl n⟩, odd_tl h D fun ds hl _ _ z => n (by rw [← hl, PyData.tuple.inj z]; rfl)⟩
omit F FS in
theorem way_two {u w : V} (h : H a = some (.tup [u, w])) (hn : NoT K H u "list") (hu : OddD K H u fun d => d.depth ≤ 40 ∧ ∀ a, d ≠ .list a) (hw : DatE K H w) : WayAt K (plainSys tfP fS) H (.ref a) Option.none := by
  refine ⟨.inr ⟨a, _, rfl, h, .inr ⟨u, w, rfl, hn⟩⟩, fun H' x => ?_⟩
  obtain ⟨d, a1, a2, _, a4, a5⟩ := hu H' x
  obtain ⟨d', b1, b2, _, b4⟩ := hw H' x
  refine ⟨.tuple [d, d'], .tup (SqT.of (x.tup h)) (.cons a1 (.cons b1 .nil)), ?_, ?_, fun a b z => a5 a (List.cons.inj (PyData.tuple.inj z)).1⟩
  · show (d.canLay0 && (d'.canLay0 && true)) = true
    rw [a2, b2]
    rfl
  · show max d.depth (max d'.depth 0) + 1 ≤ 50
    omega
omit F FS in
theorem odd_non2 : OddD K H .non fun d => d.depth ≤ 40 ∧ ∀ a, d ≠ .list a := fun H' _ => ⟨.none, .non, rfl, Nat.zero_le _, Nat.zero_le _, fun _ z => nomatch z⟩
theorem FF16.odd_zs (h : H a = some (.tup zs)) : OddD K H (.ref a) fun d => d.depth ≤ 40 ∧ ∀ a, d ≠ .list a := fun H' x => by
  obtain ⟨ds, m1, _, m3, m4⟩ := DenL.same (K := K) (n := 20) (goodP fS) (F.dw.mono (goodP (K := K) fS) x.gr) (F.dw.mono (goodP (K := K) fS) x.gr) fun t ht => (FS.way.1 t ht).2
  exact ⟨.tuple ds, .tup (SqT.of (x.tup h)) m1, m3, by show PyData.depthAll ds + 1 ≤ 50; omega, by show PyData.depthAll ds + 1 ≤ 40; omega, fun _ z => nomatch z⟩
theorem FF16.way_more {m : Nat} (hm : m ≤ 4) (h : H a = some (.tup [.ref b, ev])) (hb : H b = some (.lst (zs ++ List.replicate m tv))) : WayAt K (plainSys tfP fS) H (.ref a) (some ((wayT l (srtI e.2) k).1 ++ List.replicate m (headT l e.2), some (wayT l (srtI e.2) k).2)) := by
  have drep : ∀ m : Nat, DenL (plainSys tfP fS) H (List.replicate m tv) (List.replicate m (headT l e.2)) := fun m => by
    induction m with
    | zero => exact DenL.nil
    | succ m ih => exact DenL.cons F.dt ih
  refine ⟨a, b, ev, _, rfl, h, hb, F.dw.append (drep m), fun t ht => ?_, ?_, F.he⟩
  · rcases List.mem_append.mp ht with ht | ht
    · exact FS.way.1 t ht
    · rw [List.eq_of_mem_replicate ht]
      exact ⟨FS.hd.1, Nat.le_trans FS.hd.2 (by decide)⟩
  · rw [List.length_append, List.length_replicate]
    have := FS.way.2
    omega
omit F FS in
theorem way_ne {os os' : List Tm} {x y : EndM} (h : os.length ≠ os'.length) : (some (os, x) : WayM) ≠ some (os', y) := fun z => h (congrArg List.length (Prod.ext_iff.mp (Option.some.inj z)).1)
/-- another end -/
theorem FF16.way_end {v : V} (h : H a = some (.tup [.ref o, v])) (hv : EndAt K H v Option.none) : WayAt K (plainSys tfP fS) H (.ref a) (some ((wayT l (srtI e.2) k).1, Option.none)) :=
  ⟨a, o, v, zs, rfl, h, F.ho, F.dw, FS.way.1, by have := FS.way.2; omega, hv⟩
omit F FS in
theorem end_lst {vs : List V} (h : H a = some (.lst vs)) (D : ∀ v ∈ vs, DatE K H v) : EndAt K H (.ref a) Option.none := ⟨(fun z => nomatch z), .inl (not_lst h), odd_ll h D fun _ _ => ⟨(fun z => nomatch z), fun _ _ z => nomatch z⟩⟩
omit F FS in
theorem end_tup {vs : List V} (h : H a = some (.tup vs)) (D : ∀ v ∈ vs, DatE K H v) (n : vs.length ≠ 2) : EndAt K H (.ref a) Option.none :=
  ⟨(fun z => nomatch z), .inr ⟨a, vs, rfl, h, n⟩, odd_tl h D fun ds hl => ⟨(fun z => nomatch z), fun _ _ z => n (by rw [← hl, PyData.tuple.inj z]; rfl)⟩⟩
end

/-! ### own papers, one part of another form -/
section
variable {P : Program} {w : World} {K : PySem.W.Frag} {mg : Str → Option Value} {base : Heap} {CK CT CS CG CH CL C_Behind : Addr}
theorem all_nil {α : Type} {P : α → Prop} : ∀ v ∈ ([] : List α), P v := fun _ h => nomatch h
theorem all_cons {α : Type} {P : α → Prop} {a : α} {l : List α} (h : P a) (t : ∀ v ∈ l, P v) : ∀ v ∈ a :: l, P v := fun v hv => by
  rcases List.mem_cons.mp hv with rfl | hv
  · exact h
  · exact t v hv
theorem all_app {α : Type} {P : α → Prop} {l m : List α} (h : ∀ v ∈ l, P v) (t : ∀ v ∈ m, P v) : ∀ v ∈ l ++ m, P v := fun v hv => (List.mem_append.mp hv).elim (h v) (t v)
/-- the law's book of five -/
def es5 (a b : Nat → Nat) : List En := esN a b 5
structure KF16 (K : PySem.W.Frag) (CK CT : Addr) (fS : Addr) (H : Hp) (p t b v : Addr) (es : List En) (pl : Nat) (hv : V) : Prop where
  kp : KpAt CK CT (plainSys tfP fS) H p 3 t b v es
  hd : DenP tfP H hv (.sl "book" (.int (es.length : Int)) (topT (es.map (leafT 3))))
theorem KF16.ext {fS : Addr} {H H' : Hp} {p t b v : Addr} {es : List En} {pl : Nat} {hv : V} (h : KF16 K CK CT fS H p t b v es pl hv) (x : Ext H H') : KF16 K CK CT fS H' p t b v es pl hv := ⟨h.kp.ext (goodP (K := K) fS) x, h.hd.mono x.gr⟩
def spPaths16 (K : PySem.W.Frag) (mg : Str → Option Value) (CK CT : Addr) : Sp := fun vs H Q _ => ∃ (fS p t b v : Addr) (es : List En) (pl : Nat) (hv : V) (pq : Addr) (ys : List V), mg "_law_seal" = some (.ref fS) ∧ vs = [.ref p, .int (pl : Int), .ref pq, hv] ∧ KF16 K CK CT fS H p t b v es pl hv ∧ es.length = 5 ∧ pl < 5 ∧ H pq = some (.lst ys) ∧ DenL (plainSys tfP fS) H ys (psF 3 es pl) ∧ ∀ H', Ext H H' → Q (.bl true) H'
def spForms16 : Sp := fun vs H Q _ => ∃ (c : Int), vs = [.int c] ∧ 0 ≤ c ∧ ∀ H', Q (.bl true) H'
theorem ok_forms16 {cc B C : Addr} (T : Txt K mg cc) (KT : K_Table K mg CT) (KK : K_Keeper K mg CK) (KS : K_Stands K mg CS) (KG : K_Grows K mg CG) (KH : K_Holds K mg CH) (KL : K_Lacks K mg CL) (D : ClsM K mg C_Behind "Behind" "__init__" "Behind.__init__" s_Behind___init__ ["self", "place", "key", "depth"]) (EI : ExcI K mg "BadRow" "BookError" "row" "BadRow.__init__" s_BadRow___init__ ["self", "row"] C B)
    (C__law_paths_right : CalX P w K mg base 28 "_law_paths_right" (spPaths16 K mg CK CT)) : CalX P w K mg base 29 "_law_forms_right" spForms16 := by
  have Z := T.Z
  have A := sla16 (P := P) (w := w) (base := base) T
  have I3 : ∀ {S}, Fam16 mg S → S.Inj K := fun h => inj16 h
  have C_Keeper := ok_kinit (CT := CT) A KK
  have M_add := ok_kadd T A KT KK EI
  have M_head := ok_khead (CT := CT) T A KK
  have M_paper := ok_kpaper T A KT KK
  have C_Holds := ok_hoinit (P := P) (w := w) (base := base) D KH
  have C_Lacks := ok_lkinit (P := P) (w := w) (base := base) KL
  have M_judged := ok_csB T A I3 KS KH KL
  obtain ⟨fS, fdS, FS', mS, bS⟩ := T.d__law_seal.ex
  have hF : Fam16 mg (plainSys tfP fS) := .inl ⟨fS, mS, rfl⟩
  have e16 : sizeLine = 16777216 := sizeLine_eq
  have G := A.good hF
  refine calX_of T.d__law_forms_right sc__law_forms_right (fun vs H Q E h => ?_) (fun f cdv A' outer s H vs Q E hr h => ?_)
  · obtain ⟨c, rfl, _⟩ := h
    rfl
  obtain ⟨c, rfl, hc0, qq⟩ := h
  refine ⟨_, (pss_cons (ps_set (i := 1) sc__law_forms_right.nd rfl (Or.inl rfl) (pe_mk C_Keeper hr (by omega) rfl (pa_cons (pe_glob (v := .ref fS) rfl mS rfl) (pa_cons pe_int pa_nil))))
  (pss_cons (ps_for (passes_of rfl) rfl (pi_range1 rfl Z.range (pa_cons pe_int pa_nil)) (pg_name (i := 2) sc__law_forms_right.nd rfl (Or.inl rfl)) (pss_one (ps_expr (pe_mtx M_add (takes_of rfl rfl rfl rfl) hr (by omega) (pv 1) (pa_cons (pe_op op_add_str (pe_op op_add_str (pe_op op_add_str pe_str (pe_callTy call_str_int rfl Z.str (by decide +kernel) (pa_cons (pe_op op_mod (pe_op op_add (pv 0) (pv 2)) pe_int) pa_nil))) pe_str) (pe_callTy call_str_int rfl Z.str (by decide +kernel) (pa_cons (pv 2) pa_nil))) pa_nil)))))
  (pss_cons (ps_par (i := 3) (j := 4) rfl sc__law_forms_right.nd rfl rfl (by decide) rfl rfl (pa_cons (pe_op op_mod (pv 0) pe_int) (pa_cons (pe_op op_mod (pe_op op_fdiv (pv 0) pe_int) pe_int) pa_nil)) (by rfl))
  (pss_cons (ps_par (i := 5) (j := 6) rfl sc__law_forms_right.nd rfl rfl (by decide) rfl rfl (pa_cons (pe_mtd M_head (takes_of rfl rfl rfl rfl) hr (by omega) (pv 1) (pa_cons pe_non pa_nil)) (pa_cons (pe_mtd M_paper (takes_of rfl rfl rfl rfl) hr (by omega) (pv 1) (pa_cons (pv 3) (pa_cons (pv 4) (pa_cons pe_non pa_nil)))) pa_nil)) (by rfl))
  (pss_cons (ps_asg (pv 6) (pg_tup rfl (pgs_cons (pg_name (i := 7) sc__law_forms_right.nd rfl (Or.inr rfl)) (pgs_cons (pg_name (i := 8) sc__law_forms_right.nd rfl (Or.inr rfl)) (pgs_cons (pg_name (i := 9) sc__law_forms_right.nd rfl (Or.inr rfl)) (pgs_cons (pg_name (i := 10) sc__law_forms_right.nd rfl (Or.inr rfl)) pgs_nil))))))
  (pss_cons (ps_set (i := 11) sc__law_forms_right.nd rfl (Or.inr rfl) (pe_ix ix_tup (pv 10) pe_int (fun _ _ => rfl)))
  (Evl.pss_cut (ps_set (i := 12) sc__law_forms_right.nd rfl (Or.inl rfl) (pe_and (pe_cmpR op_notN (pv 11) pe_non (nomark _)) (pe_one (pe_cmpR op_eq (pe_ix ix_tup (pv 11) pe_int (fun _ _ => rfl)) (pv 4) (nomark _)))))
  (Evl.pss_cut (ps_set (i := 13) sc__law_forms_right.nd rfl (Or.inl rfl) (pe_ifExp (pt_val (pv 12)) (pe_mk C_Holds hr (by omega) rfl (pa_cons (pv 3) (pa_cons (pv 4) (pa_cons (pe_ix ix_tup (pv 11) pe_int (fun _ _ => rfl)) (pa_cons pe_int pa_nil))))) (pe_mk C_Lacks hr (by omega) rfl (pa_cons (pv 3) (pa_cons (pv 4) (pa_cons pe_int pa_nil))))))
  (pss_cons (ps_set (i := 14) sc__law_forms_right.nd rfl (Or.inl rfl) (pe_lst (pa_cons pe_non (pa_cons pe_int (pa_cons pe_str (pa_cons (pe_lst pa_nil) (pa_cons (pe_tup pa_nil) (pa_cons (pe_callTy call_list_of rfl Z.list (by decide +kernel) (pa_cons (pv 6) pa_nil)) (pa_cons (pe_slice sl_tup (pv 6) po_none (po_some pe_int)) (pa_cons (pe_op op_catT (pv 6) (pe_tup (pa_cons pe_non pa_nil))) (pa_cons (pe_tup (pa_cons pe_non (pa_cons (pv 8) (pa_cons (pv 9) (pa_cons (pv 10) pa_nil))))) pa_nil)))))))))))
  (Evl.pss_cut (ps_expr (pe_bm PySem.F.plainAttrs_list PySem.F.slot_list_append PySem.F.type_list_append mt_append (pv 14) (pa_cons (pe_tup (pa_cons (pe_op op_add_str (pv 7) pe_str) (pa_cons (pv 8) (pa_cons (pv 9) (pa_cons (pv 10) pa_nil))))) pa_nil)))
  (Evl.pss_cut (ps_set (i := 14) sc__law_forms_right.nd rfl (Or.inl rfl) (pe_op op_cat (pv 14) (pe_lst (pa_cons (pe_tup (pa_cons (pv 7) (pa_cons pe_non (pa_cons (pv 9) (pa_cons (pv 10) pa_nil))))) (pa_cons (pe_tup (pa_cons (pv 7) (pa_cons (pv 8) (pa_cons pe_non (pa_cons (pv 10) pa_nil))))) (pa_cons (pe_tup (pa_cons (pv 7) (pa_cons (pv 8) (pa_cons (pe_callTy call_tuple_of rfl Z.tuple (by decide +kernel) (pa_cons (pv 9) pa_nil)) (pa_cons (pv 10) pa_nil))))) pa_nil))))))
  (Evl.pss_cut (ps_set (i := 14) sc__law_forms_right.nd rfl (Or.inl rfl) (pe_op op_cat (pv 14) (pe_lst (pa_cons (pe_tup (pa_cons (pv 7) (pa_cons (pv 8) (pa_cons (pe_op op_cat (pv 9) (pe_slice sl_list (pv 9) po_none (po_some pe_int))) (pa_cons (pv 10) pa_nil))))) (pa_cons (pe_tup (pa_cons (pv 7) (pa_cons (pv 8) (pa_cons (pe_slice sl_list (pv 9) po_none (po_some (pe_un un_neg pe_int))) (pa_cons (pv 10) pa_nil))))) (pa_cons (pe_tup (pa_cons (pv 7) (pa_cons (pv 8) (pa_cons (pv 9) (pa_cons pe_non pa_nil))))) pa_nil))))))
  (Evl.pss_cut (ps_set (i := 14) sc__law_forms_right.nd rfl (Or.inl rfl) (pe_op op_cat (pv 14) (pe_lst (pa_cons (pe_tup (pa_cons (pv 7) (pa_cons (pv 8) (pa_cons (pv 9) (pa_cons (pe_callTy call_list_of rfl Z.list (by decide +kernel) (pa_cons (pv 10) pa_nil)) pa_nil))))) (pa_cons (pe_tup (pa_cons (pv 7) (pa_cons (pv 8) (pa_cons (pv 9) (pa_cons (pe_slice sl_tup (pv 10) po_none (po_some pe_int)) pa_nil))))) (pa_cons (pe_tup (pa_cons (pv 7) (pa_cons (pv 8) (pa_cons (pv 9) (pa_cons (pe_op op_catT (pv 10) (pe_tup (pa_cons pe_non pa_nil))) pa_nil))))) pa_nil))))))
  (Evl.pss_cut (ps_set (i := 14) sc__law_forms_right.nd rfl (Or.inl rfl) (pe_op op_cat (pv 14) (pe_lst (pa_cons (pe_tup (pa_cons (pv 7) (pa_cons (pv 8) (pa_cons (pv 9) (pa_cons (pe_tup (pa_cons (pe_callTy call_tuple_of rfl Z.tuple (by decide +kernel) (pa_cons (pe_ix ix_tup (pv 10) pe_int (fun _ _ => rfl)) pa_nil)) (pa_cons (pv 11) pa_nil))) pa_nil))))) (pa_cons (pe_tup (pa_cons (pv 7) (pa_cons (pv 8) (pa_cons (pv 9) (pa_cons (pe_tup (pa_cons pe_non (pa_cons (pv 11) pa_nil))) pa_nil))))) pa_nil)))))
  (Evl.pss_cut (ps_set (i := 14) sc__law_forms_right.nd rfl (Or.inl rfl) (pe_op op_cat (pv 14) (pe_lc (own := [("_law_many", 16)]) (g := gName 16) (tt := tYes) rfl sc__law_forms_right.nd (pi_tup (pe_tup (pa_cons pe_int (pa_cons pe_int (pa_cons pe_int pa_nil))))) (blkOk_by (N := N__law_forms_right) (sc := defScope s__law_forms_right) (by decide +kernel)) (fun _ _ _ _ _ => (pg_name (i := 16) sc__law_forms_right.nd rfl (Or.inl rfl))) (fun _ _ _ _ _ => pts_nil) (fun _ _ _ _ _ => (pe_tup (pa_cons (pv 7) (pa_cons (pv 8) (pa_cons (pv 9) (pa_cons (pe_tup (pa_cons (pe_op op_cat (pe_ix (r := rIxT K) ix_tup (pv 10) pe_int (fun _ _ => rfl)) (pe_op op_rep (pe_lst (pa_cons (pv 8) pa_nil)) (pv 16))) (pa_cons (pv 11) pa_nil))) pa_nil)))))))))
  (Evl.pss_cut (ps_if (pt_cmpR op_notN (pv 11) pe_non (nomark _)) (pss_one (ps_set (i := 14) sc__law_forms_right.nd rfl (Or.inl rfl) (pe_op op_cat (pv 14) (pe_lst (pa_cons (pe_tup (pa_cons (pv 7) (pa_cons (pv 8) (pa_cons (pv 9) (pa_cons (pe_tup (pa_cons (pe_ix ix_tup (pv 10) pe_int (fun _ _ => rfl)) (pa_cons (pe_callTy call_list_of rfl Z.list (by decide +kernel) (pa_cons (pv 11) pa_nil)) pa_nil))) pa_nil))))) (pa_cons (pe_tup (pa_cons (pv 7) (pa_cons (pv 8) (pa_cons (pv 9) (pa_cons (pe_tup (pa_cons (pe_ix ix_tup (pv 10) pe_int (fun _ _ => rfl)) (pa_cons (pe_op op_catT (pv 11) (pe_tup (pa_cons pe_int pa_nil))) pa_nil))) pa_nil))))) pa_nil)))))) pss_nil)
  (pss_cons (ps_for (passes_of rfl) rfl (pi_list (pv 14)) (pg_name (i := 15) sc__law_forms_right.nd rfl (Or.inl rfl)) (pss_one (ps_if (pt_cmpR op_isnot_bl (pe_mta M_judged (takes_of rfl rfl rfl rfl) hr (by omega) (pv 13) (pa_cons (pe_glob (v := .ref fS) rfl mS rfl) (pa_cons pe_int (pa_cons (pv 5) (pa_cons (pv 15) pa_nil))))) pe_bl (nomark _)) (pss_one (ps_ret pe_bl)) pss_nil)))
  (pss_cons (ps_if (pt_cmpR op_isnot_bl (pe_mta M_judged (takes_of rfl rfl rfl rfl) hr (by omega) (pv 13) (pa_cons (pe_glob (v := .ref fS) rfl mS rfl) (pa_cons pe_int (pa_cons (pv 5) (pa_cons (pv 6) pa_nil))))) pe_bl (nomark _)) (pss_one (ps_ret pe_bl)) pss_nil)
  (pss_one (ps_ret (pe_cx C__law_paths_right (takes_of rfl rfl rfl rfl) hr (by omega) rfl (pa_cons (pv 1) (pa_cons (pv 3) (pa_cons (pv 9) (pa_cons (pv 5) pa_nil))))))))))))))))))))))))), ?_⟩
  -- the keeper
  refine fun p px np npx nex => ?_
  have y1 : Ext H (upd (upd H px (.own p)) p (.ins CK px [])) := (Ext.new npx).trans (Ext.new (by rw [upd_ne nex.symm]; exact np))
  refine ⟨plainSys tfP fS, p, px, 3, 0, hF, rfl, upd_same, by decide, trivial, fun H2 t b v xo2 kp2 nt nb nv ok2 kp0 => ⟨rfl, ?_⟩⟩
  have x2 : Ext H H2 := xo2.ext y1 np
  obtain ⟨fa, hfa⟩ : ∃ fa : Nat → Nat, ∀ i : Nat, ((c + (i : Int)) % 4) = ((fa i : Nat) : Int) ∧ fa i < 4 := ⟨fun i => ((c + (i : Int)) % 4).toNat, fun i => by constructor <;> (dsimp only; omega)⟩
  have ha4 : ∀ i, fa i < 4 := fun i => (hfa i).2
  refine ⟨5, rfl, by omega, by omega, ?_⟩
  refine for_range (fun i σ H' => ∃ (y2 : Option V), i ≤ 5 ∧ σ = [some (.int c), some (.ref p), y2, none, none, none, none, none, none, none, none, none, none, none, none, none, none] ∧ KpAt CK CT (plainSys tfP fS) H' p 3 t b v (esN fa id i)) ⟨none, Nat.zero_le _, rfl, kp0⟩ ?_ ?_
  · rintro i σ H4 hi ⟨y2, _, rfl, hK⟩
    rw [Int.zero_add]
    have hi : i < 5 := hi
    obtain ⟨ea, la⟩ := hfa i
    have el := esN_len fa id i
    obtain ⟨dx, hp⟩ := hK.at_
    obtain ⟨_, _, _, ta, tla⟩ := mod_small (c + (i : Int)) (m := 4) (by decide) (by decide)
    have tx := txK_str (fa i) la i (by omega)
    rw [← ea] at tx
    have tla' : (toString ((c + (i : Int)) % 4) : Str).length ≤ 2 := tla
    have tlb' : (toString (i : Int) : Str).length ≤ 2 := (dig100 i (by omega)).2
    have l1 : ("put " : Str).length = 4 := rfl
    have l2 : ("put " ++ toString ((c + (i : Int)) % 4) : Str).length ≤ 6 := by rw [Str.length_append, l1]; omega
    have l3 : (" v" : Str).length = 2 := rfl
    have l4 : ("put " ++ toString ((c + (i : Int)) % 4) ++ " v" : Str).length ≤ 8 := by rw [Str.length_append, l3]; omega
    refine ⟨_, rfl, p, dx, _, rfl, hp, kno "add", _, rfl, _, rfl, _, _, rfl, rfl, _, 4, rfl, rfl, (by show (0 : Int) < 4; decide), (c + (i : Int)) % 4, rfl, ?_, _, _, rfl, rfl, ?_, _, _, rfl, rfl, ?_, _, rfl, (i : Int), rfl, ?_, _, _, rfl, rfl, ?_, ?_⟩
    · rw [ea, Int.natAbs_natCast]
      have := Nat.log2_le_self (fa i)
      omega
    · rw [sizeLine_eq]; omega
    · rw [sizeLine_eq]; omega
    · rw [Int.natAbs_natCast]
      have := Nat.log2_le_self i
      omega
    · rw [sizeLine_eq]; omega
    rw [tx]
    refine ⟨plainSys tfP fS, p, 3, t, b, v, esN fa id i, txK (fa i) i, 0, hF, rfl, hK, by rw [el]; omega, txK_asc _ la _ (by omega), (by show 8 ≤ 300; decide), trivial, fun kv hrun => ?_, fun z hrun => ?_⟩
    · rw [runK (.inr rfl) la (by omega), esN_last] at hrun
      cases hrun
      refine ⟨Nat.le_trans (kvN_len (n := i + 1) (b := id) ha4 fun j hj => by show j < 7; omega) (by decide), fun H5 xm ok5 hk5 => ?_⟩
      have hk6 : KpAt CK CT (plainSys tfP fS) H5 p 3 t b v (esN fa id (i + 1)) := by
        rw [esN_succ]
        exact hk5
      exact ⟨_, by omega, rfl, hk6⟩
    · rw [runK (.inr rfl) la (by omega)] at hrun
      cases hrun
  rintro σ H4 ⟨y2, _, rfl, hK⟩
  replace hK : KpAt CK CT (plainSys tfP fS) H4 p 3 t b v (esN fa id 5) := hK
  have esl := esN_len fa id 5
  have hok : ∀ e ∈ esN fa id 5, TbOk 3 e.2 ∧ txtOk (S e.1) = true := fun e he => ⟨(hK.ok e he).1, (hK.ok e he).2.2⟩
  have hlen8 : ∀ e ∈ esN fa id 5, e.1.length ≤ 300 := fun e he => by
    obtain ⟨i, _, rfl⟩ := List.mem_map.mp he
    show 8 ≤ 300
    decide
  generalize esN fa id 5 = es at hK esl hok hlen8
  obtain ⟨pl, epl, hpl⟩ : ∃ pl : Nat, c % 5 = (pl : Int) ∧ pl < 5 := ⟨(c % 5).toNat, by omega, by omega⟩
  obtain ⟨k, ek, hk⟩ : ∃ k : Nat, c / 5 % 8 = (k : Int) ∧ k < 8 := ⟨(c / 5 % 8).toNat, by omega, by omega⟩
  refine ⟨_, rfl, _, 5, rfl, rfl, (by show (0 : Int) < 5; decide), _, rfl, _, 5, rfl, rfl, ⟨by decide, by decide⟩, _, 8, rfl, rfl, (by show (0 : Int) < 8; decide), .int (pl : Int), .int (k : Int), by show [V.int (c % 5), V.int (c / 5 % 8)] = _; rw [epl, ek], ?_⟩
  have cn : cntOf es.length none = some es.length := rfl
  obtain ⟨dx, hp⟩ := hK.at_
  obtain ⟨e, hee⟩ : ∃ e, es[pl]? = some e := ⟨es[pl]'(by omega), List.getElem?_eq_getElem _⟩
  have FS : FS16 3 es pl (k : Int) e := ⟨hee, hok, by omega, by decide⟩
  refine ⟨_, rfl, p, dx, _, rfl, hp, kno "head", plainSys tfP fS, p, 3, t, b, v, es, none, 0, hF, rfl, hK, trivial, fun k' hc' hv H5 x5 ok5 dh => ?_, fun z => by rw [cn] at z; cases z⟩
  rw [cn] at hc'
  cases hc'
  rw [take_all (List.length_map ..)] at dh
  have hK5 := hK.ext G x5
  have k8 : (k : Int) < 2 ^ 3 := by
    have e8 : (2 : Int) ^ 3 = 8 := by decide
    omega
  refine ⟨_, rfl, p, dx, _, rfl, x5.ins hp, kno "paper", _, rfl, _, rfl, plainSys tfP fS, p, 3, t, b, v, es, (pl : Int), (k : Int), none, 0, hF, rfl, hK5, trivial, fun c' n' e' hc' hn' hlt he' hk0 hk1 u H6 x6 ok6 pv => ?_, fun z => absurd ⟨⟨es.length, cn, Int.natCast_nonneg _, by omega⟩, Int.natCast_nonneg _, k8⟩ z⟩
  rw [cn] at hc'
  cases hc'
  have en : n' = pl := by omega
  rw [en, hee] at he'
  cases he'
  rw [en] at pv
  obtain ⟨q, pq, tv, wv, ys, rfl, hq, npq, hpq, dpq, dtv, hwv, _⟩ := pv.ex
  obtain ⟨wq, o, ev, zs, rfl, hwq, nwo, nwq, hwo, dwo, hev⟩ := hwv.ex
  have F6 : FF16 fS H6 3 es pl (k : Int) e q pq wq o tv ev ys zs := ⟨hq, hpq, dpq, hwq, hwo, dwo, hev, dtv⟩
  have hF6 : KF16 K CK CT fS H6 p t b v es pl hv := ⟨hK5.ext G x6, G.mono x6.gr dh⟩
  refine ⟨_, _, rfl, ?_⟩
  refine ⟨_, rfl, q, _, rfl, SqT.of hq, rfl, _, _, rfl, _, _, rfl, _, _, rfl, _, _, rfl, rfl, ?_⟩
  refine ⟨_, rfl, wq, _, 1, ev, rfl, rfl, SqT.of hwq, rfl, ?_⟩
  -- there or not
  refine ⟨fun σ H' => ∃ (th : Bool), σ = [some (.int c), some (.ref p), y2, some (.int (pl : Int)), some (.int (k : Int)), some hv, some (.ref q), some (.str (S e.1)), some tv, some (.ref pq), some (.ref wq), some ev, some (.bl th), none, none, none, none] ∧ H6 = H' ∧ (∀ x qe, (wayT 3 (srtI e.2) (k : Int)).2 = [x] → ev = .ref qe → th = decide (x.1 = (k : Int))) ∧ (ev = .non → th = false), ?_, ?_⟩
  · rcases hev with ⟨g1, rfl⟩ | ⟨x, qe, g1, rfl, g3, g4⟩
    · refine ⟨_, rfl, rfl, _, rfl, iteF ?_⟩
      exact ⟨false, rfl, rfl, fun x qe z => (by rw [g1] at z; cases z), fun _ => rfl⟩
    · refine ⟨_, rfl, rfl, _, rfl, iteT ?_⟩
      refine ⟨_, rfl, qe, _, 0, _, rfl, rfl, SqT.of g3, rfl, _, rfl, rfl, ?_⟩
      refine ⟨decide (V.int x.1 = V.int (k : Int)), rfl, rfl, fun x' qe' z _ => ?_, fun z => nomatch z⟩
      rw [g1] at z
      cases z
      exact decide_eq_decide.mpr ⟨fun z => V.int.inj z, fun z => by rw [z]⟩
  rintro σ H' ⟨th, rfl, rfl, hth, hth0⟩
  -- the claim
  refine ⟨fun σ H' => ∃ (cp cdx : Addr) (cl : BhCl), σ = [some (.int c), some (.ref p), y2, some (.int (pl : Int)), some (.int (k : Int)), some hv, some (.ref q), some (.str (S e.1)), some tv, some (.ref pq), some (.ref wq), some ev, some (.bl th), some (.ref cp), none, none, none] ∧ Ext H6 H' ∧ H' cp = some (.ins (clB CH CL cl) cdx (bhF cl)) ∧ cl.place = (pl : Int) ∧ cl.key = (k : Int) ∧ cl.depth = 3 ∧ endsB cl (wayT 3 (srtI e.2) cl.key).2 = true, ?_, ?_⟩
  · refine ⟨_, rfl, _, rfl, ?_⟩
    cases th with
    | true =>
      refine iteT ?_
      rcases hev with ⟨g1, rfl⟩ | ⟨x, qe, g1, rfl, g3, g4⟩
      · cases hth0 rfl
      · refine ⟨_, rfl, _, rfl, _, rfl, qe, _, 1, _, rfl, rfl, SqT.of g3, rfl, fun cp cdx ncp ncdx nce => ?_⟩
        have y2 : Ext H6 (upd (upd H6 cdx (.own cp)) cp (.ins CH cdx [])) := (Ext.new ncdx).trans (Ext.new (by rw [upd_ne nce.symm]; exact ncp))
        refine ⟨cp, cdx, (pl : Int), (k : Int), 3, x.2, rfl, upd_same, fun H7 xo kp h7 => ⟨rfl, ?_⟩⟩
        have x7 := xo.ext y2 ncp
        refine ⟨cp, cdx, ⟨(pl : Int), (k : Int), 3, some x.2⟩, rfl, x7, h7, rfl, rfl, rfl, ?_⟩
        have e1 := of_decide_eq_true (hth x qe g1 rfl).symm
        show endsB ⟨(pl : Int), (k : Int), 3, some x.2⟩ (wayT 3 (srtI e.2) (k : Int)).2 = true
        rw [g1]
        show (decide (x.1 = (k : Int)) && decide (x.2 = x.2)) = true
        rw [decide_eq_true e1, decide_eq_true rfl]
        rfl
    | false =>
      refine iteF ?_
      refine ⟨_, rfl, _, rfl, fun cp cdx ncp ncdx nce => ?_⟩
      have y2 : Ext H6 (upd (upd H6 cdx (.own cp)) cp (.ins CL cdx [])) := (Ext.new ncdx).trans (Ext.new (by rw [upd_ne nce.symm]; exact ncp))
      refine ⟨cp, cdx, (pl : Int), (k : Int), 3, rfl, upd_same, fun H7 xo kp h7 => ⟨rfl, ?_⟩⟩
      have x7 := xo.ext y2 ncp
      refine ⟨cp, cdx, ⟨(pl : Int), (k : Int), 3, none⟩, rfl, x7, h7, rfl, rfl, rfl, ?_⟩
      show endsB ⟨(pl : Int), (k : Int), 3, none⟩ (wayT 3 (srtI e.2) (k : Int)).2 = true
      rcases hev with ⟨g1, _⟩ | ⟨x, qe, g1, g2, _⟩
      · rw [g1]
        rfl
      · rw [g1]
        show decide (x.1 ≠ (k : Int)) = true
        have e1 := of_decide_eq_false (hth x qe g1 g2).symm
        exact decide_eq_true e1
  rintro σ H7 ⟨cp, cdx, cl, rfl, x67, hcp, cpl, cky, cdp, cend⟩
  have there : thereB cl e.2 = true := by
    have := ends_there (hok e (List.mem_of_getElem? hee)).1 cl
    rw [cend] at this
    exact this.symm
  have F7 := F6.ext K x67
  have hF7 := hF6.ext x67
  clear hth hth0 cend F6 hF6 hev hwo dwo hwq hq hpq dpq pv dtv dh hK hK5
  -- what is judged
  have hes : ∀ e ∈ es, TbOk 3 e.2 := fun e he => (hok e he).1
  have jl := fun (pm : PapM) (hp : PapOk pm) => judge_law (l := 3) (es := es) hes (size := es.length) (held := es.length) ⟨by omega, Nat.le_refl _⟩ (Nat.le_refl _) (by decide) cl pm hp
  have tk5 : (es.map (leafT 3)).take es.length = es.map (leafT 3) := take_all (List.length_map ..)
  rw [tk5] at jl
  have cpn : cl.place.toNat = pl := by omega
  have jbad : ∀ pm : PapM, PapOk pm → pm ≠ ownPap 3 es es.length pl (k : Int) → judgeB cl es.length (.sl "book" (.int (es.length : Int)) (topT (es.map (leafT 3)))) pm = false := fun pm hp hn => by
    cases hj : judgeB cl es.length (.sl "book" (.int (es.length : Int)) (topT (es.map (leafT 3)))) pm with
    | false => rfl
    | true =>
      obtain ⟨_, _, _, _, _, _, _, _, _, h9⟩ := (jl pm hp).mp hj
      rw [cpn, cky] at h9
      exact absurd h9 hn
  have jown : PapOk (ownPap 3 es es.length pl (k : Int)) → judgeB cl es.length (.sl "book" (.int (es.length : Int)) (topT (es.map (leafT 3)))) (ownPap 3 es es.length pl (k : Int)) = true := fun hp => by
    refine (jl _ hp).mpr ⟨rfl, by omega, by omega, by rw [cdp]; rfl, by omega, by rw [cky]; exact k8, e, ?_, there, ?_⟩
    · rw [cpn]
      exact hee
    · rw [cpn, cky]
  clear jl
  -- the first nine
  have hxl : (S e.1).length ≤ 300 := by rw [S_len]; exact hlen8 e (List.mem_of_getElem? hee)
  refine ⟨Nat.zero_le _, fun a4 n4 => ?_⟩
  have x8 := Ext.new (o := .lst []) n4
  have h4 : upd H7 a4 (.lst []) a4 = some (.lst []) := upd_same
  generalize upd H7 a4 (.lst []) = H8 at x8 h4 ⊢
  refine ⟨Nat.zero_le _, fun a5 n5 => ?_⟩
  have x9 := Ext.new (o := .tup []) n5
  have h5 : upd H8 a5 (.tup []) a5 = some (.tup []) := upd_same
  generalize upd H8 a5 (.tup []) = H9 at x9 h5 ⊢
  have x79 := x8.trans x9
  refine ⟨_, rfl, q, _, rfl, .inr (SqT.of (x79.tup F7.hq)), fun a6 n6 => ?_⟩
  have x10 := Ext.new (o := .lst [.str (S e.1), tv, .ref pq, .ref wq]) n6
  have h6 : upd H9 a6 (.lst [.str (S e.1), tv, .ref pq, .ref wq]) a6 = some (.lst [.str (S e.1), tv, .ref pq, .ref wq]) := upd_same
  generalize upd H9 a6 (.lst [.str (S e.1), tv, .ref pq, .ref wq]) = H10 at x10 h6 ⊢
  have x7a := x79.trans x10
  refine ⟨_, rfl, 3, rfl, q, _, rfl, SqT.of (x7a.tup F7.hq), (fun z => absurd z.2 (by show ¬ (3 = 4); decide)), fun a7 n7 => ?_⟩
  rw [show cutV [V.str (S e.1), tv, .ref pq, .ref wq] none (some 3) = [V.str (S e.1), tv, .ref pq] from rfl]
  have x11 := Ext.new (o := .tup [.str (S e.1), tv, .ref pq]) n7
  have h7 : upd H10 a7 (.tup [.str (S e.1), tv, .ref pq]) a7 = some (.tup [.str (S e.1), tv, .ref pq]) := upd_same
  generalize upd H10 a7 (.tup [.str (S e.1), tv, .ref pq]) = H11 at x11 h7 ⊢
  have x7b := x7a.trans x11
  refine ⟨_, rfl, by decide, fun t8 nt8 => ?_⟩
  have x11' := Ext.new (o := .tup [.non]) nt8
  have ht8 : upd H11 t8 (.tup [.non]) t8 = some (.tup [.non]) := upd_same
  generalize upd H11 t8 (.tup [.non]) = H11' at x11' ht8 ⊢
  have x7c := x7b.trans x11'
  refine ⟨q, t8, _, _, rfl, rfl, SqT.of (x7c.tup F7.hq), SqT.of ht8, (fun z => nomatch z), (by show 5 ≤ sizeLine; decide), (fun z => nomatch z), fun _ a8 n8 => ?_⟩
  have x12 := Ext.new (o := .tup ([.str (S e.1), tv, .ref pq, .ref wq] ++ [.non])) n8
  have h8 : upd H11' a8 (.tup ([.str (S e.1), tv, .ref pq, .ref wq] ++ [.non])) a8 = some (.tup ([.str (S e.1), tv, .ref pq, .ref wq] ++ [.non])) := upd_same
  generalize upd H11' a8 (.tup ([.str (S e.1), tv, .ref pq, .ref wq] ++ [.non])) = H12 at x12 h8 ⊢
  have x7d := x7c.trans x12
  refine ⟨_, rfl, _, rfl, _, rfl, (by show 4 ≤ sizeLine; decide), fun a9 n9 => ?_⟩
  have x13 := Ext.new (o := .tup [.non, tv, .ref pq, .ref wq]) n9
  have h9 : upd H12 a9 (.tup [.non, tv, .ref pq, .ref wq]) a9 = some (.tup [.non, tv, .ref pq, .ref wq]) := upd_same
  generalize upd H12 a9 (.tup [.non, tv, .ref pq, .ref wq]) = H13 at x13 h9 ⊢
  have x7e := x7d.trans x13
  refine ⟨(by show 9 ≤ sizeLine; decide), fun BL nBL => ?_⟩
  replace h4 := (((((x9.trans x10).trans x11).trans x11').trans x12).trans x13).lst h4
  replace h5 := ((((x10.trans x11).trans x11').trans x12).trans x13).tup h5
  replace h6 := (((x11.trans x11').trans x12).trans x13).lst h6
  replace h7 := ((x11'.trans x12).trans x13).tup h7
  replace h8 := x13.tup h8
  have x14 := Ext.new (o := .lst [.non, .int 5, .str "paper", .ref a4, .ref a5, .ref a6, .ref a7, .ref a8, .ref a9]) nBL
  have hBL : upd H13 BL (.lst [.non, .int 5, .str "paper", .ref a4, .ref a5, .ref a6, .ref a7, .ref a8, .ref a9]) BL = some (.lst [.non, .int 5, .str "paper", .ref a4, .ref a5, .ref a6, .ref a7, .ref a8, .ref a9]) := upd_same
  have m4 := ne_of_none h4 nBL
  have m5 := ne_of_none h5 nBL
  have m6 := ne_of_none h6 nBL
  have m7 := ne_of_none h7 nBL
  have m8 := ne_of_none h8 nBL
  have m9 := ne_of_none h9 nBL
  have nBL7 := x7e.free nBL
  replace h4 := x14.lst h4
  replace h5 := x14.tup h5
  replace h6 := x14.lst h6
  replace h7 := x14.tup h7
  replace h8 := x14.tup h8
  replace h9 := x14.tup h9
  generalize upd H13 BL (.lst [.non, .int 5, .str "paper", .ref a4, .ref a5, .ref a6, .ref a7, .ref a8, .ref a9]) = H14 at x14 hBL h4 h5 h6 h7 h8 h9 ⊢
  have x7f := x7e.trans x14
  -- one more
  refine ⟨fun σ H' => ∃ (BL : Addr) (vs : List V), σ = [some (.int c), some (.ref p), y2, some (.int (pl : Int)), some (.int (k : Int)), some hv, some (.ref q), some (.str (S e.1)), some tv, some (.ref pq), some (.ref wq), some ev, some (.bl th), some (.ref cp), some (.ref BL), none, none] ∧ Ext H7 H' ∧ H' BL = some (.lst vs) ∧ (∀ v ∈ vs, BadV K fS H' (ownPap 3 es es.length pl (k : Int)) v) ∧ vs.length ≤ 10, ?_, ?_⟩
  · refine ⟨_, rfl, .inl ⟨rfl, _, SqL.of hBL⟩, _, rfl, _, _, rfl, rfl, ?_, _, rfl, _, rfl, _, rfl, (by show 4 ≤ sizeLine; decide), fun a10 n10 => ?_⟩
    · have e1 : (" " : Str).length = 1 := rfl
      rw [e1, sizeLine_eq]
      omega
    have x15 := Ext.new (o := .tup [.str (S e.1 ++ " "), tv, .ref pq, .ref wq]) n10
    have h10 : upd H14 a10 (.tup [.str (S e.1 ++ " "), tv, .ref pq, .ref wq]) a10 = some (.tup [.str (S e.1 ++ " "), tv, .ref pq, .ref wq]) := upd_same
    have m10 : a10 ≠ BL := (ne_of_none hBL n10).symm
    generalize upd H14 a10 (.tup [.str (S e.1 ++ " "), tv, .ref pq, .ref wq]) = H15 at x15 h10 ⊢
    refine ⟨BL, _, .ref a10, rfl, rfl, x15.lst hBL, (by show 9 < sizeLine; decide), ?_⟩
    have x716 := (x7f.trans x15).mut (o := .lst ([.non, .int 5, .str "paper", .ref a4, .ref a5, .ref a6, .ref a7, .ref a8, .ref a9] ++ [.ref a10])) nBL7
    have F16 := F7.ext K x716
    have g4 : upd H15 BL (.lst ([.non, .int 5, .str "paper", .ref a4, .ref a5, .ref a6, .ref a7, .ref a8, .ref a9] ++ [.ref a10])) a4 = some (.lst []) := by rw [upd_ne m4]; exact x15.lst h4
    have g5 : upd H15 BL (.lst ([.non, .int 5, .str "paper", .ref a4, .ref a5, .ref a6, .ref a7, .ref a8, .ref a9] ++ [.ref a10])) a5 = some (.tup []) := by rw [upd_ne m5]; exact x15.tup h5
    have g6 : upd H15 BL (.lst ([.non, .int 5, .str "paper", .ref a4, .ref a5, .ref a6, .ref a7, .ref a8, .ref a9] ++ [.ref a10])) a6 = some (.lst [.str (S e.1), tv, .ref pq, .ref wq]) := by rw [upd_ne m6]; exact x15.lst h6
    have g7 : upd H15 BL (.lst ([.non, .int 5, .str "paper", .ref a4, .ref a5, .ref a6, .ref a7, .ref a8, .ref a9] ++ [.ref a10])) a7 = some (.tup [.str (S e.1), tv, .ref pq]) := by rw [upd_ne m7]; exact x15.tup h7
    have g8 : upd H15 BL (.lst ([.non, .int 5, .str "paper", .ref a4, .ref a5, .ref a6, .ref a7, .ref a8, .ref a9] ++ [.ref a10])) a8 = some (.tup ([.str (S e.1), tv, .ref pq, .ref wq] ++ [.non])) := by rw [upd_ne m8]; exact x15.tup h8
    have g9 : upd H15 BL (.lst ([.non, .int 5, .str "paper", .ref a4, .ref a5, .ref a6, .ref a7, .ref a8, .ref a9] ++ [.ref a10])) a9 = some (.tup [.non, tv, .ref pq, .ref wq]) := by rw [upd_ne m9]; exact x15.tup h9
    have g10 : upd H15 BL (.lst ([.non, .int 5, .str "paper", .ref a4, .ref a5, .ref a6, .ref a7, .ref a8, .ref a9] ++ [.ref a10])) a10 = some (.tup [.str (S e.1 ++ " "), tv, .ref pq, .ref wq]) := by rw [upd_ne m10]; exact h10
    refine ⟨BL, _, rfl, x716, upd_same, ?_, (by show 10 ≤ 10; decide)⟩
    have d4 := F16.d4 (K := K) FS
    have d3 : ∀ v ∈ [V.str (S e.1), tv, .ref pq], DatE K (upd H15 BL (.lst ([.non, .int 5, .str "paper", .ref a4, .ref a5, .ref a6, .ref a7, .ref a8, .ref a9] ++ [.ref a10]))) v := fun v hv => d4 v (by
      rcases List.mem_cons.mp hv with rfl | hv
      · exact List.mem_cons_self
      rcases List.mem_cons.mp hv with rfl | hv
      · exact List.mem_cons_of_mem _ List.mem_cons_self
      · rw [List.mem_singleton.mp hv]
        exact List.mem_cons_of_mem _ (List.mem_cons_of_mem _ List.mem_cons_self))
    have nx : S e.1 ++ (" " : Str) ≠ S e.1 := fun z => by
      have := congrArg Str.length z
      rw [Str.length_append] at this
      have e1 : (" " : Str).length = 1 := rfl
      omega
    exact all_cons (F16.b_non FS) (all_cons (F16.b_int FS 5) (all_cons (F16.b_str FS (by decide +kernel)) (all_cons (F16.b_lst FS g4 all_nil) (all_cons (F16.b_tup FS g5 all_nil (by decide)) (all_cons (F16.b_lst FS g6 d4) (all_cons (F16.b_tup FS g7 d3 (by show 3 ≠ 4; decide)) (all_cons (F16.b_tup FS g8 (all_app d4 (all_cons datE_non all_nil)) (by show 5 ≠ 4; decide)) (all_cons (F16.b_tx0 FS g9) (all_cons (F16.b_tx FS g10 (txtOk_app FS.tx (by decide +kernel)) nx) all_nil)))))))))
  clear x8 x9 x10 x11 x11' x12 x13 x14 x79 x7a x7b x7c x7d x7e x7f h4 h5 h6 h7 h8 h9 hBL ht8 m4 m5 m6 m7 m8 m9 nBL nBL7 n4 n5 n6 n7 n8 n9 nt8
  rintro σ HA ⟨BL, vs, rfl, xX, hBL, hbad, hvl⟩
  have FX := F7.ext K xX
  refine ⟨fun σ H' => ∃ (BL : Addr) (vs : List V), σ = [some (.int c), some (.ref p), y2, some (.int (pl : Int)), some (.int (k : Int)), some hv, some (.ref q), some (.str (S e.1)), some tv, some (.ref pq), some (.ref wq), some ev, some (.bl th), some (.ref cp), some (.ref BL), none, none] ∧ Ext H7 H' ∧ H' BL = some (.lst vs) ∧ (∀ v ∈ vs, BadV K fS H' (ownPap 3 es es.length pl (k : Int)) v) ∧ vs.length ≤ 13, ?_, ?_⟩
  · refine ⟨_, rfl, _, rfl, _, rfl, _, rfl, (by show 4 ≤ sizeLine; decide), fun a1 n1 => ?_⟩
    have xa1 := Ext.new (o := .tup [.str (S e.1), .non, .ref pq, .ref wq]) n1
    have ha1 : upd HA a1 (.tup [.str (S e.1), .non, .ref pq, .ref wq]) a1 = some (.tup [.str (S e.1), .non, .ref pq, .ref wq]) := upd_same
    generalize upd HA a1 (.tup [.str (S e.1), .non, .ref pq, .ref wq]) = HA_1 at xa1 ha1 ⊢
    have xc1 := Ext.trans (Ext.refl HA) xa1
    refine ⟨_, rfl, _, rfl, _, rfl, (by show 4 ≤ sizeLine; decide), fun a2 n2 => ?_⟩
    have xa2 := Ext.new (o := .tup [.str (S e.1), tv, .non, .ref wq]) n2
    have ha2 : upd HA_1 a2 (.tup [.str (S e.1), tv, .non, .ref wq]) a2 = some (.tup [.str (S e.1), tv, .non, .ref wq]) := upd_same
    generalize upd HA_1 a2 (.tup [.str (S e.1), tv, .non, .ref wq]) = HA_2 at xa2 ha2 ⊢
    have xc2 := Ext.trans xc1 xa2
    refine ⟨_, rfl, _, rfl, _, rfl, pq, ys, rfl, .inl ⟨SqL.of (Ext.lst xc2 FX.hp), fun a3 n3 => ?_⟩⟩
    have xa3 := Ext.new (o := .tup ys) n3
    have ha3 : upd HA_2 a3 (.tup ys) a3 = some (.tup ys) := upd_same
    generalize upd HA_2 a3 (.tup ys) = HA_3 at xa3 ha3 ⊢
    have xc3 := Ext.trans xc2 xa3
    refine ⟨_, rfl, (by show 4 ≤ sizeLine; decide), fun a4 n4 => ?_⟩
    have xa4 := Ext.new (o := .tup [.str (S e.1), tv, .ref a3, .ref wq]) n4
    have ha4 : upd HA_3 a4 (.tup [.str (S e.1), tv, .ref a3, .ref wq]) a4 = some (.tup [.str (S e.1), tv, .ref a3, .ref wq]) := upd_same
    generalize upd HA_3 a4 (.tup [.str (S e.1), tv, .ref a3, .ref wq]) = HA_4 at xa4 ha4 ⊢
    have xc4 := Ext.trans xc3 xa4
    replace ha1 := Ext.tup xa2 ha1
    replace ha1 := Ext.tup xa3 ha1
    replace ha1 := Ext.tup xa4 ha1
    replace ha2 := Ext.tup xa3 ha2
    replace ha2 := Ext.tup xa4 ha2
    replace ha3 := Ext.tup xa4 ha3
    have FN := FX.ext K xc4
    refine ⟨(by show 3 ≤ sizeLine; decide), fun ul nul => ?_⟩
    have xu := Ext.new (o := .lst [.ref a1, .ref a2, .ref a4]) nul
    have hul : upd HA_4 ul (.lst [.ref a1, .ref a2, .ref a4]) ul = some (.lst [.ref a1, .ref a2, .ref a4]) := upd_same
    generalize upd HA_4 ul (.lst [.ref a1, .ref a2, .ref a4]) = HU at xu hul ⊢
    refine ⟨BL, ul, vs, [.ref a1, .ref a2, .ref a4], rfl, rfl, (Ext.trans xc4 xu).lst hBL, hul, (by show vs.length + 3 ≤ sizeLine; omega), fun nb nnb => ?_⟩
    have xn := Ext.new (o := .lst (vs ++ [.ref a1, .ref a2, .ref a4])) nnb
    have xun := xu.trans xn
    exact ⟨nb, _, rfl, (xX.trans xc4).trans xun, upd_same, all_app (fun v hv => (hbad v hv).ext (Ext.trans xc4 xun)) (all_cons (BadV.ext (FN.b_tv0 FS ha1) xun) (all_cons (BadV.ext (FN.b_path FS ha2 path_non (fun z => nomatch z)) xun) (all_cons (BadV.ext (FN.b_path FS ha4 (path_tup ha3 (FN.d_ys FS)) (fun z => nomatch z)) xun) (all_nil)))), by rw [List.length_append]; show vs.length + 3 ≤ 13; omega⟩
  rintro σ HB ⟨BL, vs, rfl, xX, hBL, hbad, hvl⟩
  have FX := F7.ext K xX
  refine ⟨fun σ H' => ∃ (BL : Addr) (vs : List V), σ = [some (.int c), some (.ref p), y2, some (.int (pl : Int)), some (.int (k : Int)), some hv, some (.ref q), some (.str (S e.1)), some tv, some (.ref pq), some (.ref wq), some ev, some (.bl th), some (.ref cp), some (.ref BL), none, none] ∧ Ext H7 H' ∧ H' BL = some (.lst vs) ∧ (∀ v ∈ vs, BadV K fS H' (ownPap 3 es es.length pl (k : Int)) v) ∧ vs.length ≤ 16, ?_, ?_⟩
  · refine ⟨_, rfl, _, rfl, _, rfl, _, rfl, _, rfl, 1, rfl, pq, ys, rfl, SqL.of (Ext.lst (Ext.refl HB) FX.hp), fun a1 n1 => ?_⟩
    rw [show (1 : Int) = ((1 : Nat) : Int) from rfl, cut_to]
    have xa1 := Ext.new (o := .lst (ys.take 1)) n1
    have ha1 : upd HB a1 (.lst (ys.take 1)) a1 = some (.lst (ys.take 1)) := upd_same
    generalize upd HB a1 (.lst (ys.take 1)) = HB_1 at xa1 ha1 ⊢
    have xc1 := Ext.trans (Ext.refl HB) xa1
    refine ⟨pq, a1, ys, ys.take 1, rfl, rfl, Ext.lst xc1 FX.hp, ha1, (by have h1 := FS.pth.2.2; have h2 := FX.dp.len; rw [List.length_take, sizeLine_eq]; omega), fun a2 n2 => ?_⟩
    have xa2 := Ext.new (o := .lst (ys ++ ys.take 1)) n2
    have ha2 : upd HB_1 a2 (.lst (ys ++ ys.take 1)) a2 = some (.lst (ys ++ ys.take 1)) := upd_same
    generalize upd HB_1 a2 (.lst (ys ++ ys.take 1)) = HB_2 at xa2 ha2 ⊢
    have xc2 := Ext.trans xc1 xa2
    refine ⟨_, rfl, (by show 4 ≤ sizeLine; decide), fun a3 n3 => ?_⟩
    have xa3 := Ext.new (o := .tup [.str (S e.1), tv, .ref a2, .ref wq]) n3
    have ha3 : upd HB_2 a3 (.tup [.str (S e.1), tv, .ref a2, .ref wq]) a3 = some (.tup [.str (S e.1), tv, .ref a2, .ref wq]) := upd_same
    generalize upd HB_2 a3 (.tup [.str (S e.1), tv, .ref a2, .ref wq]) = HB_3 at xa3 ha3 ⊢
    have xc3 := Ext.trans xc2 xa3
    refine ⟨_, rfl, _, rfl, _, rfl, 1, rfl, -1, rfl, pq, ys, rfl, SqL.of (Ext.lst xc3 FX.hp), fun a4 n4 => ?_⟩
    have xa4 := Ext.new (o := .lst (cutV ys none (some (-1)))) n4
    have ha4 : upd HB_3 a4 (.lst (cutV ys none (some (-1)))) a4 = some (.lst (cutV ys none (some (-1)))) := upd_same
    generalize upd HB_3 a4 (.lst (cutV ys none (some (-1)))) = HB_4 at xa4 ha4 ⊢
    have xc4 := Ext.trans xc3 xa4
    refine ⟨_, rfl, (by show 4 ≤ sizeLine; decide), fun a5 n5 => ?_⟩
    have xa5 := Ext.new (o := .tup [.str (S e.1), tv, .ref a4, .ref wq]) n5
    have ha5 : upd HB_4 a5 (.tup [.str (S e.1), tv, .ref a4, .ref wq]) a5 = some (.tup [.str (S e.1), tv, .ref a4, .ref wq]) := upd_same
    generalize upd HB_4 a5 (.tup [.str (S e.1), tv, .ref a4, .ref wq]) = HB_5 at xa5 ha5 ⊢
    have xc5 := Ext.trans xc4 xa5
    refine ⟨_, rfl, _, rfl, _, rfl, (by show 4 ≤ sizeLine; decide), fun a6 n6 => ?_⟩
    have xa6 := Ext.new (o := .tup [.str (S e.1), tv, .ref pq, .non]) n6
    have ha6 : upd HB_5 a6 (.tup [.str (S e.1), tv, .ref pq, .non]) a6 = some (.tup [.str (S e.1), tv, .ref pq, .non]) := upd_same
    generalize upd HB_5 a6 (.tup [.str (S e.1), tv, .ref pq, .non]) = HB_6 at xa6 ha6 ⊢
    have xc6 := Ext.trans xc5 xa6
    replace ha1 := Ext.lst xa2 ha1
    replace ha1 := Ext.lst xa3 ha1
    replace ha1 := Ext.lst xa4 ha1
    replace ha1 := Ext.lst xa5 ha1
    replace ha1 := Ext.lst xa6 ha1
    replace ha2 := Ext.lst xa3 ha2
    replace ha2 := Ext.lst xa4 ha2
    replace ha2 := Ext.lst xa5 ha2
    replace ha2 := Ext.lst xa6 ha2
    replace ha3 := Ext.tup xa4 ha3
    replace ha3 := Ext.tup xa5 ha3
    replace ha3 := Ext.tup xa6 ha3
    replace ha4 := Ext.lst xa5 ha4
    replace ha4 := Ext.lst xa6 ha4
    replace ha5 := Ext.tup xa6 ha5
    have FN := FX.ext K xc6
    refine ⟨(by show 3 ≤ sizeLine; decide), fun ul nul => ?_⟩
    have xu := Ext.new (o := .lst [.ref a3, .ref a5, .ref a6]) nul
    have hul : upd HB_6 ul (.lst [.ref a3, .ref a5, .ref a6]) ul = some (.lst [.ref a3, .ref a5, .ref a6]) := upd_same
    generalize upd HB_6 ul (.lst [.ref a3, .ref a5, .ref a6]) = HU at xu hul ⊢
    refine ⟨BL, ul, vs, [.ref a3, .ref a5, .ref a6], rfl, rfl, (Ext.trans xc6 xu).lst hBL, hul, (by show vs.length + 3 ≤ sizeLine; omega), fun nb nnb => ?_⟩
    have xn := Ext.new (o := .lst (vs ++ [.ref a3, .ref a5, .ref a6])) nnb
    have xun := xu.trans xn
    exact ⟨nb, _, rfl, (xX.trans xc6).trans xun, upd_same, all_app (fun v hv => (hbad v hv).ext (Ext.trans xc6 xun)) (all_cons (BadV.ext (FN.b_path FS ha3 (FN.path_more FS ha2) FS.ne_more) xun) (all_cons (BadV.ext (FN.b_path FS ha5 (FN.path_less FS ha4) FS.ne_less) xun) (all_cons (BadV.ext (FN.b_way FS ha6 way_non (fun z => nomatch z)) xun) (all_nil)))), by rw [List.length_append]; show vs.length + 3 ≤ 16; omega⟩
  rintro σ HC ⟨BL, vs, rfl, xX, hBL, hbad, hvl⟩
  have FX := F7.ext K xX
  refine ⟨fun σ H' => ∃ (BL : Addr) (vs : List V), σ = [some (.int c), some (.ref p), y2, some (.int (pl : Int)), some (.int (k : Int)), some hv, some (.ref q), some (.str (S e.1)), some tv, some (.ref pq), some (.ref wq), some ev, some (.bl th), some (.ref cp), some (.ref BL), none, none] ∧ Ext H7 H' ∧ H' BL = some (.lst vs) ∧ (∀ v ∈ vs, BadV K fS H' (ownPap 3 es es.length pl (k : Int)) v) ∧ vs.length ≤ 19, ?_, ?_⟩
  · refine ⟨_, rfl, _, rfl, _, rfl, _, rfl, _, rfl, wq, _, rfl, .inr (SqT.of (Ext.tup (Ext.refl HC) FX.hw)), fun a1 n1 => ?_⟩
    have xa1 := Ext.new (o := .lst [.ref o, ev]) n1
    have ha1 : upd HC a1 (.lst [.ref o, ev]) a1 = some (.lst [.ref o, ev]) := upd_same
    generalize upd HC a1 (.lst [.ref o, ev]) = HC_1 at xa1 ha1 ⊢
    have xc1 := Ext.trans (Ext.refl HC) xa1
    refine ⟨(by show 4 ≤ sizeLine; decide), fun a2 n2 => ?_⟩
    have xa2 := Ext.new (o := .tup [.str (S e.1), tv, .ref pq, .ref a1]) n2
    have ha2 : upd HC_1 a2 (.tup [.str (S e.1), tv, .ref pq, .ref a1]) a2 = some (.tup [.str (S e.1), tv, .ref pq, .ref a1]) := upd_same
    generalize upd HC_1 a2 (.tup [.str (S e.1), tv, .ref pq, .ref a1]) = HC_2 at xa2 ha2 ⊢
    have xc2 := Ext.trans xc1 xa2
    refine ⟨_, rfl, _, rfl, _, rfl, _, rfl, 1, rfl, wq, _, rfl, SqT.of (Ext.tup xc2 FX.hw), (fun z => absurd z.2 (by show ¬ (1 = 2); decide)), fun a3 n3 => ?_⟩
    rw [show cutV [V.ref o, ev] none (some 1) = [V.ref o] from rfl]
    have xa3 := Ext.new (o := .tup [.ref o]) n3
    have ha3 : upd HC_2 a3 (.tup [.ref o]) a3 = some (.tup [.ref o]) := upd_same
    generalize upd HC_2 a3 (.tup [.ref o]) = HC_3 at xa3 ha3 ⊢
    have xc3 := Ext.trans xc2 xa3
    refine ⟨(by show 4 ≤ sizeLine; decide), fun a4 n4 => ?_⟩
    have xa4 := Ext.new (o := .tup [.str (S e.1), tv, .ref pq, .ref a3]) n4
    have ha4 : upd HC_3 a4 (.tup [.str (S e.1), tv, .ref pq, .ref a3]) a4 = some (.tup [.str (S e.1), tv, .ref pq, .ref a3]) := upd_same
    generalize upd HC_3 a4 (.tup [.str (S e.1), tv, .ref pq, .ref a3]) = HC_4 at xa4 ha4 ⊢
    have xc4 := Ext.trans xc3 xa4
    refine ⟨_, rfl, _, rfl, _, rfl, _, rfl, (by show 1 ≤ sizeLine; decide), fun a5 n5 => ?_⟩
    have xa5 := Ext.new (o := .tup [.non]) n5
    have ha5 : upd HC_4 a5 (.tup [.non]) a5 = some (.tup [.non]) := upd_same
    generalize upd HC_4 a5 (.tup [.non]) = HC_5 at xa5 ha5 ⊢
    have xc5 := Ext.trans xc4 xa5
    refine ⟨wq, a5, _, _, rfl, rfl, SqT.of (Ext.tup xc5 FX.hw), SqT.of ha5, (fun z => nomatch z), (by show 3 ≤ sizeLine; decide), (fun z => nomatch z), fun _ a6 n6 => ?_⟩
    have xa6 := Ext.new (o := .tup ([.ref o, ev] ++ [.non])) n6
    have ha6 : upd HC_5 a6 (.tup ([.ref o, ev] ++ [.non])) a6 = some (.tup ([.ref o, ev] ++ [.non])) := upd_same
    generalize upd HC_5 a6 (.tup ([.ref o, ev] ++ [.non])) = HC_6 at xa6 ha6 ⊢
    have xc6 := Ext.trans xc5 xa6
    refine ⟨(by show 4 ≤ sizeLine; decide), fun a7 n7 => ?_⟩
    have xa7 := Ext.new (o := .tup [.str (S e.1), tv, .ref pq, .ref a6]) n7
    have ha7 : upd HC_6 a7 (.tup [.str (S e.1), tv, .ref pq, .ref a6]) a7 = some (.tup [.str (S e.1), tv, .ref pq, .ref a6]) := upd_same
    generalize upd HC_6 a7 (.tup [.str (S e.1), tv, .ref pq, .ref a6]) = HC_7 at xa7 ha7 ⊢
    have xc7 := Ext.trans xc6 xa7
    replace ha1 := Ext.lst xa2 ha1
    replace ha1 := Ext.lst xa3 ha1
    replace ha1 := Ext.lst xa4 ha1
    replace ha1 := Ext.lst xa5 ha1
    replace ha1 := Ext.lst xa6 ha1
    replace ha1 := Ext.lst xa7 ha1
    replace ha2 := Ext.tup xa3 ha2
    replace ha2 := Ext.tup xa4 ha2
    replace ha2 := Ext.tup xa5 ha2
    replace ha2 := Ext.tup xa6 ha2
    replace ha2 := Ext.tup xa7 ha2
    replace ha3 := Ext.tup xa4 ha3
    replace ha3 := Ext.tup xa5 ha3
    replace ha3 := Ext.tup xa6 ha3
    replace ha3 := Ext.tup xa7 ha3
    replace ha4 := Ext.tup xa5 ha4
    replace ha4 := Ext.tup xa6 ha4
    replace ha4 := Ext.tup xa7 ha4
    replace ha5 := Ext.tup xa6 ha5
    replace ha5 := Ext.tup xa7 ha5
    replace ha6 := Ext.tup xa7 ha6
    have FN := FX.ext K xc7
    refine ⟨(by show 3 ≤ sizeLine; decide), fun ul nul => ?_⟩
    have xu := Ext.new (o := .lst [.ref a2, .ref a4, .ref a7]) nul
    have hul : upd HC_7 ul (.lst [.ref a2, .ref a4, .ref a7]) ul = some (.lst [.ref a2, .ref a4, .ref a7]) := upd_same
    generalize upd HC_7 ul (.lst [.ref a2, .ref a4, .ref a7]) = HU at xu hul ⊢
    refine ⟨BL, ul, vs, [.ref a2, .ref a4, .ref a7], rfl, rfl, (Ext.trans xc7 xu).lst hBL, hul, (by show vs.length + 3 ≤ sizeLine; omega), fun nb nnb => ?_⟩
    have xn := Ext.new (o := .lst (vs ++ [.ref a2, .ref a4, .ref a7])) nnb
    have xun := xu.trans xn
    exact ⟨nb, _, rfl, (xX.trans xc7).trans xun, upd_same, all_app (fun v hv => (hbad v hv).ext (Ext.trans xc7 xun)) (all_cons (BadV.ext (FN.b_way FS ha2 (way_lst ha1 (all_cons (FN.d_o FS) (all_cons FN.d_ev all_nil))) (fun z => nomatch z)) xun) (all_cons (BadV.ext (FN.b_way FS ha4 (way_tup ha3 (all_cons (FN.d_o FS) all_nil) (by show 1 ≠ 2; decide)) (fun z => nomatch z)) xun) (all_cons (BadV.ext (FN.b_way FS ha7 (way_tup ha6 (all_app (all_cons (FN.d_o FS) (all_cons FN.d_ev all_nil)) (all_cons datE_non all_nil)) (by show 3 ≠ 2; decide)) (fun z => nomatch z)) xun) (all_nil)))), by rw [List.length_append]; show vs.length + 3 ≤ 19; omega⟩
  rintro σ HD ⟨BL, vs, rfl, xX, hBL, hbad, hvl⟩
  have FX := F7.ext K xX
  refine ⟨fun σ H' => ∃ (BL : Addr) (vs : List V), σ = [some (.int c), some (.ref p), y2, some (.int (pl : Int)), some (.int (k : Int)), some hv, some (.ref q), some (.str (S e.1)), some tv, some (.ref pq), some (.ref wq), some ev, some (.bl th), some (.ref cp), some (.ref BL), none, none] ∧ Ext H7 H' ∧ H' BL = some (.lst vs) ∧ (∀ v ∈ vs, BadV K fS H' (ownPap 3 es es.length pl (k : Int)) v) ∧ vs.length ≤ 21, ?_, ?_⟩
  · refine ⟨_, rfl, _, rfl, _, rfl, _, rfl, _, rfl, wq, _, 0, _, rfl, rfl, SqT.of (Ext.tup (Ext.refl HD) FX.hw), rfl, o, zs, rfl, .inl ⟨SqL.of (Ext.lst (Ext.refl HD) FX.ho), fun a1 n1 => ?_⟩⟩
    have xa1 := Ext.new (o := .tup zs) n1
    have ha1 : upd HD a1 (.tup zs) a1 = some (.tup zs) := upd_same
    generalize upd HD a1 (.tup zs) = HD_1 at xa1 ha1 ⊢
    have xc1 := Ext.trans (Ext.refl HD) xa1
    refine ⟨_, rfl, (by show 2 ≤ sizeLine; decide), fun a2 n2 => ?_⟩
    have xa2 := Ext.new (o := .tup [.ref a1, ev]) n2
    have ha2 : upd HD_1 a2 (.tup [.ref a1, ev]) a2 = some (.tup [.ref a1, ev]) := upd_same
    generalize upd HD_1 a2 (.tup [.ref a1, ev]) = HD_2 at xa2 ha2 ⊢
    have xc2 := Ext.trans xc1 xa2
    refine ⟨(by show 4 ≤ sizeLine; decide), fun a3 n3 => ?_⟩
    have xa3 := Ext.new (o := .tup [.str (S e.1), tv, .ref pq, .ref a2]) n3
    have ha3 : upd HD_2 a3 (.tup [.str (S e.1), tv, .ref pq, .ref a2]) a3 = some (.tup [.str (S e.1), tv, .ref pq, .ref a2]) := upd_same
    generalize upd HD_2 a3 (.tup [.str (S e.1), tv, .ref pq, .ref a2]) = HD_3 at xa3 ha3 ⊢
    have xc3 := Ext.trans xc2 xa3
    refine ⟨_, rfl, _, rfl, _, rfl, _, rfl, (by show 2 ≤ sizeLine; decide), fun a4 n4 => ?_⟩
    have xa4 := Ext.new (o := .tup [.non, ev]) n4
    have ha4 : upd HD_3 a4 (.tup [.non, ev]) a4 = some (.tup [.non, ev]) := upd_same
    generalize upd HD_3 a4 (.tup [.non, ev]) = HD_4 at xa4 ha4 ⊢
    have xc4 := Ext.trans xc3 xa4
    refine ⟨(by show 4 ≤ sizeLine; decide), fun a5 n5 => ?_⟩
    have xa5 := Ext.new (o := .tup [.str (S e.1), tv, .ref pq, .ref a4]) n5
    have ha5 : upd HD_4 a5 (.tup [.str (S e.1), tv, .ref pq, .ref a4]) a5 = some (.tup [.str (S e.1), tv, .ref pq, .ref a4]) := upd_same
    generalize upd HD_4 a5 (.tup [.str (S e.1), tv, .ref pq, .ref a4]) = HD_5 at xa5 ha5 ⊢
    have xc5 := Ext.trans xc4 xa5
    replace ha1 := Ext.tup xa2 ha1
    replace ha1 := Ext.tup xa3 ha1
    replace ha1 := Ext.tup xa4 ha1
    replace ha1 := Ext.tup xa5 ha1
    replace ha2 := Ext.tup xa3 ha2
    replace ha2 := Ext.tup xa4 ha2
    replace ha2 := Ext.tup xa5 ha2
    replace ha3 := Ext.tup xa4 ha3
    replace ha3 := Ext.tup xa5 ha3
    replace ha4 := Ext.tup xa5 ha4
    have FN := FX.ext K xc5
    refine ⟨(by show 2 ≤ sizeLine; decide), fun ul nul => ?_⟩
    have xu := Ext.new (o := .lst [.ref a3, .ref a5]) nul
    have hul : upd HD_5 ul (.lst [.ref a3, .ref a5]) ul = some (.lst [.ref a3, .ref a5]) := upd_same
    generalize upd HD_5 ul (.lst [.ref a3, .ref a5]) = HU at xu hul ⊢
    refine ⟨BL, ul, vs, [.ref a3, .ref a5], rfl, rfl, (Ext.trans xc5 xu).lst hBL, hul, (by show vs.length + 2 ≤ sizeLine; omega), fun nb nnb => ?_⟩
    have xn := Ext.new (o := .lst (vs ++ [.ref a3, .ref a5])) nnb
    have xun := xu.trans xn
    exact ⟨nb, _, rfl, (xX.trans xc5).trans xun, upd_same, all_app (fun v hv => (hbad v hv).ext (Ext.trans xc5 xun)) (all_cons (BadV.ext (FN.b_way FS ha3 (way_two ha2 (not_tup ha1) (FN.odd_zs FS ha1) FN.d_ev) (fun z => nomatch z)) xun) (all_cons (BadV.ext (FN.b_way FS ha5 (way_two ha4 (not_non _ (.inr rfl)) odd_non2 FN.d_ev) (fun z => nomatch z)) xun) (all_nil))), by rw [List.length_append]; show vs.length + 2 ≤ 21; omega⟩
  rintro σ HE ⟨BL, vs, rfl, xX, hBL, hbad, hvl⟩
  have FX := F7.ext K xX
  refine ⟨fun σ H' => ∃ (BL : Addr) (vs : List V), σ = [some (.int c), some (.ref p), y2, some (.int (pl : Int)), some (.int (k : Int)), some hv, some (.ref q), some (.str (S e.1)), some tv, some (.ref pq), some (.ref wq), some ev, some (.bl th), some (.ref cp), some (.ref BL), none, none] ∧ Ext H7 H' ∧ H' BL = some (.lst vs) ∧ (∀ v ∈ vs, BadV K fS H' (ownPap 3 es es.length pl (k : Int)) v) ∧ vs.length ≤ 24, ?_, ?_⟩
  · refine ⟨_, rfl, (by show 3 ≤ sizeLine; decide), fun tq ntq => ?_⟩
    have xt := Ext.new (o := .tup [.int 1, .int 3, .int 4]) ntq
    have htq : upd HE tq (.tup [.int 1, .int 3, .int 4]) tq = some (.tup [.int 1, .int 3, .int 4]) := upd_same
    generalize upd HE tq (.tup [.int 1, .int 3, .int 4]) = HT at xt htq ⊢
    have FT := FX.ext K xt
    refine ⟨tq, rfl, ⟨_, SqT.of htq⟩, fun D nD => ?_⟩
    refine lc_tup (K := K) (a := tq) (xs := [.int 1, .int 3, .int 4]) (fun i H' => ∃ us, Ext HT H' ∧ H' D = some (.lst us) ∧ (∀ (i : Nat) (u : V), us[i]? = some u → ∃ (a b2 b3 : Addr) (m : Nat), u = .ref a ∧ H' a = some (.tup [.str (S e.1), tv, .ref pq, .ref b2]) ∧ H' b2 = some (.tup [.ref b3, ev]) ∧ H' b3 = some (.lst (zs ++ List.replicate m tv)) ∧ 0 < m ∧ m ≤ 4 ∧ b3 ≠ D) ∧ us.length = i) ⟨[], Ext.new nD, upd_same, (fun i u z => by simp at z), rfl⟩ (fun i H' _ ⟨_, x, _⟩ => SqT.of (x.tup htq)) ?_ ?_
    · rintro i y H' hy ⟨us, x, hD, hus, hul⟩
      obtain ⟨m, hm0, hm, rfl⟩ : ∃ m : Nat, 0 < m ∧ m ≤ 4 ∧ y = .int (m : Int) := by
        match i, hy with
        | 0, hy => cases hy; exact ⟨1, by decide, by decide, rfl⟩
        | 1, hy => cases hy; exact ⟨3, by decide, by decide, rfl⟩
        | 2, hy => cases hy; exact ⟨4, by decide, by decide, rfl⟩
        | n + 3, hy => exact absurd hy (by simp)
      have F' := FT.ext K x
      have hzl := F'.dw.len
      have hwl := FS.way.2
      refine ⟨rfl, _, rfl, _, rfl, _, rfl, _, rfl, wq, _, 0, _, rfl, rfl, SqT.of F'.hw, rfl, _, rfl, (by show 1 ≤ sizeLine; decide), fun l1 nl1 => ?_⟩
      have xb1 := Ext.new (o := .lst [tv]) nl1
      have hl1 : upd H' l1 (.lst [tv]) l1 = some (.lst [tv]) := upd_same
      generalize upd H' l1 (.lst [tv]) = HB1 at xb1 hl1 ⊢
      refine ⟨_, rfl, l1, (m : Int), [tv], rfl, rfl, hl1, by omega, by omega, (by rw [Int.toNat_natCast, sizeLine_eq]; show 1 * m ≤ _; omega), fun l2 nl2 => ?_⟩
      rw [Int.toNat_natCast, List.flatten_replicate_singleton]
      have xb2 := Ext.new (o := .lst (List.replicate m tv)) nl2
      have hl2 : upd HB1 l2 (.lst (List.replicate m tv)) l2 = some (.lst (List.replicate m tv)) := upd_same
      generalize upd HB1 l2 (.lst (List.replicate m tv)) = HB2 at xb2 hl2 ⊢
      have xb12 := xb1.trans xb2
      refine ⟨o, l2, zs, _, rfl, rfl, xb12.lst F'.ho, hl2, (by rw [List.length_replicate, sizeLine_eq]; omega), fun l3 nl3 => ?_⟩
      have xb3 := Ext.new (o := .lst (zs ++ List.replicate m tv)) nl3
      have hl3 : upd HB2 l3 (.lst (zs ++ List.replicate m tv)) l3 = some (.lst (zs ++ List.replicate m tv)) := upd_same
      generalize upd HB2 l3 (.lst (zs ++ List.replicate m tv)) = HB3 at xb3 hl3 ⊢
      refine ⟨_, rfl, (by show 2 ≤ sizeLine; decide), fun t1 nt1 => ?_⟩
      have xb4 := Ext.new (o := .tup [.ref l3, ev]) nt1
      have ht1 : upd HB3 t1 (.tup [.ref l3, ev]) t1 = some (.tup [.ref l3, ev]) := upd_same
      generalize upd HB3 t1 (.tup [.ref l3, ev]) = HB4 at xb4 ht1 ⊢
      refine ⟨(by show 4 ≤ sizeLine; decide), fun t2 nt2 => ?_⟩
      have xb5 := Ext.new (o := .tup [.str (S e.1), tv, .ref pq, .ref t1]) nt2
      have ht2 : upd HB4 t2 (.tup [.str (S e.1), tv, .ref pq, .ref t1]) t2 = some (.tup [.str (S e.1), tv, .ref pq, .ref t1]) := upd_same
      generalize upd HB4 t2 (.tup [.str (S e.1), tv, .ref pq, .ref t1]) = HB5 at xb5 ht2 ⊢
      have xb15 := (xb12.trans xb3).trans (xb4.trans xb5)
      have hD5 := xb15.lst hD
      have hl35 := (xb4.trans xb5).lst hl3
      have ht15 := xb5.tup ht1
      have off : ∀ {a : Addr} {xs : List V}, HB5 a = some (.tup xs) → upd HB5 D (.lst (us ++ [.ref t2])) a = some (.tup xs) := fun {a xs} h => by
        rw [upd_ne (fun z => by rw [z, hD5] at h; cases h)]
        exact h
      have offl : ∀ {a : Addr} {ws : List V}, H' a = none → HB5 a = some (.lst ws) → upd HB5 D (.lst (us ++ [.ref t2])) a = some (.lst ws) := fun {a ws} n h => by
        rw [upd_ne (ne_of_none hD n).symm]
        exact h
      refine ⟨us, hD5, by rw [hul, sizeLine_eq]; have := (List.getElem?_eq_some_iff.mp hy).1; have e3 : [V.int 1, .int 3, .int 4].length = 3 := rfl; omega, us ++ [.ref t2], (x.trans xb15).mut nD, upd_same, fun j u hj => ?_, by rw [List.length_append, hul]; rfl⟩
      by_cases c : j < us.length
      · rw [List.getElem?_append_left c] at hj
        obtain ⟨a, b2, b3, m', e1, e2, e3, e4, e5, e6, e7⟩ := hus j u hj
        refine ⟨a, b2, b3, m', e1, off (xb15.tup e2), off (xb15.tup e3), ?_, e5, e6, e7⟩
        rw [upd_ne e7]
        exact xb15.lst e4
      · rw [List.getElem?_append_right (by omega)] at hj
        have ej : j - us.length = 0 := by
          cases hjj : j - us.length with
          | zero => rfl
          | succ n => rw [hjj] at hj; simp at hj
        rw [ej] at hj
        cases hj
        exact ⟨t2, t1, l3, m, rfl, off ht2, off ht15, offl ((xb12).free nl3) hl35, hm0, hm, (ne_of_none hD ((xb12).free nl3)).symm⟩
    rintro HT2 ⟨us, x, hD, hus, hul⟩
    have xcl := xt.trans x
    have FN := FX.ext K xcl
    have hul3 : us.length = 3 := hul
    refine ⟨BL, D, vs, us, rfl, rfl, xcl.lst hBL, hD, (by rw [hul3, sizeLine_eq]; omega), fun nb nnb => ?_⟩
    have xn := Ext.new (o := .lst (vs ++ us)) nnb
    refine ⟨nb, _, rfl, (xX.trans xcl).trans xn, upd_same, all_app (fun v hv => (hbad v hv).ext (xcl.trans xn)) (fun v hv => ?_), by rw [List.length_append, hul3]; omega⟩
    obtain ⟨i, hi⟩ := List.getElem?_of_mem hv
    obtain ⟨a, b2, b3, m, rfl, e2, e3, e4, e5, e6, _⟩ := hus i v hi
    exact (FN.b_way FS e2 (FN.way_more FS e6 e3 e4) (way_ne (by rw [List.length_append, List.length_replicate]; omega))).ext xn
  rintro σ HF ⟨BL, vs, rfl, xX, hBL, hbad, hvl⟩
  have FX := F7.ext K xX
  refine ⟨fun σ H' => ∃ (BL : Addr) (vs : List V), σ = [some (.int c), some (.ref p), y2, some (.int (pl : Int)), some (.int (k : Int)), some hv, some (.ref q), some (.str (S e.1)), some tv, some (.ref pq), some (.ref wq), some ev, some (.bl th), some (.ref cp), some (.ref BL), none, none] ∧ Ext H7 H' ∧ H' BL = some (.lst vs) ∧ (∀ v ∈ vs, BadV K fS H' (ownPap 3 es es.length pl (k : Int)) v) ∧ vs.length ≤ 26, ?_, ?_⟩
  · refine ⟨_, rfl, rfl, _, rfl, ?_⟩
    rcases FX.he with ⟨g1, rfl⟩ | ⟨x, qe, g1, rfl, g3, g4⟩
    · exact iteF ⟨BL, vs, rfl, xX, hBL, hbad, Nat.le_trans hvl (by decide)⟩
    · refine iteT ?_
      refine ⟨_, rfl, _, rfl, _, rfl, _, rfl, _, rfl, wq, _, 0, _, rfl, rfl, SqT.of (Ext.tup (Ext.refl HF) FX.hw), rfl, _, rfl, qe, _, rfl, .inr (SqT.of (Ext.tup (Ext.refl HF) g3)), fun a1 n1 => ?_⟩
      have xa1 := Ext.new (o := .lst [.int x.1, .str x.2]) n1
      have ha1 : upd HF a1 (.lst [.int x.1, .str x.2]) a1 = some (.lst [.int x.1, .str x.2]) := upd_same
      generalize upd HF a1 (.lst [.int x.1, .str x.2]) = HF_1 at xa1 ha1 ⊢
      have xc1 := Ext.trans (Ext.refl HF) xa1
      refine ⟨(by show 2 ≤ sizeLine; decide), fun a2 n2 => ?_⟩
      have xa2 := Ext.new (o := .tup [.ref o, .ref a1]) n2
      have ha2 : upd HF_1 a2 (.tup [.ref o, .ref a1]) a2 = some (.tup [.ref o, .ref a1]) := upd_same
      generalize upd HF_1 a2 (.tup [.ref o, .ref a1]) = HF_2 at xa2 ha2 ⊢
      have xc2 := Ext.trans xc1 xa2
      refine ⟨(by show 4 ≤ sizeLine; decide), fun a3 n3 => ?_⟩
      have xa3 := Ext.new (o := .tup [.str (S e.1), tv, .ref pq, .ref a2]) n3
      have ha3 : upd HF_2 a3 (.tup [.str (S e.1), tv, .ref pq, .ref a2]) a3 = some (.tup [.str (S e.1), tv, .ref pq, .ref a2]) := upd_same
      generalize upd HF_2 a3 (.tup [.str (S e.1), tv, .ref pq, .ref a2]) = HF_3 at xa3 ha3 ⊢
      have xc3 := Ext.trans xc2 xa3
      refine ⟨_, rfl, _, rfl, _, rfl, _, rfl, wq, _, 0, _, rfl, rfl, SqT.of (Ext.tup xc3 FX.hw), rfl, _, rfl, (by show 1 ≤ sizeLine; decide), fun a4 n4 => ?_⟩
      have xa4 := Ext.new (o := .tup [.int 0]) n4
      have ha4 : upd HF_3 a4 (.tup [.int 0]) a4 = some (.tup [.int 0]) := upd_same
      generalize upd HF_3 a4 (.tup [.int 0]) = HF_4 at xa4 ha4 ⊢
      have xc4 := Ext.trans xc3 xa4
      refine ⟨qe, a4, _, _, rfl, rfl, SqT.of (Ext.tup xc4 g3), SqT.of ha4, (fun z => nomatch z), (by show 3 ≤ sizeLine; decide), (fun z => nomatch z), fun _ a5 n5 => ?_⟩
      have xa5 := Ext.new (o := .tup ([.int x.1, .str x.2] ++ [.int 0])) n5
      have ha5 : upd HF_4 a5 (.tup ([.int x.1, .str x.2] ++ [.int 0])) a5 = some (.tup ([.int x.1, .str x.2] ++ [.int 0])) := upd_same
      generalize upd HF_4 a5 (.tup ([.int x.1, .str x.2] ++ [.int 0])) = HF_5 at xa5 ha5 ⊢
      have xc5 := Ext.trans xc4 xa5
      refine ⟨(by show 2 ≤ sizeLine; decide), fun a6 n6 => ?_⟩
      have xa6 := Ext.new (o := .tup [.ref o, .ref a5]) n6
      have ha6 : upd HF_5 a6 (.tup [.ref o, .ref a5]) a6 = some (.tup [.ref o, .ref a5]) := upd_same
      generalize upd HF_5 a6 (.tup [.ref o, .ref a5]) = HF_6 at xa6 ha6 ⊢
      have xc6 := Ext.trans xc5 xa6
      refine ⟨(by show 4 ≤ sizeLine; decide), fun a7 n7 => ?_⟩
      have xa7 := Ext.new (o := .tup [.str (S e.1), tv, .ref pq, .ref a6]) n7
      have ha7 : upd HF_6 a7 (.tup [.str (S e.1), tv, .ref pq, .ref a6]) a7 = some (.tup [.str (S e.1), tv, .ref pq, .ref a6]) := upd_same
      generalize upd HF_6 a7 (.tup [.str (S e.1), tv, .ref pq, .ref a6]) = HF_7 at xa7 ha7 ⊢
      have xc7 := Ext.trans xc6 xa7
      replace ha1 := Ext.lst xa2 ha1
      replace ha1 := Ext.lst xa3 ha1
      replace ha1 := Ext.lst xa4 ha1
      replace ha1 := Ext.lst xa5 ha1
      replace ha1 := Ext.lst xa6 ha1
      replace ha1 := Ext.lst xa7 ha1
      replace ha2 := Ext.tup xa3 ha2
      replace ha2 := Ext.tup xa4 ha2
      replace ha2 := Ext.tup xa5 ha2
      replace ha2 := Ext.tup xa6 ha2
      replace ha2 := Ext.tup xa7 ha2
      replace ha3 := Ext.tup xa4 ha3
      replace ha3 := Ext.tup xa5 ha3
      replace ha3 := Ext.tup xa6 ha3
      replace ha3 := Ext.tup xa7 ha3
      replace ha4 := Ext.tup xa5 ha4
      replace ha4 := Ext.tup xa6 ha4
      replace ha4 := Ext.tup xa7 ha4
      replace ha5 := Ext.tup xa6 ha5
      replace ha5 := Ext.tup xa7 ha5
      replace ha6 := Ext.tup xa7 ha6
      have FN := FX.ext K xc7
      refine ⟨(by show 2 ≤ sizeLine; decide), fun ul nul => ?_⟩
      have xu := Ext.new (o := .lst [.ref a3, .ref a7]) nul
      have hul : upd HF_7 ul (.lst [.ref a3, .ref a7]) ul = some (.lst [.ref a3, .ref a7]) := upd_same
      generalize upd HF_7 ul (.lst [.ref a3, .ref a7]) = HU at xu hul ⊢
      refine ⟨BL, ul, vs, [.ref a3, .ref a7], rfl, rfl, (Ext.trans xc7 xu).lst hBL, hul, (by show vs.length + 2 ≤ sizeLine; omega), fun nb nnb => ?_⟩
      have xn := Ext.new (o := .lst (vs ++ [.ref a3, .ref a7])) nnb
      have xun := xu.trans xn
      exact ⟨nb, _, rfl, (xX.trans xc7).trans xun, upd_same, all_app (fun v hv => (hbad v hv).ext (Ext.trans xc7 xun)) (all_cons (BadV.ext (FN.b_way FS ha3 (FN.way_end FS ha2 (end_lst ha1 (all_cons (datE_int x.1) (all_cons (datE_str g4) all_nil)))) (fun z => nomatch (Prod.ext_iff.mp (Option.some.inj z)).2)) xun) (all_cons (BadV.ext (FN.b_way FS ha7 (FN.way_end FS ha6 (end_tup ha5 (all_app (all_cons (datE_int x.1) (all_cons (datE_str g4) all_nil)) (all_cons (datE_int 0) all_nil)) (by show 3 ≠ 2; decide))) (fun z => nomatch (Prod.ext_iff.mp (Option.some.inj z)).2)) xun) (all_nil))), by rw [List.length_append]; show vs.length + 2 ≤ 26; omega⟩
  rintro σ HG ⟨BL, vs, rfl, xX, hBL, hbad, hvl⟩
  have FX := F7.ext K xX

  -- each is judged False
  refine ⟨_, rfl, BL, rfl, ⟨_, SqL.of hBL⟩, for_list (K := K) (a := BL) (xs := vs) (fun i σ H' => ∃ (y15 : Option V), σ = [some (.int c), some (.ref p), y2, some (.int (pl : Int)), some (.int (k : Int)), some hv, some (.ref q), some (.str (S e.1)), some tv, some (.ref pq), some (.ref wq), some ev, some (.bl th), some (.ref cp), some (.ref BL), y15, none] ∧ Ext HG H') ⟨none, rfl, Ext.refl _⟩ (fun i σ H' _ ⟨_, _, x⟩ => SqL.of (x.lst hBL)) ?_ ?_⟩
  · rintro i u σ HI hu ⟨y15, rfl, x⟩
    have xGI := xX.trans x
    have hFI := hF7.ext xGI
    obtain ⟨pm, hpm, hne⟩ := (hbad u (List.mem_of_getElem? hu)).ext x
    have tws : WS (topT (es.map (leafT 3))) := topT_ws fun t ht => by obtain ⟨e, _, rfl⟩ := List.mem_map.mp ht; exact leafT_ws 3 e
    have tdp := topT_dep (d := 6) 3 (es.map (leafT 3)) (by rw [List.length_map, esl]; decide) fun t ht => by obtain ⟨e, _, rfl⟩ := List.mem_map.mp ht; exact leafT_dep 3 e
    refine ⟨_, rfl, clB CH CL cl, _, cp, cdx, _, csB_at K CH CL (Fam16 mg) cl, rfl, xGI.ins hcp, (bhF_no cl).1, _, rfl, _, rfl, plainSys tfP fS, cp, cdx, cl, es.length, (es.length : Int), _, hv, u, pm, 0, hF, by rw [esl]; rfl, xGI.ins hcp, rfl, by omega, hFI.hd, tws, by omega, hpm, trivial, fun HJ xJ _ => ?_⟩
    rw [jbad pm hpm.okm hne]
    refine ⟨false, false, rfl, rfl, _, rfl, ?_⟩
    refine iteF ?_
    exact ⟨_, rfl, x.trans xJ⟩
  rintro σ HI ⟨y15, rfl, x⟩
  have xGI := xX.trans x
  have hFI := hF7.ext xGI
  have FI := FX.ext K x
  have hown := FI.own (K := K) FS
  have tws : WS (topT (es.map (leafT 3))) := topT_ws fun t ht => by obtain ⟨e, _, rfl⟩ := List.mem_map.mp ht; exact leafT_ws 3 e
  have tdp := topT_dep (d := 6) 3 (es.map (leafT 3)) (by rw [List.length_map, esl]; decide) fun t ht => by obtain ⟨e, _, rfl⟩ := List.mem_map.mp ht; exact leafT_dep 3 e
  refine ⟨_, rfl, clB CH CL cl, _, cp, cdx, _, csB_at K CH CL (Fam16 mg) cl, rfl, xGI.ins hcp, (bhF_no cl).1, _, rfl, _, rfl, plainSys tfP fS, cp, cdx, cl, es.length, (es.length : Int), _, hv, .ref q, _, 0, hF, by rw [esl]; rfl, xGI.ins hcp, rfl, by omega, hFI.hd, tws, by omega, hown, trivial, fun HJ xJ _ => ?_⟩
  rw [jown hown.okm]
  refine ⟨true, true, rfl, rfl, _, rfl, ?_⟩
  refine iteF ?_
  have FJ := FI.ext K xJ
  exact ⟨_, rfl, _, rfl, _, rfl, _, rfl, fS, p, t, b, v, es, pl, hv, pq, ys, mS, rfl, hFI.ext xJ, esl, hpl, FJ.hp, FJ.dp, fun H' x' => qq H'⟩
end

/-! ### a place's path, a size's growth, of another form -/
section
variable {P : Program} {w : World} {K : PySem.W.Frag} {mg : Str → Option Value} {base : Heap} {CK CT CS CG : Addr}
/-- a paper that is not the due list -/
def NoPap (K : PySem.W.Frag) (fS : Addr) (H : Hp) (ps : List Tm) (v : V) : Prop := ∃ pm, (∀ c : Prop, c → PapW K (plainSys tfP fS) H c v pm) ∧ pm ≠ some ps
section
variable {fS : Addr} {H H' : Hp} {ps : List Tm} {v : V} {a : Addr} {ys : List V}
theorem NoPap.ext (h : NoPap K fS H ps v) (x : Ext H H') : NoPap K fS H' ps v := by
  obtain ⟨pm, h1, h2⟩ := h
  exact ⟨pm, fun c hc => (h1 c hc).ext (goodP (K := K) fS) x, h2⟩
theorem no_odd (h : ∀ H', Ext H H' → Odd K H' v) : NoPap K fS H ps v := ⟨none, fun _ _ => .inl h, fun z => nomatch z⟩
theorem no_str {x : Str} (h : txtOk x = true) : NoPap K fS H ps (.str x) := no_odd fun _ _ => ⟨⟨_, .base (.str _), kit_ty (by decide +kernel)⟩, .str x, .str _, shaped_of h (Nat.zero_le _), rfl⟩
theorem no_dict (h : H a = some (.dK [])) : NoPap K fS H ps (.ref a) := ⟨none, fun c hc => .inr ⟨rfl, hc, fun H' x => ⟨_, .base (.dK (x.dK h)), kit_ty (by decide +kernel)⟩⟩, fun z => nomatch z⟩
variable (hd : DenL (plainSys tfP fS) H ys ps) (hp : ∀ t ∈ ps, WS t ∧ t.dep ≤ 28) (h0 : ps.length ≠ 0) (h1 : ps.length ≤ 40)
include hd hp h0 h1
omit h0 h1 in
theorem no_tup (h : H a = some (.tup ys)) : NoPap K fS H ps (.ref a) := no_odd (odd_tup (goodP fS) h hd hp)
theorem no_more (h : H a = some (.lst (ys ++ ys.take 1))) : NoPap K fS H ps (.ref a) := by
  refine ⟨some (ps ++ ps.take 1), fun _ _ => .inl ⟨a, _, rfl, h, hd.append (hd.take 1), ?_, fun t ht => ?_⟩, fun z => ?_⟩
  · rw [List.length_append, List.length_take]
    omega
  · rcases List.mem_append.mp ht with ht | ht
    · exact hp t ht
    · exact hp t (List.mem_of_mem_take ht)
  · have := congrArg List.length (Option.some.inj z)
    rw [List.length_append, List.length_take] at this
    omega
theorem no_less (h : H a = some (.lst (cutV ys none (some (-1))))) : NoPap K fS H ps (.ref a) := by
  have hl := hd.len
  rw [cut_drop1 (by omega), hl] at h
  refine ⟨some (ps.take (ps.length - 1)), fun _ _ => .inl ⟨a, _, rfl, h, hd.take _, ?_, fun t ht => hp t (List.mem_of_mem_take ht)⟩, fun z => ?_⟩
  · rw [List.length_take]
    omega
  · have := congrArg List.length (Option.some.inj z)
    rw [List.length_take] at this
    omega
end
theorem ok_paths16 {cc : Addr} (T : Txt K mg cc) (KT : K_Table K mg CT) (KK : K_Keeper K mg CK) (KS : K_Stands K mg CS) (KG : K_Grows K mg CG) : CalX P w K mg base 28 "_law_paths_right" (spPaths16 K mg CK CT) := by
  have Z := T.Z
  have A := sla16 (P := P) (w := w) (base := base) T
  have I3 : ∀ {S}, Fam16 mg S → S.Inj K := fun h => inj16 h
  have M_text := ok_ktext (P := P) (w := w) (base := base) (CT := CT) (Fam := Fam16 mg) T KK
  have M_table_head := ok_kthead T A KT KK
  have M_head := ok_khead (CT := CT) T A KK
  have M_growth := ok_kgrow (CT := CT) T A KK
  have C_Stands := ok_stinit (P := P) (w := w) (base := base) KS
  have C_Grows := ok_grinit (P := P) (w := w) (base := base) KG
  have M_jS := ok_judgedS T A I3 KS
  have M_jG := ok_judgedG T A I3 KG
  have e16 : sizeLine = 16777216 := sizeLine_eq
  refine calX_of T.d__law_paths_right sc__law_paths_right (fun vs H Q E h => ?_) (fun f cdv A' outer s H vs Q E hr h => ?_)
  · obtain ⟨fS, p, t, b, v, es, pl, hv, pq, ys, _, rfl, _⟩ := h
    rfl
  obtain ⟨fS, p, t, b, v, es, pl, hv, pq, ys, mS, rfl, hK, esl, hpl, hpq, dpq, qq⟩ := h
  have hF : Fam16 mg (plainSys tfP fS) := .inl ⟨fS, mS, rfl⟩
  have G := A.good hF
  refine ⟨_, (pss_cons (ps_set (i := 4) sc__law_paths_right.nd rfl (Or.inl rfl) (pe_mk C_Stands hr (by omega) rfl (pa_cons (pv 1) (pa_cons (pe_mtx M_text (takes_of rfl rfl rfl rfl) hr (by omega) (pv 0) (pa_cons (pv 1) pa_nil)) (pa_cons (pe_mtx M_table_head (takes_of rfl rfl rfl rfl) hr (by omega) (pv 0) (pa_cons (pv 1) pa_nil)) pa_nil)))))
  (pss_cons (ps_set (i := 5) sc__law_paths_right.nd rfl (Or.inl rfl) (pe_mk C_Grows hr (by omega) rfl (pa_cons (pe_op op_add (pv 1) pe_int) (pa_cons (pe_mtd M_head (takes_of rfl rfl rfl rfl) hr (by omega) (pv 0) (pa_cons (pe_op op_add (pv 1) pe_int) pa_nil)) pa_nil))))
  (pss_cons (ps_set (i := 6) sc__law_paths_right.nd rfl (Or.inl rfl) (pe_mtd M_growth (takes_of rfl rfl rfl rfl) hr (by omega) (pv 0) (pa_cons (pe_op op_add (pv 1) pe_int) (pa_cons pe_non pa_nil))))
  (Evl.pss_cut (ps_for (passes_of rfl) rfl (pi_tup (pe_tup (pa_cons pe_non (pa_cons pe_int (pa_cons pe_str (pa_cons (pe_callTy call_tuple_of rfl Z.tuple (by decide +kernel) (pa_cons (pv 2) pa_nil)) (pa_cons (pe_op op_cat (pv 2) (pe_slice sl_list (pv 2) po_none (po_some pe_int))) (pa_cons (pe_slice sl_list (pv 2) po_none (po_some (pe_un un_neg pe_int))) (pa_cons pe_dnewK pa_nil))))))))) (pg_name (i := 7) sc__law_paths_right.nd rfl (Or.inl rfl)) (pss_one (ps_if (pt_cmpR op_isnot_bl (pe_mt M_jS hr (by omega) (pv 4) (pa_cons (pe_glob (v := .ref fS) rfl mS rfl) (pa_cons pe_int (pa_cons (pv 3) (pa_cons (pv 7) pa_nil))))) pe_bl (nomark _)) (pss_one (ps_ret pe_bl)) pss_nil)))
  (Evl.pss_cut (ps_for (passes_of rfl) rfl (pi_tup (pe_tup (pa_cons pe_non (pa_cons pe_int (pa_cons pe_str (pa_cons (pe_callTy call_tuple_of rfl Z.tuple (by decide +kernel) (pa_cons (pv 6) pa_nil)) (pa_cons (pe_op op_cat (pv 6) (pe_slice sl_list (pv 6) po_none (po_some pe_int))) (pa_cons (pe_slice sl_list (pv 6) po_none (po_some (pe_un un_neg pe_int))) (pa_cons pe_dnewK pa_nil))))))))) (pg_name (i := 7) sc__law_paths_right.nd rfl (Or.inl rfl)) (pss_one (ps_if (pt_cmpR op_isnot_bl (pe_mt M_jG hr (by omega) (pv 5) (pa_cons (pe_glob (v := .ref fS) rfl mS rfl) (pa_cons pe_int (pa_cons (pv 3) (pa_cons (pv 7) pa_nil))))) pe_bl (nomark _)) (pss_one (ps_ret pe_bl)) pss_nil)))
  (pss_cons (ps_set (i := 8) sc__law_paths_right.nd rfl (Or.inl rfl) (pe_lst (pa_cons (pe_mt M_jS hr (by omega) (pv 4) (pa_cons (pe_glob (v := .ref fS) rfl mS rfl) (pa_cons pe_int (pa_cons (pv 3) (pa_cons (pv 2) pa_nil))))) (pa_cons (pe_mt M_jG hr (by omega) (pv 5) (pa_cons (pe_glob (v := .ref fS) rfl mS rfl) (pa_cons pe_int (pa_cons (pv 3) (pa_cons (pv 6) pa_nil))))) pa_nil))))
  (pss_one (ps_ret (pe_cmpR (op_eqD hr.units) (pv 8) (pe_lst (pa_cons pe_bl (pa_cons pe_bl pa_nil))) (nomark _)))))))))), ?_⟩
  obtain ⟨dx, hp⟩ := hK.kp.at_
  obtain ⟨ts, hts⟩ : ∃ ts, ts = es.map (leafT 3) := ⟨_, rfl⟩
  have tl : ts.length = 5 := by rw [hts, List.length_map, esl]
  have tdep : ∀ t ∈ ts, t.dep ≤ 6 := fun t ht => by rw [hts] at ht; obtain ⟨e, _, rfl⟩ := List.mem_map.mp ht; exact leafT_dep 3 e
  have tws : ∀ t ∈ ts, WS t := fun t ht => by rw [hts] at ht; obtain ⟨e, _, rfl⟩ := List.mem_map.mp ht; exact leafT_ws 3 e
  have tdU : ∀ us : List Tm, (∀ t ∈ us, t ∈ ts) → us.length ≤ ts.length → WS (topT us) ∧ (topT us).dep ≤ 10 := fun us hu hul => ⟨topT_ws fun t ht => tws t (hu t ht), Nat.le_trans (topT_dep 3 us (by omega) fun t ht => tdep t (hu t ht)) (by decide)⟩
  have tdT := tdU ts (fun _ h => h) (Nat.le_refl _)
  have tdP : ∀ t ∈ pathT ts pl, WS t ∧ t.dep ≤ 28 := pathT_mem fun us hu hul => ⟨(tdU us hu hul).1, Nat.le_trans (tdU us hu hul).2 (by decide)⟩
  have tdG : ∀ t ∈ growT ts (pl + 1), WS t ∧ t.dep ≤ 28 := growT_mem fun us hu hul => ⟨(tdU us hu hul).1, Nat.le_trans (tdU us hu hul).2 (by decide)⟩
  obtain ⟨e, hee⟩ : ∃ e, es[pl]? = some e := ⟨es[pl]'(by omega), List.getElem?_eq_getElem _⟩
  have tpl : ts.getD pl nonT = leafT 3 e := by rw [hts, List.getD_eq_getElem?_getD, List.getElem?_map, hee]; rfl
  have etx : txtOk (S e.1) = true := (hK.kp.ok e (List.mem_of_getElem? hee)).2.2
  have tk_all : (es.map (leafT 3)).take es.length = ts := by rw [← hts]; exact take_all (by rw [tl, esl])
  have tk_o : (es.map (leafT 3)).take (pl + 1) = ts.take (pl + 1) := by rw [← hts]
  have cn : cntOf es.length none = some es.length := rfl
  have co : cntOf es.length (some ((pl : Int) + 1)) = some (pl + 1) := by
    show (if 0 ≤ (pl : Int) + 1 ∧ (pl : Int) + 1 ≤ (es.length : Int) then some ((pl : Int) + 1).toNat else none) = some (pl + 1)
    rw [if_pos ⟨by omega, by omega⟩]
    congr 1
  have hpin : 0 ≤ (pl : Int) ∧ (pl : Int) < (es.length : Int) := ⟨Int.natCast_nonneg _, by omega⟩
  have dps : DenL (plainSys tfP fS) H ys (pathT ts pl) := by
    have := dpq
    unfold psF at this
    rw [tk_all] at this
    exact this
  have hhd := hK.hd
  rw [← hts, esl] at hhd
  have pl0 : (pathT ts pl).length ≠ 0 := by rw [pathT_len, tl]; exact plen_pos (by decide)
  have pl1 : (pathT ts pl).length ≤ 40 := by rw [pathT_len, tl]; have := plen_le 3 pl 5 (by decide); omega
  have gg := growT_glen (us := ts) (old := pl + 1) (by omega) (by omega)
  have gp0 : (growT ts (pl + 1)).length ≠ 0 := by rw [gg]; have := glen_pos (pl + 1) ts.length; omega
  have gp1 : (growT ts (pl + 1)).length ≤ 40 := by have := growT_len 3 ts (pl + 1) (by omega); omega
  have jS0 : ∀ pm, pm ≠ some (pathT ts pl) → judgeS (pl : Int) (.sl "leaf" (.str (S e.1)) (headT 3 e.2)) 5 (.sl "book" (.int 5) (topT ts)) pm = false := fun pm hn => by
    cases pm with
    | none => rfl
    | some ps =>
      refine decide_eq_false fun ⟨_, _, z3, z4⟩ => hn ?_
      rw [Int.toNat_natCast] at z3 z4
      have r1 := (Tm.sl.inj z4).2.2
      have r2 := rise_inj (.sl "leaf" (.str (S e.1)) (headT 3 e.2)) ts pl ps (by omega) (by rw [tl]; exact z3)
      rw [tl] at r2
      rw [(r2.mp r1).2]
  have jS1 : judgeS (pl : Int) (.sl "leaf" (.str (S e.1)) (headT 3 e.2)) 5 (.sl "book" (.int 5) (topT ts)) (some (pathT ts pl)) = true := by
    have := judgeS_own (ts := ts) (p := pl) (by omega)
    rw [tpl, tl] at this
    exact this
  have jG0 : ∀ said pm, pm ≠ some (growT ts (pl + 1)) → judgeG ((pl : Int) + 1) 5 said (.sl "book" (.int 5) (topT ts)) pm = false := fun said pm hn => by
    unfold judgeG
    rw [if_neg (by omega)]
    cases pm with
    | none => rfl
    | some ps =>
      refine decide_eq_false fun ⟨_, _, z3, _, z4⟩ => hn ?_
      rw [show ((pl : Int) + 1).toNat = pl + 1 by omega] at z3 z4
      have r1 := (Tm.sl.inj z4).2.2
      have r2 := reg_inj ts (pl + 1) ps (by omega) (by omega) (by rw [tl]; exact z3) (by rw [tl]; exact r1)
      rw [r2]
  have jG1 : judgeG ((pl : Int) + 1) 5 (.sl "book" (.int ((pl : Int) + 1)) (topT (ts.take (pl + 1)))) (.sl "book" (.int 5) (topT ts)) (some (growT ts (pl + 1))) = true := by
    have := judgeG_own (ts := ts) (o := pl + 1) (by omega) (by omega)
    rw [tl] at this
    exact this
  have hd3 : (headT 3 e.2).dep ≤ 18 := by show max 0 _ + 1 ≤ 18; have h3 := partT_dep 3 (srtI e.2); omega
  have hw3 : WS (headT 3 e.2) := .tab _ (partT_ws _ _)
  have tdo := tdU (ts.take (pl + 1)) (fun t ht => List.mem_of_mem_take ht) (by rw [List.length_take]; omega)
  -- the claims
  refine ⟨_, rfl, _, rfl, p, dx, _, rfl, hp, kno "text", _, rfl, plainSys tfP fS, p, 3, t, b, v, es, (pl : Int), hF, rfl, hK.kp, fun m e' hm he' => ?_, fun z => absurd hpin z⟩
  rw [show m = pl by omega, hee] at he'
  cases he'
  refine ⟨_, rfl, p, dx, _, rfl, hp, kno "table_head", _, rfl, plainSys tfP fS, p, 3, t, b, v, es, (pl : Int), 0, hF, rfl, hK.kp, trivial, fun m e' hm he' u H1 x1 _ du => ?_, fun z => absurd hpin z⟩
  rw [show m = pl by omega, hee] at he'
  cases he'
  refine fun sp sx nsp nsx nse => ?_
  have ysx : Ext H1 (upd (upd H1 sx (.own sp)) sp (.ins CS sx [])) := (Ext.new nsx).trans (Ext.new (by rw [upd_ne nse.symm]; exact nsp))
  refine ⟨sp, sx, (pl : Int), .str (S e.1), u, rfl, upd_same, fun H2 xo2 _ hsp => ⟨rfl, ?_⟩⟩
  have x12 : Ext H1 H2 := xo2.ext ysx nsp
  have x2 := x1.trans x12
  refine ⟨_, rfl, _, _, rfl, rfl, _, rfl, p, dx, _, rfl, x2.ins hp, kno "head", _, rfl, _, _, rfl, rfl, plainSys tfP fS, p, 3, t, b, v, es, some ((pl : Int) + 1), 0, hF, rfl, (hK.ext x2).kp, trivial, fun k hc bv H3 x3 _ db => ?_, fun z => by rw [co] at z; cases z⟩
  rw [co] at hc
  cases hc
  rw [tk_o] at db
  refine fun gp gx ngp ngx nge => ?_
  have ygx : Ext H3 (upd (upd H3 gx (.own gp)) gp (.ins CG gx [])) := (Ext.new ngx).trans (Ext.new (by rw [upd_ne nge.symm]; exact ngp))
  refine ⟨gp, gx, (pl : Int) + 1, bv, rfl, upd_same, fun H4 xo4 _ hgp => ⟨rfl, ?_⟩⟩
  have x34 : Ext H3 H4 := xo4.ext ygx ngp
  have x4 := (x2.trans x3).trans x34
  refine ⟨_, rfl, p, dx, _, rfl, x4.ins hp, kno "growth", _, rfl, _, _, rfl, rfl, plainSys tfP fS, p, 3, t, b, v, es, (pl : Int) + 1, none, 0, hF, rfl, (hK.ext x4).kp, trivial, fun k m hc hm hmk gq gs H5 x45 ngq hgq _ dgq => ?_, fun z => absurd ⟨es.length, cn, by omega, by omega⟩ z⟩
  rw [cn] at hc
  cases hc
  rw [tk_all, show m = pl + 1 by omega] at dgq
  have x5 := x4.trans x45
  have hsp5 := ((x3.trans x34).trans x45).ins hsp
  have hgp5 := x45.ins hgp
  have du5 := G.mono (((x12.trans x3).trans x34).trans x45).gr du
  have db5 := G.mono (x34.trans x45).gr db
  have hK5 := hK.ext x5
  have hhd5 := G.mono x5.gr hhd
  have hpq5 := x5.lst hpq
  have dps5 := dps.mono G x5.gr
  clear hsp hgp du db
  -- the papers of a place
  refine ⟨fun σ H' => ∃ (y7 : Option V), σ = [some (.ref p), some (.int (pl : Int)), some (.ref pq), some hv, some (.ref sp), some (.ref gp), some (.ref gq), y7, none] ∧ Ext H5 H', ?_, ?_⟩
  · refine ⟨_, rfl, pq, ys, rfl, .inl ⟨SqL.of hpq5, fun a1 n1 => ?_⟩⟩
    have xa1 := Ext.new (o := .tup ys) n1
    have ha1 : upd H5 a1 (.tup ys) a1 = some (.tup ys) := upd_same
    generalize upd H5 a1 (.tup ys) = G1 at xa1 ha1 ⊢
    refine ⟨_, rfl, _, rfl, 1, rfl, pq, ys, rfl, SqL.of (xa1.lst hpq5), fun a2 n2 => ?_⟩
    rw [show (1 : Int) = ((1 : Nat) : Int) from rfl, cut_to]
    have xa2 := Ext.new (o := .lst (ys.take 1)) n2
    have ha2 : upd G1 a2 (.lst (ys.take 1)) a2 = some (.lst (ys.take 1)) := upd_same
    generalize upd G1 a2 (.lst (ys.take 1)) = G2 at xa2 ha2 ⊢
    have xc2 := xa1.trans xa2
    have yl := dps.len
    refine ⟨pq, a2, ys, ys.take 1, rfl, rfl, xc2.lst hpq5, ha2, (by rw [List.length_take, sizeLine_eq]; omega), fun a3 n3 => ?_⟩
    have xa3 := Ext.new (o := .lst (ys ++ ys.take 1)) n3
    have ha3 : upd G2 a3 (.lst (ys ++ ys.take 1)) a3 = some (.lst (ys ++ ys.take 1)) := upd_same
    generalize upd G2 a3 (.lst (ys ++ ys.take 1)) = G3 at xa3 ha3 ⊢
    have xc3 := xc2.trans xa3
    refine ⟨_, rfl, 1, rfl, -1, rfl, pq, ys, rfl, SqL.of (xc3.lst hpq5), fun a4 n4 => ?_⟩
    have xa4 := Ext.new (o := .lst (cutV ys none (some (-1)))) n4
    have ha4 : upd G3 a4 (.lst (cutV ys none (some (-1)))) a4 = some (.lst (cutV ys none (some (-1)))) := upd_same
    generalize upd G3 a4 (.lst (cutV ys none (some (-1)))) = G4 at xa4 ha4 ⊢
    have xc4 := xc3.trans xa4
    refine fun a5 n5 => ?_
    have xa5 := Ext.new (o := .dK []) n5
    have ha5 : upd G4 a5 (.dK []) a5 = some (.dK []) := upd_same
    generalize upd G4 a5 (.dK []) = G5 at xa5 ha5 ⊢
    have xc5 := xc4.trans xa5
    refine ⟨(by show 7 ≤ sizeLine; decide), fun a6 n6 => ?_⟩
    have xa6 := Ext.new (o := .tup [.non, .int 5, .str "path", .ref a1, .ref a3, .ref a4, .ref a5]) n6
    have ha6 : upd G5 a6 (.tup [.non, .int 5, .str "path", .ref a1, .ref a3, .ref a4, .ref a5]) a6 = some (.tup [.non, .int 5, .str "path", .ref a1, .ref a3, .ref a4, .ref a5]) := upd_same
    generalize upd G5 a6 (.tup [.non, .int 5, .str "path", .ref a1, .ref a3, .ref a4, .ref a5]) = G6 at xa6 ha6 ⊢
    have xc6 := xc5.trans xa6
    have D6 := dps5.mono G xc6.gr
    have bad : ∀ u ∈ [V.non, .int 5, .str "path", .ref a1, .ref a3, .ref a4, .ref a5], NoPap K fS G6 (pathT ts pl) u := all_cons (no_odd odd_non) (all_cons (no_odd odd_int) (all_cons (no_str (by decide +kernel)) (all_cons (no_tup D6 tdP (((((xa2.trans xa3).trans xa4).trans xa5).trans xa6).tup ha1)) (all_cons (no_more D6 tdP pl0 pl1 (((xa4.trans xa5).trans xa6).lst ha3)) (all_cons (no_less D6 tdP pl0 pl1 ((xa5.trans xa6).lst ha4)) (all_cons (no_dict (xa6.dK ha5)) all_nil))))))
    generalize [V.non, .int 5, .str "path", .ref a1, .ref a3, .ref a4, .ref a5] = us at ha6 bad
    refine ⟨a6, rfl, ⟨_, SqT.of ha6⟩, for_tup (K := K) (a := a6) (xs := us) (fun i σ H' => ∃ (y7 : Option V), σ = [some (.ref p), some (.int (pl : Int)), some (.ref pq), some hv, some (.ref sp), some (.ref gp), some (.ref gq), y7, none] ∧ Ext G6 H') ⟨none, rfl, Ext.refl _⟩ (fun i σ H' _ ⟨_, _, x⟩ => SqT.of (x.tup ha6)) ?_ ?_⟩
    · rintro i u σ HI hu ⟨y7, rfl, x⟩
      obtain ⟨pm, hpm, hne⟩ := (bad u (List.mem_of_getElem? hu)).ext x
      have x5I := xc6.trans x
      refine ⟨_, rfl, sp, sx, _, rfl, x5I.ins hsp5, (stF_no _ _ _).1, _, rfl, _, rfl, plainSys tfP fS, sp, sx, (pl : Int), S e.1, .str (S e.1), _, headT 3 e.2, 5, 5, topT ts, hv, u, pm, 0, hF, rfl, x5I.ins hsp5, .str _ etx, G.mono x5I.gr du5, hw3, hd3, by decide, G.mono x5I.gr hhd5, tdT.1, Nat.le_trans tdT.2 (by decide), hpm _ (by decide), trivial, fun HJ xJ _ => ?_⟩
      rw [jS0 pm hne]
      refine ⟨false, false, rfl, rfl, _, rfl, ?_⟩
      refine iteF ?_
      exact ⟨_, rfl, x.trans xJ⟩
    · rintro σ HI ⟨y7, rfl, x⟩
      exact ⟨y7, rfl, xc6.trans x⟩
  rintro σ H6 ⟨y7, rfl, x56⟩
  have hpq6 := x56.lst hgq
  have dg6 := dgq.mono G x56.gr
  -- of a growth
  refine ⟨fun σ H' => ∃ (y7 : Option V), σ = [some (.ref p), some (.int (pl : Int)), some (.ref pq), some hv, some (.ref sp), some (.ref gp), some (.ref gq), y7, none] ∧ Ext H5 H', ?_, ?_⟩
  · refine ⟨_, rfl, gq, gs, rfl, .inl ⟨SqL.of hpq6, fun a1 n1 => ?_⟩⟩
    have xa1 := Ext.new (o := .tup gs) n1
    have ha1 : upd H6 a1 (.tup gs) a1 = some (.tup gs) := upd_same
    generalize upd H6 a1 (.tup gs) = G1 at xa1 ha1 ⊢
    refine ⟨_, rfl, _, rfl, 1, rfl, gq, gs, rfl, SqL.of (xa1.lst hpq6), fun a2 n2 => ?_⟩
    rw [show (1 : Int) = ((1 : Nat) : Int) from rfl, cut_to]
    have xa2 := Ext.new (o := .lst (gs.take 1)) n2
    have ha2 : upd G1 a2 (.lst (gs.take 1)) a2 = some (.lst (gs.take 1)) := upd_same
    generalize upd G1 a2 (.lst (gs.take 1)) = G2 at xa2 ha2 ⊢
    have xc2 := xa1.trans xa2
    have yl := dg6.len
    refine ⟨gq, a2, gs, gs.take 1, rfl, rfl, xc2.lst hpq6, ha2, (by rw [List.length_take, sizeLine_eq]; omega), fun a3 n3 => ?_⟩
    have xa3 := Ext.new (o := .lst (gs ++ gs.take 1)) n3
    have ha3 : upd G2 a3 (.lst (gs ++ gs.take 1)) a3 = some (.lst (gs ++ gs.take 1)) := upd_same
    generalize upd G2 a3 (.lst (gs ++ gs.take 1)) = G3 at xa3 ha3 ⊢
    have xc3 := xc2.trans xa3
    refine ⟨_, rfl, 1, rfl, -1, rfl, gq, gs, rfl, SqL.of (xc3.lst hpq6), fun a4 n4 => ?_⟩
    have xa4 := Ext.new (o := .lst (cutV gs none (some (-1)))) n4
    have ha4 : upd G3 a4 (.lst (cutV gs none (some (-1)))) a4 = some (.lst (cutV gs none (some (-1)))) := upd_same
    generalize upd G3 a4 (.lst (cutV gs none (some (-1)))) = G4 at xa4 ha4 ⊢
    have xc4 := xc3.trans xa4
    refine fun a5 n5 => ?_
    have xa5 := Ext.new (o := .dK []) n5
    have ha5 : upd G4 a5 (.dK []) a5 = some (.dK []) := upd_same
    generalize upd G4 a5 (.dK []) = G5 at xa5 ha5 ⊢
    have xc5 := xc4.trans xa5
    refine ⟨(by show 7 ≤ sizeLine; decide), fun a6 n6 => ?_⟩
    have xa6 := Ext.new (o := .tup [.non, .int 5, .str "growth", .ref a1, .ref a3, .ref a4, .ref a5]) n6
    have ha6 : upd G5 a6 (.tup [.non, .int 5, .str "growth", .ref a1, .ref a3, .ref a4, .ref a5]) a6 = some (.tup [.non, .int 5, .str "growth", .ref a1, .ref a3, .ref a4, .ref a5]) := upd_same
    generalize upd G5 a6 (.tup [.non, .int 5, .str "growth", .ref a1, .ref a3, .ref a4, .ref a5]) = G6 at xa6 ha6 ⊢
    have xc6 := xc5.trans xa6
    have D6 := dg6.mono G xc6.gr
    have bad : ∀ u ∈ [V.non, .int 5, .str "growth", .ref a1, .ref a3, .ref a4, .ref a5], NoPap K fS G6 (growT ts (pl + 1)) u := all_cons (no_odd odd_non) (all_cons (no_odd odd_int) (all_cons (no_str (by decide +kernel)) (all_cons (no_tup D6 tdG (((((xa2.trans xa3).trans xa4).trans xa5).trans xa6).tup ha1)) (all_cons (no_more D6 tdG gp0 gp1 (((xa4.trans xa5).trans xa6).lst ha3)) (all_cons (no_less D6 tdG gp0 gp1 ((xa5.trans xa6).lst ha4)) (all_cons (no_dict (xa6.dK ha5)) all_nil))))))
    generalize [V.non, .int 5, .str "growth", .ref a1, .ref a3, .ref a4, .ref a5] = us at ha6 bad
    refine ⟨a6, rfl, ⟨_, SqT.of ha6⟩, for_tup (K := K) (a := a6) (xs := us) (fun i σ H' => ∃ (y7 : Option V), σ = [some (.ref p), some (.int (pl : Int)), some (.ref pq), some hv, some (.ref sp), some (.ref gp), some (.ref gq), y7, none] ∧ Ext G6 H') ⟨_, rfl, Ext.refl _⟩ (fun i σ H' _ ⟨_, _, x⟩ => SqT.of (x.tup ha6)) ?_ ?_⟩
    · rintro i u σ HI hu ⟨y7, rfl, x⟩
      obtain ⟨pm, hpm, hne⟩ := (bad u (List.mem_of_getElem? hu)).ext x
      have x5I := (x56.trans xc6).trans x
      refine ⟨_, rfl, gp, gx, _, rfl, x5I.ins hgp5, (grF_no _ _).1, _, rfl, _, rfl, plainSys tfP fS, gp, gx, (pl : Int) + 1, bv, _, 5, .sl "book" (.int 5) (topT ts), hv, u, pm, 0, hF, rfl, x5I.ins hgp5, G.mono x5I.gr db5, ⟨_, _, rfl, tdo.1, Nat.le_trans tdo.2 (by decide)⟩, by decide, G.mono x5I.gr hhd5, ⟨_, _, rfl, tdT.1, Nat.le_trans tdT.2 (by decide)⟩, hpm _ (by omega), trivial, fun HJ xJ _ => ?_⟩
      rw [jG0 _ pm hne]
      refine ⟨false, false, rfl, rfl, _, rfl, ?_⟩
      refine iteF ?_
      exact ⟨_, rfl, x.trans xJ⟩
    · rintro σ HI ⟨y7, rfl, x⟩
      exact ⟨y7, rfl, (x56.trans xc6).trans x⟩
  rintro σ H7 ⟨y7', rfl, x57⟩
  -- the own ones
  refine ⟨_, rfl, sp, sx, _, rfl, x57.ins hsp5, (stF_no _ _ _).1, _, rfl, _, rfl, plainSys tfP fS, sp, sx, (pl : Int), S e.1, .str (S e.1), _, headT 3 e.2, 5, 5, topT ts, hv, .ref pq, some (pathT ts pl), 0, hF, rfl, x57.ins hsp5, .str _ etx, G.mono x57.gr du5, hw3, hd3, by decide, G.mono x57.gr hhd5, tdT.1, Nat.le_trans tdT.2 (by decide), .inl ⟨pq, ys, rfl, x57.lst hpq5, dps5.mono G x57.gr, by omega, tdP⟩, trivial, fun H8 x8 _ => ?_⟩
  rw [jS1]
  have x58 := x57.trans x8
  refine ⟨_, rfl, gp, gx, _, rfl, x58.ins hgp5, (grF_no _ _).1, _, rfl, _, rfl, plainSys tfP fS, gp, gx, (pl : Int) + 1, bv, .sl "book" (.int ((pl : Int) + 1)) (topT (ts.take (pl + 1))), 5, .sl "book" (.int 5) (topT ts), hv, .ref gq, some (growT ts (pl + 1)), 0, hF, rfl, x58.ins hgp5, G.mono x58.gr db5, ⟨_, _, rfl, tdo.1, Nat.le_trans tdo.2 (by decide)⟩, by decide, G.mono x58.gr hhd5, ⟨_, _, rfl, tdT.1, Nat.le_trans tdT.2 (by decide)⟩, .inl ⟨gq, gs, rfl, x58.lst hgq, dgq.mono G x58.gr, by omega, tdG⟩, trivial, fun H9 x9 _ => ?_⟩
  rw [jG1]
  have x59 := x58.trans x9
  refine ⟨(by show 2 ≤ sizeLine; decide), fun sl nsl => ?_⟩
  have xs1 := Ext.new (o := .lst [.bl true, .bl true]) nsl
  have hsl : upd H9 sl (.lst [.bl true, .bl true]) sl = some (.lst [.bl true, .bl true]) := upd_same
  generalize upd H9 sl (.lst [.bl true, .bl true]) = H10 at xs1 hsl ⊢
  refine ⟨_, rfl, (by show 2 ≤ sizeLine; decide), fun e0 he0 => ?_⟩
  have xs2 := Ext.new (o := .lst [.bl true, .bl true]) he0
  refine ⟨.list [.bool true, .bool true], .list [.bool true, .bool true], .lst (SqL.of (xs2.lst hsl)) (.cons (.bl true) (.cons (.bl true) .nil)), .lst (SqL.of upd_same) (.cons (.bl true) (.cons (.bl true) .nil)), by decide +kernel, by decide +kernel, ?_⟩
  rw [show PyData.eqv (.list [.bool true, .bool true]) (.list [.bool true, .bool true]) = true by decide +kernel]
  exact qq _ (((x5.trans x59).trans xs1).trans xs2)
end

/-! ### the law -/
theorem tabS_nil {H : Hp} {PT : Addr} (h : H PT = some (.tbl #[])) (q : Str) : LamX.TabS H PT q := ⟨#[], h, True.intro, fun pos cv hc => by cases hc⟩
section
variable {P : Program} {w : World} {K : PySem.W.Frag} {mg : Str → Option Value}
def spCellA (K : PySem.W.Frag) : Sp := fun vs H Q _ => ∃ (a : Addr) (ns : List Int) (k : Nat), vs = [.ref a, .int (k : Int)] ∧ SqL K H a (ns.map V.int) ∧ k ≤ 1000 ∧ ∀ z, Q (.int z) H
theorem ok_cell_at {base : Heap} {cc : Addr} (T : Txt K mg cc) : Cal P w K mg base 1 "_law_cell_at" (spCellA K) [] := by
  have Z := T.Z
  refine cal_of T.d__law_cell_at sc__law_cell_at (fun vs H Q E h => ?_) (fun f cdv A outer s H vs Q E hr h => ?_)
  · obtain ⟨a, ns, k, rfl, _⟩ := h
    rfl
  obtain ⟨a, ns, k, rfl, hS, hk, q⟩ := h
  refine ⟨_, (pss_cons (ps_if (pt_cmpR op_lt (pv 1) (pe_callB call_len_seq rfl Z.len PySem.boot_len (pa_cons (pv 0) pa_nil)) (nomark _)) (pss_one (ps_ret (pe_ix ix_list (pv 0) (pv 1) (fun _ _ => rfl)))) pss_nil)
  (pss_one (ps_ret pe_int))), ?_⟩
  refine ⟨_, rfl, _, rfl, a, _, rfl, .inl hS, _, _, rfl, rfl, _, rfl, ?_⟩
  rw [List.length_map]
  by_cases c : k < ns.length
  · rw [decide_eq_true (show (k : Int) < (ns.length : Int) by omega)]
    have hz : (ns.map V.int)[k]? = some (.int ns[k]) := by rw [List.getElem?_map, List.getElem?_eq_getElem c]; rfl
    exact iteT ⟨_, rfl, _, rfl, a, _, _, _, rfl, rfl, hS, atI_nat hz, q _⟩
  · rw [decide_eq_false (show ¬ (k : Int) < (ns.length : Int) by omega)]
    exact iteF (q 0)
theorem ok_law {fa cc PT : Addr} (T : Txt K mg cc) (hfa : mg "law" = some (.ref fa)) : ∃ fd : FuncData, (∀ (s : Shared) (v : Value), BindsTo s fd ⟨[v], []⟩ [("_law_script", v)]) ∧ ∀ base : Heap, K.In base → base.Ns mainGlobals mg → LamX.TabB base mg cc PT → FnOk P w K mg base L2.CX0 30 fa fd ["_law_script"] (spLaw K PT) := by
  have Z := T.Z
  obtain ⟨CT, KT⟩ := T.k_Table
  obtain ⟨CK, KK⟩ := T.k_Keeper
  obtain ⟨CS, KS⟩ := T.k_Stands
  obtain ⟨CG, KG⟩ := T.k_Grows
  obtain ⟨CH, KH⟩ := T.k_Holds
  obtain ⟨CL, KL⟩ := T.k_Lacks
  obtain ⟨CF, KF⟩ := T.k_Frontier
  obtain ⟨CB, DB⟩ := T.c_Behind___init__
  obtain ⟨C, B, EI⟩ := T.y_BadRow
  refine law_fnT T.d_law hfa sc_law (fun vs H Q E h => ?_) (fun base TB f cdv A' outer s H vs Q E hr h => ?_)
  · obtain ⟨a, ns, rfl, _⟩ := h
    rfl
  obtain ⟨a, ns, rfl, hS, hlen, hPT, q⟩ := h
  have C__law_cell_at := ok_cell_at (P := P) (w := w) (base := base) T
  have C__law_stretches_right := ok_stretches (P := P) (w := w) T TB KF
  have C__law_keeper_right := ok_keep16 (P := P) (w := w) T TB KT KK KS KG EI
  have C__law_table_right := ok_table16 (P := P) (w := w) T TB KT
  have C__law_forms_right := ok_forms16 (P := P) (w := w) (base := base) T KT KK KS KG KH KL DB EI (ok_paths16 T KT KK KS KG)
  have e16 : sizeLine = 16777216 := sizeLine_eq
  refine ⟨_, (pss_cons (ps_set (i := 0) sc_law.nd rfl (Or.inr rfl) (pe_slice sl_list (pv 0) po_none (po_some pe_int)))
  (pss_cons (ps_set (i := 1) sc_law.nd rfl (Or.inl rfl) (pe_callB call_abs rfl Z.abs (by decide +kernel) (pa_cons (pe_callB (cr_sum rfl) rfl Z.sum (by decide +kernel) (pa_cons (pe_lc (own := [("_law_at", 3)]) (g := gName 3) (tt := tYes) rfl sc_law.nd (pi_range1 rfl Z.range (pa_cons pe_int pa_nil)) (blkOk_by (N := N_law) (sc := defScope s_law) (by decide +kernel)) (fun _ _ _ _ _ => (pg_name (i := 3) sc_law.nd rfl (Or.inl rfl))) (fun _ _ _ _ _ => pts_nil) (fun _ _ _ _ _ => (pe_op op_mul (pe_c C__law_cell_at hr (by omega) rfl (pa_cons (pv 0) (pa_cons (pv 3) pa_nil))) (pe_op op_add (pv 3) pe_int)))) pa_nil)) pa_nil)))
  (pss_cons (ps_set (i := 2) sc_law.nd rfl (Or.inl rfl) (pe_ix ix_tup (pe_tup (pa_cons (pe_op op_add pe_int (pe_op op_mod (pv 1) pe_int)) (pa_cons pe_int (pa_cons (pe_op op_add pe_int (pe_op op_mod (pv 1) pe_int)) (pa_cons pe_int pa_nil))))) (pe_op op_mod (pe_op op_fdiv (pv 1) pe_int) pe_int) (fun _ _ => rfl)))
  (pss_cons (ps_if (pt_not (pt_val (pe_cx C__law_stretches_right takes0 hr (by omega) rfl (pa_cons (pv 2) (pa_cons (pe_op op_mod (pe_op op_fdiv (pv 1) pe_int) (pv 2)) (pa_cons (pe_op op_add pe_int (pe_op op_mod (pe_op op_fdiv (pv 1) pe_int) (pv 2))) pa_nil)))))) (pss_one (ps_ret pe_bl)) pss_nil)
  (pss_cons (ps_if (pt_not (pt_val (pe_cx C__law_keeper_right takes0 hr (by omega) rfl (pa_cons (pe_ifExp (pt_cmpR op_eq (pe_op op_mod (pe_op op_fdiv (pv 1) pe_int) pe_int) pe_int (nomark _)) pe_int (pe_op op_add pe_int (pe_op op_mod (pe_op op_fdiv (pv 1) pe_int) pe_int))) (pa_cons (pe_op op_fdiv (pv 1) pe_int) pa_nil))))) (pss_one (ps_ret pe_bl)) pss_nil)
  (pss_one (ps_ret (pe_and (pe_cx C__law_table_right takes0 hr (by omega) rfl (pa_cons (pe_op op_add pe_int (pe_op op_mod (pe_op op_fdiv (pv 1) pe_int) pe_int)) (pa_cons (pe_op op_fdiv (pv 1) pe_int) pa_nil))) (pe_one (pe_cx C__law_forms_right takes0 hr (by omega) rfl (pa_cons (pe_op op_fdiv (pv 1) pe_int) pa_nil))))))))))), ?_⟩
  refine ⟨.ref a, rfl, 63, rfl, a, _, rfl, hS, fun sc nsc => ?_⟩
  rw [take63 hlen]
  have x1 := Ext.new (o := .lst (ns.map V.int)) nsc
  have hsc : upd H sc (.lst (ns.map V.int)) sc = some (.lst (ns.map V.int)) := upd_same
  have t1 := tabS_gr (tabS_nil hPT qL) x1.gr
  generalize upd H sc (.lst (ns.map V.int)) = H1 at x1 hsc t1 ⊢
  -- the cell
  refine ⟨9, rfl, by omega, by omega, fun D nD => ?_⟩
  refine lc_range (fun i H' => ∃ zs : List Int, Ext H1 H' ∧ H' D = some (.lst (zs.map V.int)) ∧ zs.length = i) ⟨[], Ext.new nD, upd_same, rfl⟩ ?_ ?_
  · rintro i H' hi ⟨zs, x, hD, hz⟩
    have hi : i < 9 := hi
    rw [Int.zero_add]
    refine ⟨rfl, _, rfl, _, rfl, sc, ns, i, rfl, SqL.of (x.lst hsc), by omega, fun z => ?_⟩
    refine ⟨_, rfl, _, _, rfl, rfl, _, _, rfl, rfl, .inr ⟨by omega, by omega⟩, _, hD, by rw [List.length_map, hz, sizeLine_eq]; omega, zs ++ [z * ((i : Int) + 1)], x.mut nD, ?_, by rw [List.length_append, hz]; rfl⟩
    rw [upd_same, List.map_append]
    rfl
  rintro H2 ⟨zs, x2, hD, _⟩
  have t2 := tabS_gr t1 x2.gr
  refine ⟨D, zs, rfl, SqL.of hD, _, rfl, ?_⟩
  obtain ⟨c, hc, hc0⟩ : ∃ c : Int, (if zs.sum < 0 then -zs.sum else zs.sum) = c ∧ 0 ≤ c := ⟨_, rfl, by split <;> omega⟩
  rw [hc]
  clear hc
  -- how many
  have h60 : 0 ≤ c % 60 ∧ c % 60 < 60 := ⟨Int.emod_nonneg _ (by decide), Int.emod_lt_of_pos _ (by decide)⟩
  have h400 : 0 ≤ c % 400 ∧ c % 400 < 400 := ⟨Int.emod_nonneg _ (by decide), Int.emod_lt_of_pos _ (by decide)⟩
  have h4 : 0 ≤ c / 400 % 4 ∧ c / 400 % 4 < 4 := ⟨Int.emod_nonneg _ (by decide), Int.emod_lt_of_pos _ (by decide)⟩
  refine ⟨_, rfl, _, 60, rfl, rfl, (by show (0 : Int) < 60; decide), _, _, rfl, rfl, _, rfl, _, 400, rfl, rfl, (by show (0 : Int) < 400; decide), _, _, rfl, rfl, (by show 4 ≤ sizeLine; decide), fun tq ntq => ?_⟩
  have x3 := Ext.new (o := .tup [.int (1 + c % 60), .int 400, .int (1 + c % 400), .int 33]) ntq
  have htq : upd H2 tq (.tup [.int (1 + c % 60), .int 400, .int (1 + c % 400), .int 33]) tq = some (.tup [.int (1 + c % 60), .int 400, .int (1 + c % 400), .int 33]) := upd_same
  have t3 := tabS_gr t2 x3.gr
  obtain ⟨mv, hmv, hor⟩ := four_at (v0 := .int (1 + c % 60)) (v1 := .int 400) (v2 := .int (1 + c % 400)) (v3 := .int 33) h4.1 h4.2
  obtain ⟨m, rfl, hm1, hm2⟩ : ∃ m : Nat, mv = .int (m : Int) ∧ 1 ≤ m ∧ m ≤ 400 := by
    rcases hor with rfl | rfl | rfl | rfl
    · exact ⟨(1 + c % 60).toNat, by rw [Int.toNat_of_nonneg (by omega)], by omega, by omega⟩
    · exact ⟨400, rfl, by decide, by decide⟩
    · exact ⟨(1 + c % 400).toNat, by rw [Int.toNat_of_nonneg (by omega)], by omega, by omega⟩
    · exact ⟨33, rfl, by decide, by decide⟩
  have htq' : upd H2 tq (.tup [.int (1 + c % 60), .int 400, .int (1 + c % 400), .int 33]) tq = some (.tup [.int (1 + c % 60), .int 400, .int (1 + c % 400), .int 33]) := htq
  refine ⟨_, rfl, _, 400, rfl, rfl, ⟨by decide, by decide⟩, _, 4, rfl, rfl, (by show (0 : Int) < 4; decide), tq, _, c / 400 % 4, .int (m : Int), rfl, rfl, SqT.of htq', hmv, ?_⟩
  generalize upd H2 tq (.tup [.int (1 + c % 60), .int 400, .int (1 + c % 400), .int 33]) = H3 at t3 ⊢
  clear htq htq' hmv hor
  have hm0 : (0 : Int) < (m : Int) := by omega
  have hp3 : 0 ≤ c / 3 % (m : Int) ∧ c / 3 % (m : Int) < (m : Int) := ⟨Int.emod_nonneg _ (by omega), Int.emod_lt_of_pos _ hm0⟩
  have hp5 : 0 ≤ c / 5 % (m : Int) ∧ c / 5 % (m : Int) < (m : Int) := ⟨Int.emod_nonneg _ (by omega), Int.emod_lt_of_pos _ hm0⟩
  refine ⟨_, rfl, _, rfl, _, 3, rfl, rfl, ⟨by decide, by decide⟩, _, rfl, _, _, rfl, rfl, hm0, _, rfl, _, 5, rfl, rfl, ⟨by decide, by decide⟩, _, rfl, _, _, rfl, rfl, hm0, _, _, rfl, rfl, m, (c / 3 % (m : Int)).toNat, (1 + c / 5 % (m : Int)).toNat, by rw [Int.toNat_of_nonneg hp3.1, Int.toNat_of_nonneg (by omega)], hm1, hm2, by omega, by omega, by omega, t3, fun H4 t4 => ?_⟩
  refine ⟨true, rfl, iteF ?_⟩
  have h25 : 0 ≤ c / 7 % 25 ∧ c / 7 % 25 < 25 := ⟨Int.emod_nonneg _ (by decide), Int.emod_lt_of_pos _ (by decide)⟩
  refine ⟨_, rfl, _, 7, rfl, rfl, ⟨by decide, by decide⟩, _, 31, rfl, rfl, (by show (0 : Int) < 31; decide), rfl, _, rfl, ite2 (fun _ => ?_) (fun _ => ?_)⟩
  · refine ⟨_, rfl, _, 11, rfl, rfl, ⟨by decide, by decide⟩, 300, c / 11, rfl, by decide, by decide, t4, fun H5 t5 => ?_⟩
    refine ⟨true, rfl, iteF ?_⟩
    have h180 : 0 ≤ c / 13 % 180 ∧ c / 13 % 180 < 180 := ⟨Int.emod_nonneg _ (by decide), Int.emod_lt_of_pos _ (by decide)⟩
    refine ⟨_, rfl, _, 13, rfl, rfl, ⟨by decide, by decide⟩, _, 180, rfl, rfl, (by show (0 : Int) < 180; decide), _, _, rfl, rfl, _, rfl, _, 17, rfl, rfl, ⟨by decide, by decide⟩, (20 + c / 13 % 180).toNat, c / 17, by rw [Int.toNat_of_nonneg (by omega)], by omega, by omega, t5, fun H6 t6 => ?_⟩
    refine ⟨true, rfl, iteT ?_⟩
    exact ⟨_, rfl, _, 19, rfl, rfl, ⟨by decide, by decide⟩, c / 19, rfl, Int.ediv_nonneg hc0 (by decide), fun H' => q H'⟩
  · refine ⟨_, rfl, _, 7, rfl, rfl, ⟨by decide, by decide⟩, _, 25, rfl, rfl, (by show (0 : Int) < 25; decide), _, _, rfl, rfl, _, rfl, _, 11, rfl, rfl, ⟨by decide, by decide⟩, (1 + c / 7 % 25).toNat, c / 11, by rw [Int.toNat_of_nonneg (by omega)], by omega, by omega, t4, fun H5 t5 => ?_⟩
    refine ⟨true, rfl, iteF ?_⟩
    have h180 : 0 ≤ c / 13 % 180 ∧ c / 13 % 180 < 180 := ⟨Int.emod_nonneg _ (by decide), Int.emod_lt_of_pos _ (by decide)⟩
    refine ⟨_, rfl, _, 13, rfl, rfl, ⟨by decide, by decide⟩, _, 180, rfl, rfl, (by show (0 : Int) < 180; decide), _, _, rfl, rfl, _, rfl, _, 17, rfl, rfl, ⟨by decide, by decide⟩, (20 + c / 13 % 180).toNat, c / 17, by rw [Int.toNat_of_nonneg (by omega)], by omega, by omega, t5, fun H6 t6 => ?_⟩
    refine ⟨true, rfl, iteT ?_⟩
    exact ⟨_, rfl, _, 19, rfl, rfl, ⟨by decide, by decide⟩, c / 19, rfl, Int.ediv_nonneg hc0 (by decide), fun H' => q H'⟩
end

end My
open PySem PySem.W PyProof.Rows
set_option maxHeartbeats 0 in
theorem PySem.Challenge.cw_growbook_k16_great_holds : PySem.Challenge.rw_growbook_k16_great.Holds := by
  w_on; o_law; k_head; (case hw => w_witness2)
  k_fill
  refine LamX.walk_ofTs (l := PySem.Challenge.rw_growbook_k16_great) (n := 63) (k := 30) (x := "_law_script") (CX := fun _ => L2.CX0) rfl (by decide) rfl ⟨rfl, by decide, by decide⟩ (fun w h Y => PySem.W.km_in_of Y) ?F (fun _ _ _ _ _ h => h)
  case F =>
    intro w mg fa h Y KX G hmg
    have hT := PySem.W.km_tabs_of Y
    refine My.law_end (c := ?c) KX hT (by kernel_rfl) ?hcode (My.ok_law ?T hmg)
    case T =>
      refine' My.txt_mk KX G ?a0 ?l0 ?c0 ?k0 ?a1 ?l1 ?c1 ?k1 ?a2 ?l2 ?c2 ?k2 ?a3 ?l3 ?c3 ?k3 ?a4 ?l4 ?c4 ?k4 ?a5 ?l5 ?c5 ?k5 ?a6 ?l6 ?c6 ?k6 ?a7 ?l7 ?c7 ?k7 ?a8 ?l8 ?c8 ?k8 ?a9 ?l9 ?c9 ?k9 ?a10 ?l10 ?c10 ?k10 ?a11 ?l11 ?c11 ?k11 ?a12 ?l12 ?c12 ?k12 ?a13 ?l13 ?c13 ?k13 ?a14 ?l14 ?c14 ?k14 ?a15 ?l15 ?c15 ?k15 ?a16 ?l16 ?c16 ?k16 ?a17 ?l17 ?c17 ?k17 ?a18 ?l18 ?c18 ?k18 ?a19 ?l19 ?c19 ?k19 ?a20 ?l20 ?c20 ?k20 ?a21 ?l21 ?c21 ?k21 ?a22 ?l22 ?c22 ?k22 ?a23 ?l23 ?c23 ?k23 ?a24 ?l24 ?c24 ?k24 ?a25 ?l25 ?c25 ?k25 ?a26 ?l26 ?c26 ?k26 ?a27 ?l27 ?c27 ?k27 ?a28 ?l28 ?c28 ?k28 ?a29 ?l29 ?c29 ?k29 ?a30 ?l30 ?c30 ?k30 ?a31 ?l31 ?c31 ?k31 ?z_len ?z_isinstance ?z_int ?z_bool ?z_list ?z_dict ?z_tuple ?z_range ?z_str ?z_sorted ?z_reversed ?z_enumerate ?z_abs ?z_sum ?g_BookError ?g_Claim ?g_BadPaper ?xP_BadPaper ?kP_BadPaper ?bP_BadPaper ?tP_BadPaper ?hg_BadPaper ?hk_BadPaper ?hd_BadPaper ?ha_BadPaper ?hn_BadPaper ?ht_BadPaper ?hm_BadPaper ?ex_BadPaper ?g_NoPlace ?xP_NoPlace ?kP_NoPlace ?bP_NoPlace ?tP_NoPlace ?hg_NoPlace ?hk_NoPlace ?hd_NoPlace ?ha_NoPlace ?hn_NoPlace ?ht_NoPlace ?hm_NoPlace ?ex_NoPlace ?g_BadRow ?xL_BadRow ?sa_BadRow ?ga_BadRow ?gg_BadRow ?nf_BadRow ?kC_BadRow ?eC_BadRow ?tC_BadRow ?hC_BadRow ?iac_BadRow ?xm_BadRow ?xe_BadRow ?fi_BadRow ?ti_BadRow ?bg_BadRow ?br_BadRow ?bf_BadRow ?xn_BadRow ?xt_BadRow ?li_BadRow ?ci_BadRow ?ki_BadRow ?g_Behind ?aMBehind ?lMBehind ?cMBehind ?kMBehind ?gaMBehind ?rdMBehind ?fcMBehind ?g_Table ?pg_Table ?hd_Table ?po_Table ?sa_Table ?n_Table_seal ?n_Table_depth ?n_Table_held ?ia_Table ?in_Table ?it_Table ?im_Table ?aTable0 ?iTable0 ?lTable0 ?cTable0 ?kTable0 ?dTable0 ?mk_Table ?kc_Table ?aTable1 ?iTable1 ?lTable1 ?cTable1 ?kTable1 ?aTable2 ?iTable2 ?lTable2 ?cTable2 ?kTable2 ?aTable3 ?iTable3 ?lTable3 ?cTable3 ?kTable3 ?aTable4 ?iTable4 ?lTable4 ?cTable4 ?kTable4 ?aTable5 ?iTable5 ?lTable5 ?cTable5 ?kTable5 ?aTable6 ?iTable6 ?lTable6 ?cTable6 ?kTable6 ?aTable7 ?iTable7 ?lTable7 ?cTable7 ?kTable7 ?g_Keeper ?pg_Keeper ?hd_Keeper ?po_Keeper ?sa_Keeper ?n_Keeper_seal ?n_Keeper_depth ?n_Keeper_texts ?n_Keeper_tables ?n_Keeper_leaves ?ia_Keeper ?in_Keeper ?it_Keeper ?im_Keeper ?aKeeper0 ?iKeeper0 ?lKeeper0 ?cKeeper0 ?kKeeper0 ?dKeeper0 ?mk_Keeper ?kc_Keeper ?aKeeper1 ?iKeeper1 ?lKeeper1 ?cKeeper1 ?kKeeper1 ?aKeeper2 ?iKeeper2 ?lKeeper2 ?cKeeper2 ?kKeeper2 ?aKeeper3 ?iKeeper3 ?lKeeper3 ?cKeeper3 ?kKeeper3 ?aKeeper4 ?iKeeper4 ?lKeeper4 ?cKeeper4 ?kKeeper4 ?aKeeper5 ?iKeeper5 ?lKeeper5 ?cKeeper5 ?kKeeper5 ?aKeeper6 ?iKeeper6 ?lKeeper6 ?cKeeper6 ?kKeeper6 ?aKeeper7 ?iKeeper7 ?lKeeper7 ?cKeeper7 ?kKeeper7 ?dKeeper7 ?aKeeper8 ?iKeeper8 ?lKeeper8 ?cKeeper8 ?kKeeper8 ?dKeeper8 ?aKeeper9 ?iKeeper9 ?lKeeper9 ?cKeeper9 ?kKeeper9 ?dKeeper9 ?aKeeper10 ?iKeeper10 ?lKeeper10 ?cKeeper10 ?kKeeper10 ?aKeeper11 ?iKeeper11 ?lKeeper11 ?cKeeper11 ?kKeeper11 ?dKeeper11 ?g_Stands ?pg_Stands ?hd_Stands ?po_Stands ?sa_Stands ?n_Stands_place ?n_Stands_words ?n_Stands_table ?ia_Stands ?in_Stands ?it_Stands ?im_Stands ?aStands0 ?iStands0 ?lStands0 ?cStands0 ?kStands0 ?mk_Stands ?kc_Stands ?aStands1 ?iStands1 ?lStands1 ?cStands1 ?kStands1 ?aStands2 ?iStands2 ?lStands2 ?cStands2 ?kStands2 ?g_Grows ?pg_Grows ?hd_Grows ?po_Grows ?sa_Grows ?n_Grows_old ?n_Grows_before ?ia_Grows ?in_Grows ?it_Grows ?im_Grows ?aGrows0 ?iGrows0 ?lGrows0 ?cGrows0 ?kGrows0 ?mk_Grows ?kc_Grows ?aGrows1 ?iGrows1 ?lGrows1 ?cGrows1 ?kGrows1 ?aGrows2 ?iGrows2 ?lGrows2 ?cGrows2 ?kGrows2 ?g_Holds ?pg_Holds ?hd_Holds ?po_Holds ?sa_Holds ?n_Holds_place ?n_Holds_key ?n_Holds_depth ?n_Holds_said ?ia_Holds ?in_Holds ?it_Holds ?im_Holds ?aHolds0 ?iHolds0 ?lHolds0 ?cHolds0 ?kHolds0 ?mk_Holds ?kc_Holds ?aHolds1 ?iHolds1 ?lHolds1 ?cHolds1 ?kHolds1 ?aHolds2 ?iHolds2 ?lHolds2 ?cHolds2 ?kHolds2 ?aHolds3 ?iHolds3 ?lHolds3 ?cHolds3 ?kHolds3 ?g_Lacks ?pg_Lacks ?hd_Lacks ?po_Lacks ?sa_Lacks ?n_Lacks_place ?n_Lacks_key ?n_Lacks_depth ?ia_Lacks ?in_Lacks ?it_Lacks ?im_Lacks ?aLacks0 ?iLacks0 ?lLacks0 ?cLacks0 ?kLacks0 ?aLacks1 ?iLacks1 ?lLacks1 ?cLacks1 ?kLacks1 ?mk_Lacks ?kc_Lacks ?aLacks2 ?iLacks2 ?lLacks2 ?cLacks2 ?kLacks2 ?aLacks3 ?iLacks3 ?lLacks3 ?cLacks3 ?kLacks3 ?g_Frontier ?pg_Frontier ?hd_Frontier ?po_Frontier ?sa_Frontier ?n_Frontier_seal ?n_Frontier_many ?n_Frontier_tops ?ia_Frontier ?in_Frontier ?it_Frontier ?im_Frontier ?aFrontier0 ?iFrontier0 ?lFrontier0 ?cFrontier0 ?kFrontier0 ?mk_Frontier ?kc_Frontier ?aFrontier1 ?iFrontier1 ?lFrontier1 ?cFrontier1 ?kFrontier1 ?aFrontier2 ?iFrontier2 ?lFrontier2 ?cFrontier2 ?kFrontier2 ?aFrontier3 ?iFrontier3 ?lFrontier3 ?cFrontier3 ?kFrontier3 ?aFrontier4 ?iFrontier4 ?lFrontier4 ?cFrontier4 ?kFrontier4
      (case a0 => k_is)
      (case l0 => k_is)
      (case c0 => k_is)
      (case k0 => k_is)
      (case a1 => k_is)
      (case l1 => k_is)
      (case c1 => k_is)
      (case k1 => k_is)
      (case a2 => k_is)
      (case l2 => k_is)
      (case c2 => k_is)
      (case k2 => k_is)
      (case a3 => k_is)
      (case l3 => k_is)
      (case c3 => k_is)
      (case k3 => k_is)
      (case a4 => k_is)
      (case l4 => k_is)
      (case c4 => k_is)
      (case k4 => k_is)
      (case a5 => k_is)
      (case l5 => k_is)
      (case c5 => k_is)
      (case k5 => k_is)
      (case a6 => k_is)
      (case l6 => k_is)
      (case c6 => k_is)
      (case k6 => k_is)
      (case a7 => k_is)
      (case l7 => k_is)
      (case c7 => k_is)
      (case k7 => k_is)
      (case a8 => k_is)
      (case l8 => k_is)
      (case c8 => k_is)
      (case k8 => k_is)
      (case a9 => k_is)
      (case l9 => k_is)
      (case c9 => k_is)
      (case k9 => k_is)
      (case a10 => k_is)
      (case l10 => k_is)
      (case c10 => k_is)
      (case k10 => k_is)
      (case a11 => k_is)
      (case l11 => k_is)
      (case c11 => k_is)
      (case k11 => k_is)
      (case a12 => k_is)
      (case l12 => k_is)
      (case c12 => k_is)
      (case k12 => k_is)
      (case a13 => k_is)
      (case l13 => k_is)
      (case c13 => k_is)
      (case k13 => k_is)
      (case a14 => k_is)
      (case l14 => k_is)
      (case c14 => k_is)
      (case k14 => k_is)
      (case a15 => k_is)
      (case l15 => k_is)
      (case c15 => k_is)
      (case k15 => k_is)
      (case a16 => k_is)
      (case l16 => k_is)
      (case c16 => k_is)
      (case k16 => k_is)
      (case a17 => k_is)
      (case l17 => k_is)
      (case c17 => k_is)
      (case k17 => k_is)
      (case a18 => k_is)
      (case l18 => k_is)
      (case c18 => k_is)
      (case k18 => k_is)
      (case a19 => k_is)
      (case l19 => k_is)
      (case c19 => k_is)
      (case k19 => k_is)
      (case a20 => k_is)
      (case l20 => k_is)
      (case c20 => k_is)
      (case k20 => k_is)
      (case a21 => k_is)
      (case l21 => k_is)
      (case c21 => k_is)
      (case k21 => k_is)
      (case a22 => k_is)
      (case l22 => k_is)
      (case c22 => k_is)
      (case k22 => k_is)
      (case a23 => k_is)
      (case l23 => k_is)
      (case c23 => k_is)
      (case k23 => k_is)
      (case a24 => k_is)
      (case l24 => k_is)
      (case c24 => k_is)
      (case k24 => k_is)
      (case a25 => k_is)
      (case l25 => k_is)
      (case c25 => k_is)
      (case k25 => k_is)
      (case a26 => k_is)
      (case l26 => k_is)
      (case c26 => k_is)
      (case k26 => k_is)
      (case a27 => k_is)
      (case l27 => k_is)
      (case c27 => k_is)
      (case k27 => k_is)
      (case a28 => k_is)
      (case l28 => k_is)
      (case c28 => k_is)
      (case k28 => k_is)
      (case a29 => k_is)
      (case l29 => k_is)
      (case c29 => k_is)
      (case k29 => k_is)
      (case a30 => k_is)
      (case l30 => k_is)
      (case c30 => k_is)
      (case k30 => k_is)
      (case a31 => k_is)
      (case l31 => k_is)
      (case c31 => k_is)
      (case k31 => k_is)
      (case z_len => k_is)
      (case z_isinstance => k_is)
      (case z_int => k_is)
      (case z_bool => k_is)
      (case z_list => k_is)
      (case z_dict => k_is)
      (case z_tuple => k_is)
      (case z_range => k_is)
      (case z_str => k_is)
      (case z_sorted => k_is)
      (case z_reversed => k_is)
      (case z_enumerate => k_is)
      (case z_abs => k_is)
      (case z_sum => k_is)
      (case g_BookError => k_is)
      (case g_Claim => k_is)
      (case g_BadPaper => k_is)
      (case xP_BadPaper => k_exc)
      (case kP_BadPaper => k_is)
      (case bP_BadPaper => k_is)
      (case tP_BadPaper => k_is)
      (case hg_BadPaper => k_is)
      (case hk_BadPaper => k_is)
      (case hd_BadPaper => k_is)
      (case ha_BadPaper => k_is)
      (case hn_BadPaper => k_is)
      (case ht_BadPaper => k_is)
      (case hm_BadPaper => k_is)
      (case ex_BadPaper => kernel_rfl)
      (case g_NoPlace => k_is)
      (case xP_NoPlace => k_exc)
      (case kP_NoPlace => k_is)
      (case bP_NoPlace => k_is)
      (case tP_NoPlace => k_is)
      (case hg_NoPlace => k_is)
      (case hk_NoPlace => k_is)
      (case hd_NoPlace => k_is)
      (case ha_NoPlace => k_is)
      (case hn_NoPlace => k_is)
      (case ht_NoPlace => k_is)
      (case hm_NoPlace => k_is)
      (case ex_NoPlace => kernel_rfl)
      (case g_BadRow => k_is)
      (case xL_BadRow => k_is)
      (case sa_BadRow => k_is)
      (case ga_BadRow => k_is)
      (case gg_BadRow => k_is)
      (case nf_BadRow => k_is)
      (case kC_BadRow => k_is)
      (case eC_BadRow => k_is)
      (case tC_BadRow => k_is)
      (case hC_BadRow => k_is)
      (case iac_BadRow => k_is)
      (case xm_BadRow => k_is)
      (case xe_BadRow => kernel_rfl)
      (case fi_BadRow => k_is)
      (case ti_BadRow => k_is)
      (case bg_BadRow => k_is)
      (case br_BadRow => kernel_rfl)
      (case bf_BadRow => kernel_rfl)
      (case xn_BadRow => k_is)
      (case xt_BadRow => k_is)
      (case li_BadRow => k_is)
      (case ci_BadRow => k_is)
      (case ki_BadRow => k_is)
      (case g_Behind => k_is)
      (case aMBehind => k_is)
      (case lMBehind => k_is)
      (case cMBehind => k_is)
      (case kMBehind => k_is)
      (case gaMBehind => k_is)
      (case rdMBehind => kernel_rfl)
      (case fcMBehind => kernel_rfl)
      (case g_Table => k_is)
      (case pg_Table => k_is)
      (case hd_Table => k_is)
      (case po_Table => k_is)
      (case sa_Table => k_is)
      (case n_Table_seal => k_is)
      (case n_Table_depth => k_is)
      (case n_Table_held => k_is)
      (case ia_Table => k_is)
      (case in_Table => k_is)
      (case it_Table => k_is)
      (case im_Table => k_is)
      (case aTable0 => k_is)
      (case iTable0 => k_is)
      (case lTable0 => k_is)
      (case cTable0 => k_is)
      (case kTable0 => k_is)
      (case dTable0 => k_is)
      (case mk_Table => k_is)
      (case kc_Table => k_is)
      (case aTable1 => k_is)
      (case iTable1 => k_is)
      (case lTable1 => k_is)
      (case cTable1 => k_is)
      (case kTable1 => k_is)
      (case aTable2 => k_is)
      (case iTable2 => k_is)
      (case lTable2 => k_is)
      (case cTable2 => k_is)
      (case kTable2 => k_is)
      (case aTable3 => k_is)
      (case iTable3 => k_is)
      (case lTable3 => k_is)
      (case cTable3 => k_is)
      (case kTable3 => k_is)
      (case aTable4 => k_is)
      (case iTable4 => k_is)
      (case lTable4 => k_is)
      (case cTable4 => k_is)
      (case kTable4 => k_is)
      (case aTable5 => k_is)
      (case iTable5 => k_is)
      (case lTable5 => k_is)
      (case cTable5 => k_is)
      (case kTable5 => k_is)
      (case aTable6 => k_is)
      (case iTable6 => k_is)
      (case lTable6 => k_is)
      (case cTable6 => k_is)
      (case kTable6 => k_is)
      (case aTable7 => k_is)
      (case iTable7 => k_is)
      (case lTable7 => k_is)
      (case cTable7 => k_is)
      (case kTable7 => k_is)
      (case g_Keeper => k_is)
      (case pg_Keeper => k_is)
      (case hd_Keeper => k_is)
      (case po_Keeper => k_is)
      (case sa_Keeper => k_is)
      (case n_Keeper_seal => k_is)
      (case n_Keeper_depth => k_is)
      (case n_Keeper_texts => k_is)
      (case n_Keeper_tables => k_is)
      (case n_Keeper_leaves => k_is)
      (case ia_Keeper => k_is)
      (case in_Keeper => k_is)
      (case it_Keeper => k_is)
      (case im_Keeper => k_is)
      (case aKeeper0 => k_is)
      (case iKeeper0 => k_is)
      (case lKeeper0 => k_is)
      (case cKeeper0 => k_is)
      (case kKeeper0 => k_is)
      (case dKeeper0 => k_is)
      (case mk_Keeper => k_is)
      (case kc_Keeper => k_is)
      (case aKeeper1 => k_is)
      (case iKeeper1 => k_is)
      (case lKeeper1 => k_is)
      (case cKeeper1 => k_is)
      (case kKeeper1 => k_is)
      (case aKeeper2 => k_is)
      (case iKeeper2 => k_is)
      (case lKeeper2 => k_is)
      (case cKeeper2 => k_is)
      (case kKeeper2 => k_is)
      (case aKeeper3 => k_is)
      (case iKeeper3 => k_is)
      (case lKeeper3 => k_is)
      (case cKeeper3 => k_is)
      (case kKeeper3 => k_is)
      (case aKeeper4 => k_is)
      (case iKeeper4 => k_is)
      (case lKeeper4 => k_is)
      (case cKeeper4 => k_is)
      (case kKeeper4 => k_is)
      (case aKeeper5 => k_is)
      (case iKeeper5 => k_is)
      (case lKeeper5 => k_is)
      (case cKeeper5 => k_is)
      (case kKeeper5 => k_is)
      (case aKeeper6 => k_is)
      (case iKeeper6 => k_is)
      (case lKeeper6 => k_is)
      (case cKeeper6 => k_is)
      (case kKeeper6 => k_is)
      (case aKeeper7 => k_is)
      (case iKeeper7 => k_is)
      (case lKeeper7 => k_is)
      (case cKeeper7 => k_is)
      (case kKeeper7 => k_is)
      (case dKeeper7 => k_is)
      (case aKeeper8 => k_is)
      (case iKeeper8 => k_is)
      (case lKeeper8 => k_is)
      (case cKeeper8 => k_is)
      (case kKeeper8 => k_is)
      (case dKeeper8 => k_is)
      (case aKeeper9 => k_is)
      (case iKeeper9 => k_is)
      (case lKeeper9 => k_is)
      (case cKeeper9 => k_is)
      (case kKeeper9 => k_is)
      (case dKeeper9 => k_is)
      (case aKeeper10 => k_is)
      (case iKeeper10 => k_is)
      (case lKeeper10 => k_is)
      (case cKeeper10 => k_is)
      (case kKeeper10 => k_is)
      (case aKeeper11 => k_is)
      (case iKeeper11 => k_is)
      (case lKeeper11 => k_is)
      (case cKeeper11 => k_is)
      (case kKeeper11 => k_is)
      (case dKeeper11 => k_is)
      (case g_Stands => k_is)
      (case pg_Stands => k_is)
      (case hd_Stands => k_is)
      (case po_Stands => k_is)
      (case sa_Stands => k_is)
      (case n_Stands_place => k_is)
      (case n_Stands_words => k_is)
      (case n_Stands_table => k_is)
      (case ia_Stands => k_is)
      (case in_Stands => k_is)
      (case it_Stands => k_is)
      (case im_Stands => k_is)
      (case aStands0 => k_is)
      (case iStands0 => k_is)
      (case lStands0 => k_is)
      (case cStands0 => k_is)
      (case kStands0 => k_is)
      (case mk_Stands => k_is)
      (case kc_Stands => k_is)
      (case aStands1 => k_is)
      (case iStands1 => k_is)
      (case lStands1 => k_is)
      (case cStands1 => k_is)
      (case kStands1 => k_is)
      (case aStands2 => k_is)
      (case iStands2 => k_is)
      (case lStands2 => k_is)
      (case cStands2 => k_is)
      (case kStands2 => k_is)
      (case g_Grows => k_is)
      (case pg_Grows => k_is)
      (case hd_Grows => k_is)
      (case po_Grows => k_is)
      (case sa_Grows => k_is)
      (case n_Grows_old => k_is)
      (case n_Grows_before => k_is)
      (case ia_Grows => k_is)
      (case in_Grows => k_is)
      (case it_Grows => k_is)
      (case im_Grows => k_is)
      (case aGrows0 => k_is)
      (case iGrows0 => k_is)
      (case lGrows0 => k_is)
      (case cGrows0 => k_is)
      (case kGrows0 => k_is)
      (case mk_Grows => k_is)
      (case kc_Grows => k_is)
      (case aGrows1 => k_is)
      (case iGrows1 => k_is)
      (case lGrows1 => k_is)
      (case cGrows1 => k_is)
      (case kGrows1 => k_is)
      (case aGrows2 => k_is)
      (case iGrows2 => k_is)
      (case lGrows2 => k_is)
      (case cGrows2 => k_is)
      (case kGrows2 => k_is)
      (case g_Holds => k_is)
      (case pg_Holds => k_is)
      (case hd_Holds => k_is)
      (case po_Holds => k_is)
      (case sa_Holds => k_is)
      (case n_Holds_place => k_is)
      (case n_Holds_key => k_is)
      (case n_Holds_depth => k_is)
      (case n_Holds_said => k_is)
      (case ia_Holds => k_is)
      (case in_Holds => k_is)
      (case it_Holds => k_is)
      (case im_Holds => k_is)
      (case aHolds0 => k_is)
      (case iHolds0 => k_is)
      (case lHolds0 => k_is)
      (case cHolds0 => k_is)
      (case kHolds0 => k_is)
      (case mk_Holds => k_is)
      (case kc_Holds => k_is)
      (case aHolds1 => k_is)
      (case iHolds1 => k_is)
      (case lHolds1 => k_is)
      (case cHolds1 => k_is)
      (case kHolds1 => k_is)
      (case aHolds2 => k_is)
      (case iHolds2 => k_is)
      (case lHolds2 => k_is)
      (case cHolds2 => k_is)
      (case kHolds2 => k_is)
      (case aHolds3 => k_is)
      (case iHolds3 => k_is)
      (case lHolds3 => k_is)
      (case cHolds3 => k_is)
      (case kHolds3 => k_is)
      (case g_Lacks => k_is)
      (case pg_Lacks => k_is)
      (case hd_Lacks => k_is)
      (case po_Lacks => k_is)
      (case sa_Lacks => k_is)
      (case n_Lacks_place => k_is)
      (case n_Lacks_key => k_is)
      (case n_Lacks_depth => k_is)
      (case ia_Lacks => k_is)
      (case in_Lacks => k_is)
      (case it_Lacks => k_is)
      (case im_Lacks => k_is)
      (case aLacks0 => k_is)
      (case iLacks0 => k_is)
      (case lLacks0 => k_is)
      (case cLacks0 => k_is)
      (case kLacks0 => k_is)
      (case aLacks1 => k_is)
      (case iLacks1 => k_is)
      (case lLacks1 => k_is)
      (case cLacks1 => k_is)
      (case kLacks1 => k_is)
      (case mk_Lacks => k_is)
      (case kc_Lacks => k_is)
      (case aLacks2 => k_is)
      (case iLacks2 => k_is)
      (case lLacks2 => k_is)
      (case cLacks2 => k_is)
      (case kLacks2 => k_is)
      (case aLacks3 => k_is)
      (case iLacks3 => k_is)
      (case lLacks3 => k_is)
      (case cLacks3 => k_is)
      (case kLacks3 => k_is)
      (case g_Frontier => k_is)
      (case pg_Frontier => k_is)
      (case hd_Frontier => k_is)
      (case po_Frontier => k_is)
      (case sa_Frontier => k_is)
      (case n_Frontier_seal => k_is)
      (case n_Frontier_many => k_is)
      (case n_Frontier_tops => k_is)
      (case ia_Frontier => k_is)
      (case in_Frontier => k_is)
      (case it_Frontier => k_is)
      (case im_Frontier => k_is)
      (case aFrontier0 => k_is)
      (case iFrontier0 => k_is)
      (case lFrontier0 => k_is)
      (case cFrontier0 => k_is)
      (case kFrontier0 => k_is)
      (case mk_Frontier => k_is)
      (case kc_Frontier => k_is)
      (case aFrontier1 => k_is)
      (case iFrontier1 => k_is)
      (case lFrontier1 => k_is)
      (case cFrontier1 => k_is)
      (case kFrontier1 => k_is)
      (case aFrontier2 => k_is)
      (case iFrontier2 => k_is)
      (case lFrontier2 => k_is)
      (case cFrontier2 => k_is)
      (case kFrontier2 => k_is)
      (case aFrontier3 => k_is)
      (case iFrontier3 => k_is)
      (case lFrontier3 => k_is)
      (case cFrontier3 => k_is)
      (case kFrontier3 => k_is)
      (case aFrontier4 => k_is)
      (case iFrontier4 => k_is)
      (case lFrontier4 => k_is)
      (case cFrontier4 => k_is)
      (case kFrontier4 => k_is)
    case hcode => kernel_rfl
#print axioms PySem.Challenge.cw_growbook_k16_great_holds

