import PyProof.Rows.All
import Wide.All
import OpenK.AllK
import Wide.FinOn
import HandS.ForMost
import HandS.WideBits
import HandS.IsInst
import HandS.Codes
import HandS.Evl
import HandS.Nested
import HandS.EndTab
import HandS.TupLen
import HandS.Conv
import HandS.Rev
import HandS.ForExc
import HandS.ExcIs
import HandS.TryElse
import HandS.Style
import HandS.Defaults
import HandS.SortInts
import HandS.More
import HandS.Walk
import HandS.HotCalls
import HandS.SuiteRaise
import PySem.Challenge.RW_growbook_k13_whole_followers

import HandS.ExcInit
import HandS.ExcInitHot
import HandS.ExcField
import HandS.StrMore
import HandS.TupAny
import HandS.CallSlots
set_option Elab.async false
set_option linter.all false
set_option maxRecDepth 100000
set_option maxHeartbeats 4000000
namespace My
open PySem PySem.Spec PyProof.Rows L2
open C8 (Cal Met Mak CalAt pe_c pe_mk pe_mt pe_mt0)

/-! ### the text by places -/
def inDef (s : Stmt) (j : Nat) : Stmt := (defBody s).getD j (.Pass ⟨0, 0, 0, 0⟩)
def topS (i : Nat) : Stmt := PySem.Challenge.pw_growbook_k13_whole_followers.main.body.getD i (.Pass ⟨0, 0, 0, 0⟩)
abbrev s__wall : Stmt := topS 0
abbrev N__wall : List Str := ["k"]
theorem sc__wall : FnScope ["k"] ["k"] (defScope s__wall) := ⟨rfl, rfl, rfl, by decide +kernel, rfl, by decide +kernel, by decide +kernel⟩
abbrev s_BadRow___init__ : Stmt := inClass (topS 5) 0
abbrev N_BadRow___init__ : List Str := ["self", "row"]
theorem sc_BadRow___init__ : FnScope ["self", "row"] ["self", "row"] (defScope s_BadRow___init__) := ⟨rfl, rfl, rfl, by decide +kernel, rfl, by decide +kernel, by decide +kernel⟩
abbrev s_split : Stmt := topS 7
abbrev N_split : List Str := ["size"]
theorem sc_split : FnScope ["size"] ["size"] (defScope s_split) := ⟨rfl, rfl, rfl, by decide +kernel, rfl, by decide +kernel, by decide +kernel⟩
abbrev s_none_seal : Stmt := topS 8
abbrev N_none_seal : List Str := ["seal"]
theorem sc_none_seal : FnScope ["seal"] ["seal"] (defScope s_none_seal) := ⟨rfl, rfl, rfl, by decide +kernel, rfl, by decide +kernel, by decide +kernel⟩
abbrev s_leaf_seal : Stmt := topS 9
abbrev N_leaf_seal : List Str := ["seal", "text", "table"]
theorem sc_leaf_seal : FnScope ["seal", "text", "table"] ["seal", "text", "table"] (defScope s_leaf_seal) := ⟨rfl, rfl, rfl, by decide +kernel, rfl, by decide +kernel, by decide +kernel⟩
abbrev s_pair_seal : Stmt := topS 10
abbrev N_pair_seal : List Str := ["seal", "left", "right"]
theorem sc_pair_seal : FnScope ["seal", "left", "right"] ["seal", "left", "right"] (defScope s_pair_seal) := ⟨rfl, rfl, rfl, by decide +kernel, rfl, by decide +kernel, by decide +kernel⟩
abbrev s_book_seal : Stmt := topS 11
abbrev N_book_seal : List Str := ["seal", "size", "top"]
theorem sc_book_seal : FnScope ["seal", "size", "top"] ["seal", "size", "top"] (defScope s_book_seal) := ⟨rfl, rfl, rfl, by decide +kernel, rfl, by decide +kernel, by decide +kernel⟩
abbrev s_top_of : Stmt := topS 12
abbrev N_top_of : List Str := ["seal", "leaves", "k"]
theorem sc_top_of : FnScope ["seal", "leaves", "k"] ["seal", "leaves"] (defScope s_top_of) := ⟨rfl, rfl, rfl, by decide +kernel, rfl, by decide +kernel, by decide +kernel⟩
abbrev s_path_of : Stmt := topS 13
abbrev N_path_of : List Str := ["seal", "leaves", "place", "k"]
theorem sc_path_of : FnScope ["seal", "leaves", "place", "k"] ["seal", "leaves", "place"] (defScope s_path_of) := ⟨rfl, rfl, rfl, by decide +kernel, rfl, by decide +kernel, by decide +kernel⟩
abbrev s_growth_of : Stmt := topS 14
abbrev N_growth_of : List Str := ["seal", "leaves", "old", "k"]
theorem sc_growth_of : FnScope ["seal", "leaves", "old", "k"] ["seal", "leaves", "old"] (defScope s_growth_of) := ⟨rfl, rfl, rfl, by decide +kernel, rfl, by decide +kernel, by decide +kernel⟩
abbrev s_last_of : Stmt := topS 15
abbrev N_last_of : List Str := ["paper"]
theorem sc_last_of : FnScope ["paper"] ["paper"] (defScope s_last_of) := ⟨rfl, rfl, rfl, by decide +kernel, rfl, by decide +kernel, by decide +kernel⟩
abbrev s_risen : Stmt := topS 16
abbrev N_risen : List Str := ["seal", "leaf", "place", "size", "path", "rest", "sides", "last", "k", "found", "low"]
theorem sc_risen : FnScope ["seal", "leaf", "place", "size", "path", "rest", "sides", "last", "k", "found", "low"] ["seal", "leaf", "place", "size", "path"] (defScope s_risen) := ⟨rfl, rfl, rfl, by decide +kernel, rfl, by decide +kernel, by decide +kernel⟩
abbrev s_regrown : Stmt := topS 17
abbrev N_regrown : List Str := ["seal", "old", "size", "paper", "last", "rest", "sides", "k", "one", "other", "low"]
theorem sc_regrown : FnScope ["seal", "old", "size", "paper", "last", "rest", "sides", "k", "one", "other", "low"] ["seal", "old", "size", "paper"] (defScope s_regrown) := ⟨rfl, rfl, rfl, by decide +kernel, rfl, by decide +kernel, by decide +kernel⟩
abbrev s_parted : Stmt := topS 19
abbrev N_parted : List Str := ["rows", "level", "low", "high", "row"]
theorem sc_parted : FnScope ["rows", "level", "low", "high", "row"] ["rows", "level"] (defScope s_parted) := ⟨rfl, rfl, rfl, by decide +kernel, rfl, by decide +kernel, by decide +kernel⟩
abbrev s_part_top : Stmt := topS 20
abbrev N_part_top : List Str := ["seal", "rows", "level", "both"]
theorem sc_part_top : FnScope ["seal", "rows", "level", "both"] ["seal", "rows", "level"] (defScope s_part_top) := ⟨rfl, rfl, rfl, by decide +kernel, rfl, by decide +kernel, by decide +kernel⟩
abbrev s_table_seal : Stmt := topS 21
abbrev N_table_seal : List Str := ["seal", "depth", "top"]
theorem sc_table_seal : FnScope ["seal", "depth", "top"] ["seal", "depth", "top"] (defScope s_table_seal) := ⟨rfl, rfl, rfl, by decide +kernel, rfl, by decide +kernel, by decide +kernel⟩
abbrev s_Table___init__ : Stmt := inClass (topS 22) 0
abbrev N_Table___init__ : List Str := ["self", "seal", "depth"]
theorem sc_Table___init__ : FnScope ["self", "seal", "depth"] ["self", "seal", "depth"] (defScope s_Table___init__) := ⟨rfl, rfl, rfl, by decide +kernel, rfl, by decide +kernel, by decide +kernel⟩
abbrev s_Table_asked : Stmt := inClass (topS 22) 1
abbrev N_Table_asked : List Str := ["self", "key"]
theorem sc_Table_asked : FnScope ["self", "key"] ["self", "key"] (defScope s_Table_asked) := ⟨rfl, rfl, rfl, by decide +kernel, rfl, by decide +kernel, by decide +kernel⟩
abbrev s_Table_put : Stmt := inClass (topS 22) 2
abbrev N_Table_put : List Str := ["self", "key", "text"]
theorem sc_Table_put : FnScope ["self", "key", "text"] ["self", "key", "text"] (defScope s_Table_put) := ⟨rfl, rfl, rfl, by decide +kernel, rfl, by decide +kernel, by decide +kernel⟩
abbrev s_Table_cut : Stmt := inClass (topS 22) 3
abbrev N_Table_cut : List Str := ["self", "key"]
theorem sc_Table_cut : FnScope ["self", "key"] ["self", "key"] (defScope s_Table_cut) := ⟨rfl, rfl, rfl, by decide +kernel, rfl, by decide +kernel, by decide +kernel⟩
abbrev s_Table_value : Stmt := inClass (topS 22) 4
abbrev N_Table_value : List Str := ["self", "key"]
theorem sc_Table_value : FnScope ["self", "key"] ["self", "key"] (defScope s_Table_value) := ⟨rfl, rfl, rfl, by decide +kernel, rfl, by decide +kernel, by decide +kernel⟩
abbrev s_Table_rows : Stmt := inClass (topS 22) 5
abbrev N_Table_rows : List Str := ["self", "key", "text"]
theorem sc_Table_rows : FnScope ["self", "key", "text"] ["self"] (defScope s_Table_rows) := ⟨rfl, rfl, rfl, by decide +kernel, rfl, by decide +kernel, by decide +kernel⟩
abbrev s_Table_head : Stmt := inClass (topS 22) 6
abbrev N_Table_head : List Str := ["self"]
theorem sc_Table_head : FnScope ["self"] ["self"] (defScope s_Table_head) := ⟨rfl, rfl, rfl, by decide +kernel, rfl, by decide +kernel, by decide +kernel⟩
abbrev s_Table_way : Stmt := inClass (topS 22) 7
abbrev N_Table_way : List Str := ["self", "key", "rows", "level", "others", "both", "bit"]
theorem sc_Table_way : FnScope ["self", "key", "rows", "level", "others", "both", "bit"] ["self", "key"] (defScope s_Table_way) := ⟨rfl, rfl, rfl, by decide +kernel, rfl, by decide +kernel, by decide +kernel⟩
abbrev s_Table_twin : Stmt := inClass (topS 22) 8
abbrev N_Table_twin : List Str := ["self"]
theorem sc_Table_twin : FnScope ["self"] ["self"] (defScope s_Table_twin) := ⟨rfl, rfl, rfl, by decide +kernel, rfl, by decide +kernel, by decide +kernel⟩
abbrev s_Claim_judged : Stmt := inClass (topS 24) 0
abbrev N_Claim_judged : List Str := ["self", "seal", "size", "head", "paper", "shows"]
theorem sc_Claim_judged : FnScope ["self", "seal", "size", "head", "paper", "shows"] ["self", "seal", "size", "head", "paper"] (defScope s_Claim_judged) := ⟨rfl, rfl, rfl, by decide +kernel, rfl, by decide +kernel, by decide +kernel⟩
abbrev s_Claim_shown : Stmt := inClass (topS 24) 1
abbrev N_Claim_shown : List Str := ["self", "seal", "size", "head", "paper"]
theorem sc_Claim_shown : FnScope ["self", "seal", "size", "head", "paper"] ["self", "seal", "size", "head", "paper"] (defScope s_Claim_shown) := ⟨rfl, rfl, rfl, by decide +kernel, rfl, by decide +kernel, by decide +kernel⟩
abbrev s_Stands___init__ : Stmt := inClass (topS 25) 0
abbrev N_Stands___init__ : List Str := ["self", "place", "text", "table"]
theorem sc_Stands___init__ : FnScope ["self", "place", "text", "table"] ["self", "place", "text", "table"] (defScope s_Stands___init__) := ⟨rfl, rfl, rfl, by decide +kernel, rfl, by decide +kernel, by decide +kernel⟩
abbrev s_Stands_shown : Stmt := inClass (topS 25) 1
abbrev N_Stands_shown : List Str := ["self", "seal", "size", "head", "paper", "leaf"]
theorem sc_Stands_shown : FnScope ["self", "seal", "size", "head", "paper", "leaf"] ["self", "seal", "size", "head", "paper"] (defScope s_Stands_shown) := ⟨rfl, rfl, rfl, by decide +kernel, rfl, by decide +kernel, by decide +kernel⟩
abbrev s_Grows___init__ : Stmt := inClass (topS 26) 0
abbrev N_Grows___init__ : List Str := ["self", "old", "head"]
theorem sc_Grows___init__ : FnScope ["self", "old", "head"] ["self", "old", "head"] (defScope s_Grows___init__) := ⟨rfl, rfl, rfl, by decide +kernel, rfl, by decide +kernel, by decide +kernel⟩
abbrev s_Grows_shown : Stmt := inClass (topS 26) 1
abbrev N_Grows_shown : List Str := ["self", "seal", "size", "head", "paper", "empty", "both"]
theorem sc_Grows_shown : FnScope ["self", "seal", "size", "head", "paper", "empty", "both"] ["self", "seal", "size", "head", "paper"] (defScope s_Grows_shown) := ⟨rfl, rfl, rfl, by decide +kernel, rfl, by decide +kernel, by decide +kernel⟩
abbrev s_Follower___init__ : Stmt := inClass (topS 28) 0
abbrev N_Follower___init__ : List Str := ["self", "seal"]
theorem sc_Follower___init__ : FnScope ["self", "seal"] ["self", "seal"] (defScope s_Follower___init__) := ⟨rfl, rfl, rfl, by decide +kernel, rfl, by decide +kernel, by decide +kernel⟩
abbrev s_Follower_size : Stmt := inClass (topS 28) 1
abbrev N_Follower_size : List Str := ["self"]
theorem sc_Follower_size : FnScope ["self"] ["self"] (defScope s_Follower_size) := ⟨rfl, rfl, rfl, by decide +kernel, rfl, by decide +kernel, by decide +kernel⟩
abbrev s_Follower_head : Stmt := inClass (topS 28) 2
abbrev N_Follower_head : List Str := ["self"]
theorem sc_Follower_head : FnScope ["self"] ["self"] (defScope s_Follower_head) := ⟨rfl, rfl, rfl, by decide +kernel, rfl, by decide +kernel, by decide +kernel⟩
abbrev s_Follower_take : Stmt := inClass (topS 28) 3
abbrev N_Follower_take : List Str := ["self", "size", "head", "paper", "claim"]
theorem sc_Follower_take : FnScope ["self", "size", "head", "paper", "claim"] ["self", "size", "head", "paper"] (defScope s_Follower_take) := ⟨rfl, rfl, rfl, by decide +kernel, rfl, by decide +kernel, by decide +kernel⟩
abbrev s_Follower_judge : Stmt := inClass (topS 28) 4
abbrev N_Follower_judge : List Str := ["self", "claim", "paper"]
theorem sc_Follower_judge : FnScope ["self", "claim", "paper"] ["self", "claim", "paper"] (defScope s_Follower_judge) := ⟨rfl, rfl, rfl, by decide +kernel, rfl, by decide +kernel, by decide +kernel⟩
abbrev s_key_of : Stmt := topS 30
abbrev N_key_of : List Str := ["figures", "depth", "key"]
theorem sc_key_of : FnScope ["figures", "depth", "key"] ["figures", "depth"] (defScope s_key_of) := ⟨rfl, rfl, rfl, by decide +kernel, rfl, by decide +kernel, by decide +kernel⟩
abbrev s_read_row : Stmt := topS 31
abbrev N_read_row : List Str := ["row", "depth", "bare", "word", "blank", "rest", "figures", "behind", "text", "key"]
theorem sc_read_row : FnScope ["row", "depth", "bare", "word", "blank", "rest", "figures", "behind", "text", "key"] ["row", "depth"] (defScope s_read_row) := ⟨rfl, rfl, rfl, by decide +kernel, rfl, by decide +kernel, by decide +kernel⟩
abbrev s_placed : Stmt := topS 32
abbrev N_placed : List Str := ["row", "place", "depth", "said"]
theorem sc_placed : FnScope ["row", "place", "depth", "said"] ["row", "place", "depth"] (defScope s_placed) := ⟨rfl, rfl, rfl, by decide +kernel, rfl, by decide +kernel, by decide +kernel⟩
abbrev s_changed : Stmt := topS 33
abbrev N_changed : List Str := ["table", "text", "depth", "other", "key", "value", "place", "row", "said"]
theorem sc_changed : FnScope ["table", "text", "depth", "other", "key", "value", "place", "row", "said"] ["table", "text", "depth"] (defScope s_changed) := ⟨rfl, rfl, rfl, by decide +kernel, rfl, by decide +kernel, by decide +kernel⟩
abbrev s_Keeper___init__ : Stmt := inClass (topS 35) 0
abbrev N_Keeper___init__ : List Str := ["self", "seal", "depth"]
theorem sc_Keeper___init__ : FnScope ["self", "seal", "depth"] ["self", "seal", "depth"] (defScope s_Keeper___init__) := ⟨rfl, rfl, rfl, by decide +kernel, rfl, by decide +kernel, by decide +kernel⟩
abbrev s_Keeper_add : Stmt := inClass (topS 35) 1
abbrev N_Keeper_add : List Str := ["self", "text", "last", "table"]
theorem sc_Keeper_add : FnScope ["self", "text", "last", "table"] ["self", "text"] (defScope s_Keeper_add) := ⟨rfl, rfl, rfl, by decide +kernel, rfl, by decide +kernel, by decide +kernel⟩
abbrev s_Keeper_size : Stmt := inClass (topS 35) 2
abbrev N_Keeper_size : List Str := ["self"]
theorem sc_Keeper_size : FnScope ["self"] ["self"] (defScope s_Keeper_size) := ⟨rfl, rfl, rfl, by decide +kernel, rfl, by decide +kernel, by decide +kernel⟩
abbrev s_Keeper_first : Stmt := inClass (topS 35) 3
abbrev N_Keeper_first : List Str := ["self", "size"]
theorem sc_Keeper_first : FnScope ["self", "size"] ["self", "size"] (defScope s_Keeper_first) := ⟨rfl, rfl, rfl, by decide +kernel, rfl, by decide +kernel, by decide +kernel⟩
abbrev s_Keeper_within : Stmt := inClass (topS 35) 4
abbrev N_Keeper_within : List Str := ["self", "place", "size"]
theorem sc_Keeper_within : FnScope ["self", "place", "size"] ["self", "place", "size"] (defScope s_Keeper_within) := ⟨rfl, rfl, rfl, by decide +kernel, rfl, by decide +kernel, by decide +kernel⟩
abbrev s_Keeper_text : Stmt := inClass (topS 35) 5
abbrev N_Keeper_text : List Str := ["self", "place"]
theorem sc_Keeper_text : FnScope ["self", "place"] ["self", "place"] (defScope s_Keeper_text) := ⟨rfl, rfl, rfl, by decide +kernel, rfl, by decide +kernel, by decide +kernel⟩
abbrev s_Keeper_table_head : Stmt := inClass (topS 35) 6
abbrev N_Keeper_table_head : List Str := ["self", "place"]
theorem sc_Keeper_table_head : FnScope ["self", "place"] ["self", "place"] (defScope s_Keeper_table_head) := ⟨rfl, rfl, rfl, by decide +kernel, rfl, by decide +kernel, by decide +kernel⟩
abbrev s_Keeper_head : Stmt := inClass (topS 35) 7
abbrev N_Keeper_head : List Str := ["self", "size", "leaves"]
theorem sc_Keeper_head : FnScope ["self", "size", "leaves"] ["self", "size"] (defScope s_Keeper_head) := ⟨rfl, rfl, rfl, by decide +kernel, rfl, by decide +kernel, by decide +kernel⟩
abbrev s_Keeper_path : Stmt := inClass (topS 35) 8
abbrev N_Keeper_path : List Str := ["self", "place", "size", "leaves"]
theorem sc_Keeper_path : FnScope ["self", "place", "size", "leaves"] ["self", "place", "size"] (defScope s_Keeper_path) := ⟨rfl, rfl, rfl, by decide +kernel, rfl, by decide +kernel, by decide +kernel⟩
abbrev s_Keeper_growth : Stmt := inClass (topS 35) 9
abbrev N_Keeper_growth : List Str := ["self", "old", "size", "leaves"]
theorem sc_Keeper_growth : FnScope ["self", "old", "size", "leaves"] ["self", "old", "size"] (defScope s_Keeper_growth) := ⟨rfl, rfl, rfl, by decide +kernel, rfl, by decide +kernel, by decide +kernel⟩
abbrev s_Keeper_way : Stmt := inClass (topS 35) 10
abbrev N_Keeper_way : List Str := ["self", "place", "key"]
theorem sc_Keeper_way : FnScope ["self", "place", "key"] ["self", "place", "key"] (defScope s_Keeper_way) := ⟨rfl, rfl, rfl, by decide +kernel, rfl, by decide +kernel, by decide +kernel⟩
abbrev s_Keeper_paper : Stmt := inClass (topS 35) 11
abbrev N_Keeper_paper : List Str := ["self", "place", "key", "size", "path"]
theorem sc_Keeper_paper : FnScope ["self", "place", "key", "size", "path"] ["self", "place", "key", "size"] (defScope s_Keeper_paper) := ⟨rfl, rfl, rfl, by decide +kernel, rfl, by decide +kernel, by decide +kernel⟩
abbrev s__law_cell_at : Stmt := topS 37
abbrev N__law_cell_at : List Str := ["_law_script", "_law_k"]
theorem sc__law_cell_at : FnScope ["_law_script", "_law_k"] ["_law_script", "_law_k"] (defScope s__law_cell_at) := ⟨rfl, rfl, rfl, by decide +kernel, rfl, by decide +kernel, by decide +kernel⟩
abbrev s__law_plain : Stmt := topS 38
abbrev N__law_plain : List Str := ["_law_mark", "_law_one", "_law_two"]
theorem sc__law_plain : FnScope ["_law_mark", "_law_one", "_law_two"] ["_law_mark", "_law_one", "_law_two"] (defScope s__law_plain) := ⟨rfl, rfl, rfl, by decide +kernel, rfl, by decide +kernel, by decide +kernel⟩
abbrev s__law_turned : Stmt := topS 39
abbrev N__law_turned : List Str := ["_law_mark", "_law_one", "_law_two"]
theorem sc__law_turned : FnScope ["_law_mark", "_law_one", "_law_two"] ["_law_mark", "_law_one", "_law_two"] (defScope s__law_turned) := ⟨rfl, rfl, rfl, by decide +kernel, rfl, by decide +kernel, by decide +kernel⟩
abbrev s__law_numbering : Stmt := topS 40
abbrev N__law_numbering : List Str := ["_law_numbered", "_law_told"]
theorem sc__law_numbering : FnScope ["_law_numbered", "_law_told"] [] (defScope s__law_numbering) := ⟨rfl, rfl, rfl, by decide +kernel, rfl, by decide +kernel, by decide +kernel⟩
abbrev s__law_numbering__law_numbered : Stmt := inDef (topS 40) 1
abbrev N__law_numbering__law_numbered : List Str := ["_law_mark", "_law_one", "_law_two", "_law_told"]
abbrev s__law_seal_by : Stmt := topS 41
abbrev N__law_seal_by : List Str := ["_law_script", "_law_kind"]
theorem sc__law_seal_by : FnScope ["_law_script", "_law_kind"] ["_law_script"] (defScope s__law_seal_by) := ⟨rfl, rfl, rfl, by decide +kernel, rfl, by decide +kernel, by decide +kernel⟩
abbrev s__law_draw : Stmt := topS 42
abbrev N__law_draw : List Str := ["_law_cell", "_law_k", "_law_many", "_law_primes"]
theorem sc__law_draw : FnScope ["_law_cell", "_law_k", "_law_many", "_law_primes"] ["_law_cell", "_law_k", "_law_many"] (defScope s__law_draw) := ⟨rfl, rfl, rfl, by decide +kernel, rfl, by decide +kernel, by decide +kernel⟩
abbrev s__law_word : Stmt := topS 43
abbrev N__law_word : List Str := ["_law_cell", "_law_some", "_law_many", "_law_kept_here", "_law_k", "_law_sign"]
theorem sc__law_word : FnScope ["_law_cell", "_law_some", "_law_many", "_law_kept_here", "_law_k", "_law_sign"] ["_law_cell"] (defScope s__law_word) := ⟨rfl, rfl, rfl, by decide +kernel, rfl, by decide +kernel, by decide +kernel⟩
abbrev s__law_split : Stmt := topS 44
abbrev N__law_split : List Str := ["_law_size", "_law_k"]
theorem sc__law_split : FnScope ["_law_size", "_law_k"] ["_law_size"] (defScope s__law_split) := ⟨rfl, rfl, rfl, by decide +kernel, rfl, by decide +kernel, by decide +kernel⟩
abbrev s__law_top : Stmt := topS 45
abbrev N__law_top : List Str := ["_law_seal", "_law_leaves_here", "_law_k"]
theorem sc__law_top : FnScope ["_law_seal", "_law_leaves_here", "_law_k"] ["_law_seal", "_law_leaves_here"] (defScope s__law_top) := ⟨rfl, rfl, rfl, by decide +kernel, rfl, by decide +kernel, by decide +kernel⟩
abbrev s__law_path : Stmt := topS 46
abbrev N__law_path : List Str := ["_law_seal", "_law_leaves_here", "_law_place", "_law_k"]
theorem sc__law_path : FnScope ["_law_seal", "_law_leaves_here", "_law_place", "_law_k"] ["_law_seal", "_law_leaves_here", "_law_place"] (defScope s__law_path) := ⟨rfl, rfl, rfl, by decide +kernel, rfl, by decide +kernel, by decide +kernel⟩
abbrev s__law_growth : Stmt := topS 47
abbrev N__law_growth : List Str := ["_law_seal", "_law_leaves_here", "_law_old", "_law_k"]
theorem sc__law_growth : FnScope ["_law_seal", "_law_leaves_here", "_law_old", "_law_k"] ["_law_seal", "_law_leaves_here", "_law_old"] (defScope s__law_growth) := ⟨rfl, rfl, rfl, by decide +kernel, rfl, by decide +kernel, by decide +kernel⟩
abbrev s__law_books : Stmt := topS 48
abbrev N__law_books : List Str := ["_law_script", "_law_seed", "_law_many", "_law_both", "_law_one", "_law_other", "_law_k"]
theorem sc__law_books : FnScope ["_law_script", "_law_seed", "_law_many", "_law_both", "_law_one", "_law_other", "_law_k"] ["_law_script"] (defScope s__law_books) := ⟨rfl, rfl, rfl, by decide +kernel, rfl, by decide +kernel, by decide +kernel⟩
abbrev s__law_leaves : Stmt := topS 49
abbrev N__law_leaves : List Str := ["_law_seal", "_law_texts", "_law_text"]
theorem sc__law_leaves : FnScope ["_law_seal", "_law_texts", "_law_text"] ["_law_seal", "_law_texts"] (defScope s__law_leaves) := ⟨rfl, rfl, rfl, by decide +kernel, rfl, by decide +kernel, by decide +kernel⟩
abbrev s__law_head : Stmt := topS 50
abbrev N__law_head : List Str := ["_law_seal", "_law_texts"]
theorem sc__law_head : FnScope ["_law_seal", "_law_texts"] ["_law_seal", "_law_texts"] (defScope s__law_head) := ⟨rfl, rfl, rfl, by decide +kernel, rfl, by decide +kernel, by decide +kernel⟩
abbrev s__law_bent : Stmt := topS 51
abbrev N__law_bent : List Str := ["_law_seal", "_law_paper", "_law_cell", "_law_bend", "_law_at"]
theorem sc__law_bent : FnScope ["_law_seal", "_law_paper", "_law_cell", "_law_bend", "_law_at"] ["_law_seal", "_law_paper", "_law_cell"] (defScope s__law_bent) := ⟨rfl, rfl, rfl, by decide +kernel, rfl, by decide +kernel, by decide +kernel⟩
abbrev s__law_offered : Stmt := topS 52
abbrev N__law_offered : List Str := ["_law_seal", "_law_follower", "_law_took", "_law_books_here", "_law_keepers", "_law_cell", "_law_k", "_law_size", "_law_told", "_law_old", "_law_j", "_law_last", "_law_paper", "_law_found", "_law_due"]
theorem sc__law_offered : FnScope ["_law_seal", "_law_follower", "_law_took", "_law_books_here", "_law_keepers", "_law_cell", "_law_k", "_law_size", "_law_told", "_law_old", "_law_j", "_law_last", "_law_paper", "_law_found", "_law_due"] ["_law_seal", "_law_follower", "_law_took", "_law_books_here", "_law_keepers", "_law_cell"] (defScope s__law_offered) := ⟨rfl, rfl, rfl, by decide +kernel, rfl, by decide +kernel, by decide +kernel⟩
abbrev s__law_judged : Stmt := topS 53
abbrev N__law_judged : List Str := ["_law_seal", "_law_follower", "_law_took", "_law_books_here", "_law_keepers", "_law_cell", "_law_k", "_law_size", "_law_place", "_law_at", "_law_path_here", "_law_claim", "_law_due", "_law_found"]
theorem sc__law_judged : FnScope ["_law_seal", "_law_follower", "_law_took", "_law_books_here", "_law_keepers", "_law_cell", "_law_k", "_law_size", "_law_place", "_law_at", "_law_path_here", "_law_claim", "_law_due", "_law_found"] ["_law_seal", "_law_follower", "_law_took", "_law_books_here", "_law_keepers", "_law_cell"] (defScope s__law_judged) := ⟨rfl, rfl, rfl, by decide +kernel, rfl, by decide +kernel, by decide +kernel⟩
abbrev s__law_kept : Stmt := topS 54
abbrev N__law_kept : List Str := ["_law_seal", "_law_follower", "_law_took", "_law_size"]
theorem sc__law_kept : FnScope ["_law_seal", "_law_follower", "_law_took", "_law_size"] ["_law_seal", "_law_follower", "_law_took"] (defScope s__law_kept) := ⟨rfl, rfl, rfl, by decide +kernel, rfl, by decide +kernel, by decide +kernel⟩
abbrev s_law : Stmt := topS 55
abbrev N_law : List Str := ["_law_script", "_law_seal", "_law_books_here", "_law_keepers", "_law_k", "_law_text", "_law_followers", "_law_tooks", "_law_at", "_law_cell", "_law_one"]
theorem sc_law : FnScope ["_law_script", "_law_seal", "_law_books_here", "_law_keepers", "_law_k", "_law_text", "_law_followers", "_law_tooks", "_law_at", "_law_cell", "_law_one"] ["_law_script"] (defScope s_law) := ⟨rfl, rfl, rfl, by decide +kernel, rfl, by decide +kernel, by decide +kernel⟩

/-! ### a def of the module -/
structure DefX (K : PySem.W.Frag) (mg : Str → Option Value) (x : Str) (st : Stmt) (ps : List Str) : Prop where
  ex : ∃ (f : Addr) (fd : FuncData), L2.Fun K x x st f fd ∧ mg x = some (.ref f) ∧ ∀ us : List Value, us.length = ps.length → bindArgs fd ⟨us, []⟩ = pure (ps.zip us)
/-- a def that makes defs: its code object's address is told -/
structure DefM (K : PySem.W.Frag) (mg : Str → Option Value) (x : Str) (st : Stmt) (c : Addr) : Prop where
  ex : ∃ (f : Addr) (oc : Value) (od : Option Addr) (kV doc pm : Value) (an : Option Addr) (ct : Value) (osl : Array (Option Value)), K.lookup f = some ⟨oc, od, .func (PySem.W.fnOf x x (defArgs st) (defBody st) (defScope st) .none kV doc pm an (.ref c) ct), osl⟩ ∧
    PySem.W.codeIn K (.ref c) x = true ∧ PySem.W.keepIn K (.ref f) = true ∧ mg x = some (.ref f)
/-- an own class of errors over ValueError, without an __init__ of its own -/
structure ExcF (K : PySem.W.Frag) (C : Addr) : Prop where
  xP : PySem.W.excIn K C [.type "ValueError", .type "Exception", .type "BaseException", .type "object"] "ValueError.__new__" = true
  kP : PySem.W.keepIn K (.ref C) = true
  bP : PySem.W.subIn K (.ref C) (.type "BaseException") = some true
  tP : PySem.W.typeIn K (.ref C) = some (.type "type")
  cP : ExcC K C
  eP : PySem.W.exmOne K (.ref C) (.ref C) = some true
structure ExcX (K : PySem.W.Frag) (mg : Str → Option Value) (x : Str) : Prop where
  ex : ∃ C, mg x = some (.ref C) ∧ ExcF K C
/-- a def that may raise -/
structure CalX (P : Program) (w : World) (K : PySem.W.Frag) (mg : Str → Option Value) (base : Heap) (k : Nat) (x : Str) (sp : Sp) : Prop where
  ex : ∃ (f : Addr) (fd : FuncData) (ps : List Str), FnOk P w K mg base (L2.CX P w) k f fd ps sp ∧ mg x = some (.ref f) ∧ PySem.W.keepIn K (.ref f) = true ∧ Binds K fd ps []
theorem calX_of {P : Program} {w : World} {K : PySem.W.Frag} {mg : Str → Option Value} {base : Heap} {x : Str} {st : Stmt} {N ps : List Str} {k : Nat} {sp : Sp} (D : DefX K mg x st ps) (S : FnScope N ps (defScope st)) (len : ∀ vs H Q E, sp vs H Q E → vs.length = ps.length)
    (hbody : ∀ (f : Addr) (cdv : Value) (A : Around) (outer : List Env) (s : Shared) (H : Hp) (vs : List V) (Q : VK) (E : XK), Room k (A.deeper (envOfC x (defScope st) s.heap.objs.size f cdv)) → sp vs H Q E →
      ∃ t, PSs (cxOf (L2.CX P w) P w K mg base N x (defScope st) f cdv A outer s H E) (defBody st) t ∧ t { nx := fun _ H' => Q .non H', rt := Q } (start N vs) H) : CalX P w K mg base (k + 1) x sp := by
  obtain ⟨f, fd, F, m, b⟩ := D.ex
  exact ⟨f, fd, ps, F.okX S len (hbody f), m, F.kp, .all b⟩
theorem calX_mono {P : Program} {w : World} {K : PySem.W.Frag} {mg : Str → Option Value} {base : Heap} {x : Str} {j k : Nat} {sp : Sp} (c : CalX P w K mg base j x sp) (h : j ≤ k) : CalX P w K mg base k x sp := by
  obtain ⟨f, fd, ps, F, m, kp, b⟩ := c.ex
  exact ⟨f, fd, ps, F.mono h, m, kp, b⟩
/-- x(..) that may raise, within what takes W -/
theorem pe_cx {X : Cx} {k j : Nat} {x : Str} {sp : Sp} {W : WX} {t : TA} {e : Expr} {es : List Expr} {p pos : Pos} (c : CalX X.prog X.w X.K X.mg X.base k x sp) (tk : Takes X W) (hr : Room j X.A) (hk : k ≤ j) (hg : Gl X x) (ha : PA X (e :: es) t)
    (hdb : (x == ("__debug__" : Str)) = false := by decide) (he : starEach (e :: es) X.env = (false, eval e X.env) :: starEach es X.env := by rfl) (hpl : (backTo pos (starEach es X.env)).any (·.1) = false := by rfl) :
    PE X (.Call (.Name x p) (e :: es) [] pos) (tCallS sp (WE W) t) := by
  obtain ⟨f, fd, ps, F, m, kp, b⟩ := c.ex
  exact pe_callS F (hr.mono hk) hg m kp b (fun σ => passAt tk σ) ha hdb he hpl
theorem zc_of {cls : Value} {C : Addr} {d : Option Addr} {oe : Obj} (hz : Zc cls d oe) (h : cls = .ref C ∧ d = none) : Zc (.ref C) none oe := by
  rw [← h.1, ← h.2]
  exact hz
/-- known where the reading is at hand -/
theorem pss_when {X : Cx} {st : List Stmt} {t : TS} {P : Prop} (h : P → PSs X st t) : PSs X st (fun D σ H => P ∧ t D σ H) := ⟨fun pins s σ H D I ⟨p, q⟩ => (h p).run pins s σ H D I q⟩
theorem pe_when {X : Cx} {e : Expr} {t : TE} {P : Prop} (h : P → PE X e t) : PE X e (fun σ H Q => P ∧ t σ H Q) := ⟨fun pins s σ H Q I ⟨p, q⟩ => (h p).run pins s σ H Q I q⟩
/-- raise X('..') -/
theorem ps_raiseX {X : Cx} {W : WX} {x m : Str} {C : Addr} {j : Nat} {p p2 p3 pos : Pos} (F : ExcF X.K C) (gC : X.mg x = some (.ref C)) (hc : X.calm = true) (tk : Takes X W) (hg : Gl X x) (hdb : (x == ("__debug__" : Str)) = false := by decide) :
    PS X (.Raise (some (.Call (.Name x p) [.Constant (.str m) j p2] [] p3)) none pos) (fun _ σ H => W (.ref C) none σ H) :=
  ps_raise hc tk (pmk_own PySem.F.excBase_ValueError F.xP gC F.kP (raises_own F.bP F.tP) hg hdb)
theorem cal_of {P : Program} {w : World} {K : PySem.W.Frag} {mg : Str → Option Value} {base : Heap} {x : Str} {st : Stmt} {N ps : List Str} {k : Nat} {sp : Sp} (D : DefX K mg x st ps) (S : FnScope N ps (defScope st)) (len : ∀ vs H Q E, sp vs H Q E → vs.length = ps.length)
    (hbody : ∀ (f : Addr) (cdv : Value) (A : Around) (outer : List Env) (s : Shared) (H : Hp) (vs : List V) (Q : VK) (E : XK), Room k (A.deeper (envOfC x (defScope st) s.heap.objs.size f cdv)) → sp vs H Q E →
      ∃ t, PSs (cxOf L2.CX0 P w K mg base N x (defScope st) f cdv A outer s H E).nox (defBody st) t ∧ t { nx := fun _ H' => Q .non H', rt := Q } (start N vs) H) : Cal P w K mg base (k + 1) x sp [] := by
  obtain ⟨f, fd, F, m, b⟩ := D.ex
  exact ⟨f, fd, ps, [], F.ok S len (hbody f), m, F.kp, .all b, .nil⟩
/-- the law's own def, for the end -/
theorem law_fn {P : Program} {w : World} {K : PySem.W.Frag} {mg : Str → Option Value} {x p : Str} {st : Stmt} {N : List Str} {k : Nat} {sp : Sp} {fa : Addr} (D : DefX K mg x st [p]) (hfa : mg x = some (.ref fa)) (S : FnScope N [p] (defScope st)) (len : ∀ vs H Q E, sp vs H Q E → vs.length = 1)
    (hbody : ∀ (base : Heap) (f : Addr) (cdv : Value) (A : Around) (outer : List Env) (s : Shared) (H : Hp) (vs : List V) (Q : VK) (E : XK), Room k (A.deeper (envOfC x (defScope st) s.heap.objs.size f cdv)) → sp vs H Q E →
      ∃ t, PSs (cxOf L2.CX0 P w K mg base N x (defScope st) f cdv A outer s H E).nox (defBody st) t ∧ t { nx := fun _ H' => Q .non H', rt := Q } (start N vs) H) :
    ∃ fd : FuncData, (∀ (s : Shared) (v : Value), BindsTo s fd ⟨[v], []⟩ [(p, v)]) ∧ ∀ base : Heap, K.In base → base.Ns mainGlobals mg → FnOk P w K mg base L2.CX0 (k + 1) fa fd [p] sp := by
  obtain ⟨f, fd, F, m, b⟩ := D.ex
  have e := hfa.symm.trans m
  cases e
  exact ⟨fd, fun s v => .of_eq (b [v] rfl), fun base _ _ => F.ok S len (hbody base fa)⟩
theorem cut_to (xs : List V) (n : Nat) : cutV xs none (some (n : Int)) = xs.take n := by
  unfold cutV
  rw [HT.sIx_none, HT.sIx_nat, List.drop_zero, Nat.sub_zero]
  by_cases h : n ≤ xs.length
  · rw [Nat.min_eq_left h]
  · rw [Nat.min_eq_right (by omega), List.take_length, List.take_of_length_le (by omega)]
theorem cut_from (xs : List V) (n : Nat) : cutV xs (some (n : Int)) none = xs.drop n := by
  unfold cutV
  rw [HT.sIx_none, HT.sIx_nat]
  by_cases h : n ≤ xs.length
  · rw [Nat.min_eq_left h, List.take_of_length_le (by rw [List.length_drop]; omega)]
  · rw [Nat.min_eq_right (by omega), List.drop_length, List.drop_eq_nil_of_le (by omega), List.take_nil]
theorem cut_mid {xs : List V} {n m : Nat} (h : n ≤ m) (hm : m ≤ xs.length) : cutV xs (some (n : Int)) (some (m : Int)) = (xs.drop n).take (m - n) := by
  unfold cutV
  rw [HT.sIx_nat, HT.sIx_nat, Nat.min_eq_left hm, Nat.min_eq_left (show n ≤ xs.length by omega)]
theorem take63 {ns : List Int} (h : ns.length ≤ 63) : cutV (ns.map V.int) none (some 63) = ns.map V.int := by
  rw [show (63 : Int) = ((63 : Nat) : Int) from rfl, cut_to, List.take_of_length_le (by rw [List.length_map]; exact h)]
theorem small {n : Nat} (h : n ≤ 1000) : n ≤ sizeLine := Nat.le_of_lt (small1000 h)
theorem same_upd {H : Hp} {p : Addr} {o : HO} (h : H p = none) : Same H (upd H p o) := fun b x e => by
  rw [upd_ne (ne_of_none e h)]
  exact e

/-! ### classes -/
structure MetX (K : PySem.W.Frag) (C : Addr) (m qual : Str) (st : Stmt) (ps : List Str) : Prop where
  ex : ∃ (f : Addr) (fd : FuncData), L2.Fun K m qual st f fd ∧ Meth K C m f ∧ ∀ us : List Value, us.length = ps.length → bindArgs fd ⟨us, []⟩ = pure (ps.zip us)
structure MakX (K : PySem.W.Frag) (C : Addr) (qual : Str) (st : Stmt) (ps : List Str) : Prop where
  ex : ∃ (f : Addr) (fd : FuncData), L2.Fun K "__init__" qual st f fd ∧ Mk K C f ∧ ∀ us : List Value, us.length = ps.length → bindArgs fd ⟨us, []⟩ = pure (ps.zip us)
/-- an __init__ with defaults -/
structure MakD (K : PySem.W.Frag) (C : Addr) (qual : Str) (st : Stmt) (ps : List Str) (dvs : List V) : Prop where
  ex : ∃ (f : Addr) (fd : FuncData), L2.FunD K "__init__" qual (defArgs st) (defBody st) (defScope st) dvs [] f fd ∧ Mk K C f
theorem mak_ofD {P : Program} {w : World} {K : PySem.W.Frag} {mg : Str → Option Value} {base : Heap} {C : Addr} {x qual : Str} {st : Stmt} {N ps : List Str} {dvs : List V} {k : Nat} {sp : Sp} (n j : Nat) (hm : mg x = some (.ref C)) (D : MakD K C qual st ps dvs) (hd : dvs ≠ []) (hn : n + (dvs.length - j) = ps.length)
    (hb : ∀ (T : Addr) (kV doc pm : Value) (an : Option Addr) (cdv ct : Value) (us its : List Value), us.length = n → its.length = dvs.length →
      ∃ k, bindArgs (PySem.W.fnOf "__init__" qual (defArgs st) (defBody st) (defScope st) (.ref T) kV doc pm an cdv ct) ⟨us, []⟩ = seqItems? (.ref T) >>= k ∧ k (some its.toArray) = pure (ps.zip (us ++ its.drop j)))
    (S : FnScope N ps (defScope st)) (len : ∀ vs H Q E, sp vs H Q E → vs.length = ps.length)
    (hbody : ∀ (f : Addr) (cdv : Value) (A : Around) (outer : List Env) (s : Shared) (H : Hp) (vs : List V) (Q : VK) (E : XK), Room k (A.deeper (envOfC qual (defScope st) s.heap.objs.size f cdv)) → sp vs H Q E →
      ∃ t, PSs (cxOf L2.CX0 P w K mg base N qual (defScope st) f cdv A outer s H E).nox (defBody st) t ∧ t { nx := fun _ H' => Q .non H', rt := Q } (start N vs) H) : Mak P w K mg base (k + 1) x C sp (dvs.drop j) := by
  obtain ⟨f, fd, F, M⟩ := D.ex
  obtain ⟨ds, d, b⟩ := F.binds1 n j hd hn hb
  refine ⟨f, fd, ps, ds, M, F.ok S len fun cdv A outer s H vs Q E hr h => ?_, hm, b, d⟩
  obtain ⟨t, h1, h2⟩ := hbody f cdv A outer s H vs Q E hr h
  exact ⟨t, h1.nox, h2⟩
theorem met_of {P : Program} {w : World} {K : PySem.W.Frag} {mg : Str → Option Value} {base : Heap} {C : Addr} {m qual : Str} {st : Stmt} {N ps : List Str} {k : Nat} {sp : Sp} (c : Cls K C) (D : MetX K C m qual st ps) (S : FnScope N ps (defScope st)) (len : ∀ vs H Q E, sp vs H Q E → vs.length = ps.length)
    (hbody : ∀ (f : Addr) (cdv : Value) (A : Around) (outer : List Env) (s : Shared) (H : Hp) (vs : List V) (Q : VK) (E : XK), Room k (A.deeper (envOfC qual (defScope st) s.heap.objs.size f cdv)) → sp vs H Q E →
      ∃ t, PSs (cxOf L2.CX0 P w K mg base N qual (defScope st) f cdv A outer s H E).nox (defBody st) t ∧ t { nx := fun _ H' => Q .non H', rt := Q } (start N vs) H) : Met P w K mg base (k + 1) C m sp [] := by
  obtain ⟨f, fd, F, me, b⟩ := D.ex
  exact ⟨f, fd, ps, [], c, me, F.ok S len (hbody f), .all b, .nil⟩
theorem mak_of {P : Program} {w : World} {K : PySem.W.Frag} {mg : Str → Option Value} {base : Heap} {C : Addr} {x qual : Str} {st : Stmt} {N ps : List Str} {k : Nat} {sp : Sp} (hm : mg x = some (.ref C)) (D : MakX K C qual st ps) (S : FnScope N ps (defScope st)) (len : ∀ vs H Q E, sp vs H Q E → vs.length = ps.length)
    (hbody : ∀ (f : Addr) (cdv : Value) (A : Around) (outer : List Env) (s : Shared) (H : Hp) (vs : List V) (Q : VK) (E : XK), Room k (A.deeper (envOfC qual (defScope st) s.heap.objs.size f cdv)) → sp vs H Q E →
      ∃ t, PSs (cxOf L2.CX0 P w K mg base N qual (defScope st) f cdv A outer s H E).nox (defBody st) t ∧ t { nx := fun _ H' => Q .non H', rt := Q } (start N vs) H) : Mak P w K mg base (k + 1) x C sp [] := by
  obtain ⟨f, fd, F, M, b⟩ := D.ex
  exact ⟨f, fd, ps, [], M, F.ok S len (hbody f), hm, .all b, .nil⟩

/-! ### a method with defaults, as it stands -/
structure MetD (K : PySem.W.Frag) (C : Addr) (m qual : Str) (st : Stmt) (ps : List Str) (dvs : List V) : Prop where
  ex : ∃ (f : Addr) (fd : FuncData), L2.FunD K m qual (defArgs st) (defBody st) (defScope st) dvs [] f fd ∧ Meth K C m f

/-! ### heaps that grow -/
/-- all that was tracked is as it was, but dicts keyed by tuples may have got more -/
structure Ext (H H' : Hp) : Prop where
  keep : ∀ a o, H a = some o → (∀ kvs, o ≠ .dT kvs) → H' a = some o
  grow : ∀ a kvs, H a = some (.dT kvs) → ∃ more, H' a = some (.dT (kvs ++ more))
theorem Ext.of_same {H H' : Hp} (h : Same H H') : Ext H H' := ⟨fun a o e _ => h a o e, fun a kvs e => ⟨[], by rw [List.append_nil]; exact h a _ e⟩⟩
theorem Ext.refl (H : Hp) : Ext H H := .of_same (Same.refl H)
theorem Ext.trans {H H1 H2 : Hp} (a : Ext H H1) (b : Ext H1 H2) : Ext H H2 := by
  refine ⟨fun x o e n => b.keep x o (a.keep x o e n) n, fun x kvs e => ?_⟩
  obtain ⟨m1, e1⟩ := a.grow x kvs e
  obtain ⟨m2, e2⟩ := b.grow x _ e1
  exact ⟨m1 ++ m2, by rw [e2, List.append_assoc]⟩
theorem Ext.new {H : Hp} {p : Addr} {o : HO} (h : H p = none) : Ext H (upd H p o) := .of_same (same_upd h)
theorem Ext.mut {H H' : Hp} {p : Addr} {o : HO} (e : Ext H H') (h : H p = none) : Ext H (upd H' p o) := by
  refine ⟨fun a u ha n => ?_, fun a kvs ha => ?_⟩
  · rw [upd_ne (ne_of_none ha h)]
    exact e.keep a u ha n
  · rw [upd_ne (ne_of_none ha h)]
    exact e.grow a kvs ha
theorem Ext.free {H H' : Hp} {p : Addr} (e : Ext H H') (h : H' p = none) : H p = none := by
  cases q : H p with
  | none => rfl
  | some o =>
    by_cases n : ∃ kvs, o = .dT kvs
    · obtain ⟨kvs, rfl⟩ := n
      obtain ⟨m, e1⟩ := e.grow p kvs q
      rw [e1] at h
      cases h
    · rw [e.keep p o q fun kvs z => n ⟨kvs, z⟩] at h
      cases h
theorem Ext.lst {H H' : Hp} {a : Addr} {xs : List V} (e : Ext H H') (h : H a = some (.lst xs)) : H' a = some (.lst xs) := e.keep _ _ h fun _ z => nomatch z
theorem Ext.tup {H H' : Hp} {a : Addr} {xs : List V} (e : Ext H H') (h : H a = some (.tup xs)) : H' a = some (.tup xs) := e.keep _ _ h fun _ z => nomatch z
theorem Ext.ins {H H' : Hp} {a C dx : Addr} {fs : List (Str × V)} (e : Ext H H') (h : H a = some (.ins C dx fs)) : H' a = some (.ins C dx fs) := e.keep _ _ h fun _ z => nomatch z
theorem Ext.dK {H H' : Hp} {a : Addr} {kvs : List (Key × V)} (e : Ext H H') (h : H a = some (.dK kvs)) : H' a = some (.dK kvs) := e.keep _ _ h fun _ z => nomatch z
theorem Ext.frz {H H' : Hp} {a : Addr} {o : Obj} {u : HO} (e : Ext H H') (h : H a = some (.frz o u)) : H' a = some (.frz o u) := e.keep _ _ h fun _ z => nomatch z
theorem Ext.seq {K : PySem.W.Frag} {H H' : Hp} {a : Addr} {xs : List V} (e : Ext H H') (h : SqL K H a xs) : SqL K H' a xs := by
  rcases h with (h | ⟨o, h⟩) | h
  · exact .inl (.inl (e.lst h))
  · exact .inl (.inr ⟨o, e.frz h⟩)
  · exact .inr h
theorem Ext.seqT {K : PySem.W.Frag} {H H' : Hp} {a : Addr} {xs : List V} (e : Ext H H') (h : SqT K H a xs) : SqT K H' a xs := by
  rcases h with (h | ⟨o, h⟩) | h
  · exact .inl (.inl (e.tup h))
  · exact .inl (.inr ⟨o, e.frz h⟩)
  · exact .inr h
/-- what the telling of a thing leans on: it is never changed, but dicts keyed by tuples -/
def stat : HO → Prop
  | .lst _ | .dK _ | .ins _ _ _ | .set _ _ | .xd _ => False
  | _ => True
def Kp (H H' : Hp) : Prop := ∀ a o, H a = some o → stat o → H' a = some o
structure Gr (H H' : Hp) : Prop where
  keep : ∀ a o, H a = some o → stat o → (∀ kvs, o ≠ .dT kvs) → H' a = some o
  grow : ∀ a kvs, H a = some (.dT kvs) → ∃ more, H' a = some (.dT (kvs ++ more))
theorem Ext.gr {H H' : Hp} (e : Ext H H') : Gr H H' := ⟨fun a o h _ n => e.keep a o h n, e.grow⟩
theorem Kp.gr {H H' : Hp} (e : Kp H H') : Gr H H' := ⟨fun a o h s _ => e a o h s, fun a kvs h => ⟨[], by rw [List.append_nil]; exact e a _ h True.intro⟩⟩
theorem Kp.refl (H : Hp) : Kp H H := fun _ _ h _ => h
theorem Kp.trans {H H1 H2 : Hp} (a : Kp H H1) (b : Kp H1 H2) : Kp H H2 := fun c o h s => b c o (a c o h s) s
theorem Gr.refl (H : Hp) : Gr H H := (Kp.refl H).gr
theorem Gr.trans {H H1 H2 : Hp} (a : Gr H H1) (b : Gr H1 H2) : Gr H H2 := by
  refine ⟨fun x o e s n => b.keep x o (a.keep x o e s n) s n, fun x kvs e => ?_⟩
  obtain ⟨m1, e1⟩ := a.grow x kvs e
  obtain ⟨m2, e2⟩ := b.grow x _ e1
  exact ⟨m1 ++ m2, by rw [e2, List.append_assoc]⟩
theorem Kp.new {H : Hp} {p : Addr} {o : HO} (h : H p = none) : Kp H (upd H p o) := fun a u e _ => by
  rw [upd_ne (ne_of_none e h)]
  exact e
theorem Kp.lst {H : Hp} {p : Addr} {o : HO} {xs : List V} (h : H p = some (.lst xs)) : Kp H (upd H p o) := fun a u e s => by
  by_cases q : a = p
  · subst q
    rw [h] at e
    cases e
    exact s.elim
  · rw [upd_ne q]
    exact e
theorem Kp.ins {H : Hp} {p C dx : Addr} {o : HO} {fs : List (Str × V)} (h : H p = some (.ins C dx fs)) : Kp H (upd H p o) := fun a u e s => by
  by_cases q : a = p
  · subst q
    rw [h] at e
    cases e
    exact s.elim
  · rw [upd_ne q]
    exact e
theorem Kp.dK {H : Hp} {p : Addr} {o : HO} {kvs : List (Key × V)} (h : H p = some (.dK kvs)) : Kp H (upd H p o) := fun a u e s => by
  by_cases q : a = p
  · subst q
    rw [h] at e
    cases e
    exact s.elim
  · rw [upd_ne q]
    exact e
/-! ### free terms, and seals -/
inductive Tm where
  | int (i : Int)
  | str (x : Str)
  | sl (m : Str) (a b : Tm)
  deriving DecidableEq
def Tm.dep : Tm → Nat
  | .int _ | .str _ => 0
  | .sl _ a b => max a.dep b.dep + 1
abbrev txtOk (x : Str) : Bool := PySem.PyData.strOk x
/-- a seal: its function, what its values tell, its state (so many more things may be told) -/
structure Sys where
  f : Addr
  den : Hp → V → Tm → Prop
  ok : Hp → Nat → Prop
structure Sys.Good (K : PySem.W.Frag) (S : Sys) : Prop where
  mono : ∀ {H H' : Hp} {v : V} {t : Tm}, Gr H H' → S.den H v t → S.den H' v t
  keep : ∀ {H H' : Hp} {r : Nat}, Kp H H' → S.ok H r → S.ok H' r
  less : ∀ {H : Hp} {r r' : Nat}, S.ok H r → r' ≤ r → S.ok H r'
  int : ∀ {H : Hp} {r : Nat} (i : Int), S.ok H r → S.den H (.int i) (.int i)
  str : ∀ {H : Hp} {r : Nat} (x : Str), S.ok H r → txtOk x = true → S.den H (.str x) (.str x)
  same : ∀ {H : Hp} {v v' : V} {t : Tm}, S.den H v t → S.den H v' t → ∃ d, Dp K H v d ∧ Dp K H v' d ∧ d.canLay0 = true ∧ d.depth ≤ t.dep
def spSl (S : Sys) : Sp := fun vs H Q _ => ∃ (r : Nat) (m : Str) (a b : Tm) (va vb : V), vs = [.str m, va, vb] ∧ txtOk m = true ∧ S.ok H (r + 1) ∧ S.den H va a ∧ S.den H vb b ∧
  ∀ v H', Ext H H' → S.ok H' r → S.den H' v (.sl m a b) → Q v H'
structure HeldSl (P : Program) (w : World) (K : PySem.W.Frag) (mg : Str → Option Value) (base : Heap) (k : Nat) (S : Sys) : Prop where
  at_ : ∀ (H : Hp) (h : Heap) (r : Nat), K.In h → HOk P w H h → S.ok H r → PySem.W.FnAt S.f h
  run : ∀ (A : Around) (outer : List Env) (s : Shared) (H : Hp) (us : List Value) (vs : List V) (Q : VK) (E : XK), Room k A → Env0 P w K mg base A outer s H → Vals vs us → spSl S vs H Q E →
    codeAny (model P w) A (.call (.ref S.f) ⟨us, []⟩) (CR L2.CX0 outer P w H s Q E) s
/-- of a family of seals: each is good, and its calls keep the promise -/
structure SlA (P : Program) (w : World) (K : PySem.W.Frag) (mg : Str → Option Value) (base : Heap) (Fam : Sys → Prop) : Prop where
  good : ∀ {S : Sys}, Fam S → S.Good K
  held : ∀ S, Fam S → HeldSl P w K mg base 1 S
/-- x(..), x a name that holds a seal -/
def tSl (Fam : Sys → Prop) (i : Nat) (t : TA) : TE := fun σ H Q => ∃ (S : Sys) (r : Nat), Fam S ∧ σ[i]? = some (some (.ref S.f)) ∧ S.ok H r ∧ t σ H fun vs H1 => spSl S vs H1 Q L2.E0
section
variable {X : Cx} {i j k : Nat} {x : Str} {p pos : Pos} {e : Expr} {es : List Expr} {t : TA} {Fam : Sys → Prop}
theorem pe_sl (A : ∀ S, Fam S → HeldSl X.prog X.w X.K X.mg X.base k S) (hr : Room j X.A) (hk : k ≤ j) (hN : X.N[i]? = some x) (hv : Vis X.env.scope x) (ha : PA X (e :: es) t)
    (hdb : (x == ("__debug__" : Str)) = false := by decide) (hcd : (x == ("__classdict__" : Str)) = false := by decide)
    (he : starEach (e :: es) X.env = (false, eval e X.env) :: starEach es X.env := by rfl) (hpl : (backTo pos (starEach es X.env)).any (·.1) = false := by rfl) : PE X (.Call (.Name x p) (e :: es) [] pos) (tSl Fam i t) := by
  refine ⟨fun pins s σ H Q I h => ?_⟩
  obtain ⟨S, r, hS, hs, hok, ht⟩ := h
  refine wpAny_Call_Name_kw (thn ((pe_var (pos := p) hN hv hdb hcd).run pins s σ H (fun v H1 => v = .ref S.f ∧ H1 = H) I ⟨.ref S.f, hs, rfl, rfl⟩) fun u s1 ⟨v, H1, I1, r1, q1⟩ => ?_)
  obtain ⟨rfl, rfl⟩ := q1
  cases r1
  refine PySem.W.callWith_F ((A S hS).at_ _ _ _ I1.kIn I1.hok hok) (thn (ha.run pos pins s1 σ _ _ I1 ht) fun us s2 ⟨vs, H2, I2, rv, q⟩ => ?_) he hpl
  obtain ⟨r', m, a, b, va, vb, e1, e2, e3, q'⟩ := id q
  refine ⟨(A S hS).at_ _ _ _ I2.kIn I2.hok e3, ?_⟩
  refine wpAny_call (codeAny_mono ((A S hS).run X.A X.stack s2 H2 us vs Q L2.E0 (hr.mono hk) I2.env0 rv q) fun r s' hq => ?_)
  cases r with
  | error e => exact False.elim hq
  | ok fl =>
    cases fl with
    | ret u => exact I2.after hq
    | next => exact False.elim hq
    | brk => exact False.elim hq
    | cont => exact False.elim hq
end
/-! ### rows of told things -/
structure DenL (S : Sys) (H : Hp) (vs : List V) (ts : List Tm) : Prop where
  len : vs.length = ts.length
  at_ : ∀ (i : Nat) (v : V) (t : Tm), vs[i]? = some v → ts[i]? = some t → S.den H v t
section
variable {S : Sys} {K : PySem.W.Frag} {H H' : Hp} {vs us : List V} {ts rs : List Tm}
theorem DenL.mono (G : S.Good K) (e : Gr H H') (h : DenL S H vs ts) : DenL S H' vs ts := ⟨h.len, fun i v t a b => G.mono e (h.at_ i v t a b)⟩
theorem DenL.nil : DenL S H [] [] := ⟨rfl, fun i v t a _ => by simp at a⟩
theorem DenL.append (h : DenL S H vs ts) (h' : DenL S H us rs) : DenL S H (vs ++ us) (ts ++ rs) := by
  refine ⟨by rw [List.length_append, List.length_append, h.len, h'.len], fun i v t a b => ?_⟩
  have hl := h.len
  by_cases q : i < vs.length
  · rw [List.getElem?_append_left q] at a
    rw [List.getElem?_append_left (by omega)] at b
    exact h.at_ i v t a b
  · rw [List.getElem?_append_right (by omega)] at a b
    rw [← hl] at b
    exact h'.at_ _ v t a b
theorem DenL.one {v : V} {t : Tm} (h : S.den H v t) : DenL S H [v] [t] := by
  refine ⟨rfl, fun i u r a b => ?_⟩
  cases i with
  | zero =>
    cases a
    cases b
    exact h
  | succ i => simp at a
theorem DenL.cons {v : V} {t : Tm} (h : S.den H v t) (h' : DenL S H vs ts) : DenL S H (v :: vs) (t :: ts) := (DenL.one h).append h'
theorem DenL.take (n : Nat) (h : DenL S H vs ts) : DenL S H (vs.take n) (ts.take n) := by
  refine ⟨by rw [List.length_take, List.length_take, h.len], fun i v t a b => ?_⟩
  rw [List.getElem?_take] at a b
  split at a
  · rename_i q
    rw [if_pos q] at b
    exact h.at_ i v t a b
  · cases a
theorem DenL.drop (n : Nat) (h : DenL S H vs ts) : DenL S H (vs.drop n) (ts.drop n) := by
  refine ⟨by rw [List.length_drop, List.length_drop, h.len], fun i v t a b => ?_⟩
  rw [List.getElem?_drop] at a b
  exact h.at_ _ v t a b
theorem DenL.get (h : DenL S H vs ts) {i : Nat} (hi : i < ts.length) : ∃ v, vs[i]? = some v ∧ S.den H v ts[i] := by
  have hl := h.len
  have hv : i < vs.length := by omega
  exact ⟨vs[i], List.getElem?_eq_getElem hv, h.at_ i _ _ (List.getElem?_eq_getElem hv) (List.getElem?_eq_getElem hi)⟩
/-- the same row told twice -/
theorem DenL.same (G : S.Good K) {n : Nat} : ∀ {vs us : List V} {ts : List Tm}, DenL S H vs ts → DenL S H us ts → (∀ t ∈ ts, t.dep ≤ n) → ∃ ds, DpAll K H vs ds ∧ DpAll K H us ds ∧ PyData.canLayAll0 ds = true ∧ PyData.depthAll ds ≤ n
  | vs, us, [], h, h', _ => by
    have e1 : vs = [] := List.eq_nil_of_length_eq_zero h.len
    have e2 : us = [] := List.eq_nil_of_length_eq_zero h'.len
    subst e1
    subst e2
    exact ⟨[], .nil, .nil, rfl, Nat.zero_le _⟩
  | [], us, t :: ts, h, _, _ => absurd h.len (by simp)
  | v :: vs, [], t :: ts, _, h, _ => absurd h.len (by simp)
  | v :: vs, u :: us, t :: ts, h, h', hd => by
    obtain ⟨d, a1, a2, a3, a4⟩ := G.same (h.at_ 0 v t rfl rfl) (h'.at_ 0 u t rfl rfl)
    have t1 : DenL S H vs ts := h.drop 1
    have t2 : DenL S H us ts := h'.drop 1
    obtain ⟨ds, b1, b2, b3, b4⟩ := DenL.same G t1 t2 fun x hx => hd x (List.mem_cons_of_mem _ hx)
    refine ⟨d :: ds, .cons a1 b1, .cons a2 b2, ?_, ?_⟩
    · rw [PyData.canLayAll0, a3, b3]
      rfl
    · have := hd t List.mem_cons_self
      show max d.depth (PyData.depthAll ds) ≤ n
      omega
end

/-! ### an own error with an __init__ of its own, over an own class of errors without one -/
structure ExcI (K : PySem.W.Frag) (mg : Str → Option Value) (x bx fld qual : Str) (st : Stmt) (ps : List Str) (C B : Addr) : Prop where
  gC : mg x = some (.ref C)
  T : OexC K C
  xf : XfC K C
  no : PySem.W.findIn K (.ref C) fld = some none
  ini : ∃ (fI : Addr) (fd : FuncData), L2.Fun K "__init__" qual st fI fd ∧ PySem.W.findIn K (.ref C) "__init__" = some (some (.ref fI)) ∧ PySem.W.typeIn K (.ref fI) = some (.type "function") ∧ ∀ us : List Value, us.length = ps.length → bindArgs fd ⟨us, []⟩ = pure (ps.zip us)
  cP : ExcC K C
  eP : PySem.W.exmOne K (.ref C) (.ref C) = some true
  gB : mg bx = some (.ref B)
  b1 : PySem.W.specialIn K (.ref B) "__getattribute__" = some (some (.builtin "type.__getattribute__"))
  b2 : PySem.W.readsIn K B (.type "type") = true
  b3 : PySem.W.findCls K (.ref B) (.type "type") "__init__" = some (.val (.builtin "ValueError.__init__"))

structure Zs (mg : Str → Option Value) : Prop where
  len : mg "len" = none
  isinstance : mg "isinstance" = none
  int : mg "int" = none
  bool : mg "bool" = none
  list : mg "list" = none
  tuple : mg "tuple" = none
  range : mg "range" = none
  str : mg "str" = none
  sorted : mg "sorted" = none
  min : mg "min" = none
  enumerate : mg "enumerate" = none
  reversed : mg "reversed" = none
structure K_Table (K : PySem.W.Frag) (mg : Str → Option Value) (C : Addr) : Prop where
  mgC : mg "Table" = some (.ref C)
  cl : Cls K C
  n_seal : NoAttr K C "seal"
  n_depth : NoAttr K C "depth"
  n_held : NoAttr K C "held"
  ia_ : PySem.W.findIn K (.ref C) "__class__" = some (some (.builtin "object.__class__"))
  in_ : PySem.W.specialIn K (.builtin "object.__class__") "__get__" = some (some (.builtin "getset_descriptor.__get__"))
  it_ : PySem.W.takesIn K (.builtin "object.__class__") = some true
  im_ : PySem.W.mroIn K C (.type "object") = some true
  made : MakD K C "Table.__init__" s_Table___init__ ["self", "seal", "depth"] [.int 8]
  m_asked : MetX K C "asked" "Table.asked" s_Table_asked ["self", "key"]
  m_put : MetX K C "put" "Table.put" s_Table_put ["self", "key", "text"]
  m_cut : MetX K C "cut" "Table.cut" s_Table_cut ["self", "key"]
  m_value : MetX K C "value" "Table.value" s_Table_value ["self", "key"]
  m_rows : MetX K C "rows" "Table.rows" s_Table_rows ["self"]
  m_head : MetX K C "head" "Table.head" s_Table_head ["self"]
  m_way : MetX K C "way" "Table.way" s_Table_way ["self", "key"]
structure K_Keeper (K : PySem.W.Frag) (mg : Str → Option Value) (C : Addr) : Prop where
  mgC : mg "Keeper" = some (.ref C)
  cl : Cls K C
  n_seal : NoAttr K C "seal"
  n_depth : NoAttr K C "depth"
  n_texts : NoAttr K C "texts"
  n_tables : NoAttr K C "tables"
  n_leaves : NoAttr K C "leaves"
  ia_ : PySem.W.findIn K (.ref C) "__class__" = some (some (.builtin "object.__class__"))
  in_ : PySem.W.specialIn K (.builtin "object.__class__") "__get__" = some (some (.builtin "getset_descriptor.__get__"))
  it_ : PySem.W.takesIn K (.builtin "object.__class__") = some true
  im_ : PySem.W.mroIn K C (.type "object") = some true
  made : MakD K C "Keeper.__init__" s_Keeper___init__ ["self", "seal", "depth"] [.int 8]
  m_add : MetX K C "add" "Keeper.add" s_Keeper_add ["self", "text"]
  m_size : MetX K C "size" "Keeper.size" s_Keeper_size ["self"]
  m_first : MetX K C "first" "Keeper.first" s_Keeper_first ["self", "size"]
  m_within : MetX K C "within" "Keeper.within" s_Keeper_within ["self", "place", "size"]
  m_text : MetX K C "text" "Keeper.text" s_Keeper_text ["self", "place"]
  m_table_head : MetX K C "table_head" "Keeper.table_head" s_Keeper_table_head ["self", "place"]
  m_head : MetD K C "head" "Keeper.head" s_Keeper_head ["self", "size"] [.non]
  m_path : MetD K C "path" "Keeper.path" s_Keeper_path ["self", "place", "size"] [.non]
  m_growth : MetD K C "growth" "Keeper.growth" s_Keeper_growth ["self", "old", "size"] [.non]
  m_way : MetX K C "way" "Keeper.way" s_Keeper_way ["self", "place", "key"]
  m_paper : MetD K C "paper" "Keeper.paper" s_Keeper_paper ["self", "place", "key", "size"] [.non]
structure K_Stands (K : PySem.W.Frag) (mg : Str → Option Value) (C : Addr) : Prop where
  mgC : mg "Stands" = some (.ref C)
  cl : Cls K C
  n_place : NoAttr K C "place"
  n_words : NoAttr K C "words"
  n_table : NoAttr K C "table"
  ia_ : PySem.W.findIn K (.ref C) "__class__" = some (some (.builtin "object.__class__"))
  in_ : PySem.W.specialIn K (.builtin "object.__class__") "__get__" = some (some (.builtin "getset_descriptor.__get__"))
  it_ : PySem.W.takesIn K (.builtin "object.__class__") = some true
  im_ : PySem.W.mroIn K C (.type "object") = some true
  made : MakX K C "Stands.__init__" s_Stands___init__ ["self", "place", "text", "table"]
  m_shown : MetX K C "shown" "Stands.shown" s_Stands_shown ["self", "seal", "size", "head", "paper"]
  m_judged : MetX K C "judged" "Claim.judged" s_Claim_judged ["self", "seal", "size", "head", "paper"]
structure K_Grows (K : PySem.W.Frag) (mg : Str → Option Value) (C : Addr) : Prop where
  mgC : mg "Grows" = some (.ref C)
  cl : Cls K C
  n_old : NoAttr K C "old"
  n_before : NoAttr K C "before"
  ia_ : PySem.W.findIn K (.ref C) "__class__" = some (some (.builtin "object.__class__"))
  in_ : PySem.W.specialIn K (.builtin "object.__class__") "__get__" = some (some (.builtin "getset_descriptor.__get__"))
  it_ : PySem.W.takesIn K (.builtin "object.__class__") = some true
  im_ : PySem.W.mroIn K C (.type "object") = some true
  made : MakX K C "Grows.__init__" s_Grows___init__ ["self", "old", "head"]
  m_shown : MetX K C "shown" "Grows.shown" s_Grows_shown ["self", "seal", "size", "head", "paper"]
  m_judged : MetX K C "judged" "Claim.judged" s_Claim_judged ["self", "seal", "size", "head", "paper"]
structure K_Follower (K : PySem.W.Frag) (mg : Str → Option Value) (C : Addr) : Prop where
  mgC : mg "Follower" = some (.ref C)
  cl : Cls K C
  n_seal : NoAttr K C "seal"
  n_count : NoAttr K C "count"
  n_newest : NoAttr K C "newest"
  ia_ : PySem.W.findIn K (.ref C) "__class__" = some (some (.builtin "object.__class__"))
  in_ : PySem.W.specialIn K (.builtin "object.__class__") "__get__" = some (some (.builtin "getset_descriptor.__get__"))
  it_ : PySem.W.takesIn K (.builtin "object.__class__") = some true
  im_ : PySem.W.mroIn K C (.type "object") = some true
  made : MakX K C "Follower.__init__" s_Follower___init__ ["self", "seal"]
  m_size : MetX K C "size" "Follower.size" s_Follower_size ["self"]
  m_head : MetX K C "head" "Follower.head" s_Follower_head ["self"]
  m_take : MetX K C "take" "Follower.take" s_Follower_take ["self", "size", "head", "paper"]
  m_judge : MetX K C "judge" "Follower.judge" s_Follower_judge ["self", "claim", "paper"]
structure Txt (K : PySem.W.Frag) (mg : Str → Option Value) (cc : Addr) : Prop where
  d__wall : DefX K mg "_wall" s__wall ["k"]
  d_split : DefX K mg "split" s_split ["size"]
  d_none_seal : DefX K mg "none_seal" s_none_seal ["seal"]
  d_leaf_seal : DefX K mg "leaf_seal" s_leaf_seal ["seal", "text", "table"]
  d_pair_seal : DefX K mg "pair_seal" s_pair_seal ["seal", "left", "right"]
  d_book_seal : DefX K mg "book_seal" s_book_seal ["seal", "size", "top"]
  d_top_of : DefX K mg "top_of" s_top_of ["seal", "leaves"]
  d_path_of : DefX K mg "path_of" s_path_of ["seal", "leaves", "place"]
  d_growth_of : DefX K mg "growth_of" s_growth_of ["seal", "leaves", "old"]
  d_last_of : DefX K mg "last_of" s_last_of ["paper"]
  d_risen : DefX K mg "risen" s_risen ["seal", "leaf", "place", "size", "path"]
  d_regrown : DefX K mg "regrown" s_regrown ["seal", "old", "size", "paper"]
  d_parted : DefX K mg "parted" s_parted ["rows", "level"]
  d_part_top : DefX K mg "part_top" s_part_top ["seal", "rows", "level"]
  d_table_seal : DefX K mg "table_seal" s_table_seal ["seal", "depth", "top"]
  d_key_of : DefX K mg "key_of" s_key_of ["figures", "depth"]
  d_read_row : DefX K mg "read_row" s_read_row ["row", "depth"]
  d_placed : DefX K mg "placed" s_placed ["row", "place", "depth"]
  d_changed : DefX K mg "changed" s_changed ["table", "text", "depth"]
  d__law_cell_at : DefX K mg "_law_cell_at" s__law_cell_at ["_law_script", "_law_k"]
  d__law_plain : DefX K mg "_law_plain" s__law_plain ["_law_mark", "_law_one", "_law_two"]
  d__law_turned : DefX K mg "_law_turned" s__law_turned ["_law_mark", "_law_one", "_law_two"]
  m__law_numbering : DefM K mg "_law_numbering" s__law_numbering cc
  d__law_seal_by : DefX K mg "_law_seal_by" s__law_seal_by ["_law_script"]
  d__law_draw : DefX K mg "_law_draw" s__law_draw ["_law_cell", "_law_k", "_law_many"]
  d__law_word : DefX K mg "_law_word" s__law_word ["_law_cell"]
  d__law_split : DefX K mg "_law_split" s__law_split ["_law_size"]
  d__law_top : DefX K mg "_law_top" s__law_top ["_law_seal", "_law_leaves_here"]
  d__law_path : DefX K mg "_law_path" s__law_path ["_law_seal", "_law_leaves_here", "_law_place"]
  d__law_growth : DefX K mg "_law_growth" s__law_growth ["_law_seal", "_law_leaves_here", "_law_old"]
  d__law_books : DefX K mg "_law_books" s__law_books ["_law_script"]
  d__law_leaves : DefX K mg "_law_leaves" s__law_leaves ["_law_seal", "_law_texts"]
  d__law_head : DefX K mg "_law_head" s__law_head ["_law_seal", "_law_texts"]
  d__law_bent : DefX K mg "_law_bent" s__law_bent ["_law_seal", "_law_paper", "_law_cell"]
  d__law_offered : DefX K mg "_law_offered" s__law_offered ["_law_seal", "_law_follower", "_law_took", "_law_books_here", "_law_keepers", "_law_cell"]
  d__law_judged : DefX K mg "_law_judged" s__law_judged ["_law_seal", "_law_follower", "_law_took", "_law_books_here", "_law_keepers", "_law_cell"]
  d__law_kept : DefX K mg "_law_kept" s__law_kept ["_law_seal", "_law_follower", "_law_took"]
  d_law : DefX K mg "law" s_law ["_law_script"]
  g_BookError : ∃ C, mg "BookError" = some (.ref C)
  g_Claim : ∃ C, mg "Claim" = some (.ref C)
  x_BadPaper : ExcX K mg "BadPaper"
  x_NoPlace : ExcX K mg "NoPlace"
  y_BadRow : ∃ C B, ExcI K mg "BadRow" "BookError" "row" "BadRow.__init__" s_BadRow___init__ ["self", "row"] C B
  k_Table : ∃ C, K_Table K mg C
  k_Keeper : ∃ C, K_Keeper K mg C
  k_Stands : ∃ C, K_Stands K mg C
  k_Grows : ∃ C, K_Grows K mg C
  k_Follower : ∃ C, K_Follower K mg C
  Z : Zs mg
theorem txt_mk {K : PySem.W.Frag} {h : Heap} {mg : Str → Option Value} (X : K.In h) (G : h.Ns mainGlobals mg) {cc f0 f1 f2 f3 f4 f5 f6 f7 f8 f9 f10 f11 f12 f13 f14 f15 f16 f17 f18 f19 f20 f21 f22 f23 f24 f25 f26 f27 f28 f29 f30 f31 f32 f33 f34 f35 f36 f37 C_BookError C_Claim C_BadPaper C_NoPlace C_BadRow C_Table C_Keeper C_Stands C_Grows C_Follower fTable0 dTTable0 fTable1 fTable2 fTable3 fTable4 fTable5 fTable6 fTable7 fKeeper0 dTKeeper0 fKeeper1 fKeeper2 fKeeper3 fKeeper4 fKeeper5 fKeeper6 fKeeper7 dTKeeper7 fKeeper8 dTKeeper8 fKeeper9 dTKeeper9 fKeeper10 fKeeper11 dTKeeper11 fStands0 fStands1 fStands2 fGrows0 fGrows1 fGrows2 fFollower0 fFollower1 fFollower2 fFollower3 fFollower4 : Addr} {od0 an0 od1 an1 od2 an2 od3 an3 od4 an4 od5 an5 od6 an6 od7 an7 od8 an8 od9 an9 od10 an10 od11 an11 od12 an12 od13 an13 od14 an14 od15 an15 od16 an16 od17 an17 od18 an18 od19 an19 od20 an20 od21 an21 od22 an22 od23 an23 od24 an24 od25 an25 od26 an26 od27 an27 od28 an28 od29 an29 od30 an30 od31 an31 od32 an32 od33 an33 od34 an34 od35 an35 od36 an36 od37 an37 odTable0 anTable0 pTTable0 odTable1 anTable1 odTable2 anTable2 odTable3 anTable3 odTable4 anTable4 odTable5 anTable5 odTable6 anTable6 odTable7 anTable7 odKeeper0 anKeeper0 pTKeeper0 odKeeper1 anKeeper1 odKeeper2 anKeeper2 odKeeper3 anKeeper3 odKeeper4 anKeeper4 odKeeper5 anKeeper5 odKeeper6 anKeeper6 odKeeper7 anKeeper7 pTKeeper7 odKeeper8 anKeeper8 pTKeeper8 odKeeper9 anKeeper9 pTKeeper9 odKeeper10 anKeeper10 odKeeper11 anKeeper11 pTKeeper11 odStands0 anStands0 odStands1 anStands1 odStands2 anStands2 odGrows0 anGrows0 odGrows1 anGrows1 odGrows2 anGrows2 odFollower0 anFollower0 odFollower1 anFollower1 odFollower2 anFollower2 odFollower3 anFollower3 odFollower4 anFollower4 : Option Addr} {sl0 sl1 sl2 sl3 sl4 sl5 sl6 sl7 sl8 sl9 sl10 sl11 sl12 sl13 sl14 sl15 sl16 sl17 sl18 sl19 sl20 sl21 sl22 sl23 sl24 sl25 sl26 sl27 sl28 sl29 sl30 sl31 sl32 sl33 sl34 sl35 sl36 sl37 slTable0 sTTable0 slTable1 slTable2 slTable3 slTable4 slTable5 slTable6 slTable7 slKeeper0 sTKeeper0 slKeeper1 slKeeper2 slKeeper3 slKeeper4 slKeeper5 slKeeper6 slKeeper7 sTKeeper7 slKeeper8 sTKeeper8 slKeeper9 sTKeeper9 slKeeper10 slKeeper11 sTKeeper11 slStands0 slStands1 slStands2 slGrows0 slGrows1 slGrows2 slFollower0 slFollower1 slFollower2 slFollower3 slFollower4 : Array (Option Value)} {oc0 kV0 dc0 pm0 cd0 ct0 oc1 kV1 dc1 pm1 cd1 ct1 oc2 kV2 dc2 pm2 cd2 ct2 oc3 kV3 dc3 pm3 cd3 ct3 oc4 kV4 dc4 pm4 cd4 ct4 oc5 kV5 dc5 pm5 cd5 ct5 oc6 kV6 dc6 pm6 cd6 ct6 oc7 kV7 dc7 pm7 cd7 ct7 oc8 kV8 dc8 pm8 cd8 ct8 oc9 kV9 dc9 pm9 cd9 ct9 oc10 kV10 dc10 pm10 cd10 ct10 oc11 kV11 dc11 pm11 cd11 ct11 oc12 kV12 dc12 pm12 cd12 ct12 oc13 kV13 dc13 pm13 cd13 ct13 oc14 kV14 dc14 pm14 cd14 ct14 oc15 kV15 dc15 pm15 cd15 ct15 oc16 kV16 dc16 pm16 cd16 ct16 oc17 kV17 dc17 pm17 cd17 ct17 oc18 kV18 dc18 pm18 cd18 ct18 oc19 kV19 dc19 pm19 cd19 ct19 oc20 kV20 dc20 pm20 cd20 ct20 oc21 kV21 dc21 pm21 cd21 ct21 oc22 kV22 dc22 pm22 ct22 oc23 kV23 dc23 pm23 cd23 ct23 oc24 kV24 dc24 pm24 cd24 ct24 oc25 kV25 dc25 pm25 cd25 ct25 oc26 kV26 dc26 pm26 cd26 ct26 oc27 kV27 dc27 pm27 cd27 ct27 oc28 kV28 dc28 pm28 cd28 ct28 oc29 kV29 dc29 pm29 cd29 ct29 oc30 kV30 dc30 pm30 cd30 ct30 oc31 kV31 dc31 pm31 cd31 ct31 oc32 kV32 dc32 pm32 cd32 ct32 oc33 kV33 dc33 pm33 cd33 ct33 oc34 kV34 dc34 pm34 cd34 ct34 oc35 kV35 dc35 pm35 cd35 ct35 oc36 kV36 dc36 pm36 cd36 ct36 oc37 kV37 dc37 pm37 cd37 ct37 ocTable0 kVTable0 dcTable0 pmTable0 cdTable0 ctTable0 oTTable0 ocTable1 kVTable1 dcTable1 pmTable1 cdTable1 ctTable1 ocTable2 kVTable2 dcTable2 pmTable2 cdTable2 ctTable2 ocTable3 kVTable3 dcTable3 pmTable3 cdTable3 ctTable3 ocTable4 kVTable4 dcTable4 pmTable4 cdTable4 ctTable4 ocTable5 kVTable5 dcTable5 pmTable5 cdTable5 ctTable5 ocTable6 kVTable6 dcTable6 pmTable6 cdTable6 ctTable6 ocTable7 kVTable7 dcTable7 pmTable7 cdTable7 ctTable7 ocKeeper0 kVKeeper0 dcKeeper0 pmKeeper0 cdKeeper0 ctKeeper0 oTKeeper0 ocKeeper1 kVKeeper1 dcKeeper1 pmKeeper1 cdKeeper1 ctKeeper1 ocKeeper2 kVKeeper2 dcKeeper2 pmKeeper2 cdKeeper2 ctKeeper2 ocKeeper3 kVKeeper3 dcKeeper3 pmKeeper3 cdKeeper3 ctKeeper3 ocKeeper4 kVKeeper4 dcKeeper4 pmKeeper4 cdKeeper4 ctKeeper4 ocKeeper5 kVKeeper5 dcKeeper5 pmKeeper5 cdKeeper5 ctKeeper5 ocKeeper6 kVKeeper6 dcKeeper6 pmKeeper6 cdKeeper6 ctKeeper6 ocKeeper7 kVKeeper7 dcKeeper7 pmKeeper7 cdKeeper7 ctKeeper7 oTKeeper7 ocKeeper8 kVKeeper8 dcKeeper8 pmKeeper8 cdKeeper8 ctKeeper8 oTKeeper8 ocKeeper9 kVKeeper9 dcKeeper9 pmKeeper9 cdKeeper9 ctKeeper9 oTKeeper9 ocKeeper10 kVKeeper10 dcKeeper10 pmKeeper10 cdKeeper10 ctKeeper10 ocKeeper11 kVKeeper11 dcKeeper11 pmKeeper11 cdKeeper11 ctKeeper11 oTKeeper11 ocStands0 kVStands0 dcStands0 pmStands0 cdStands0 ctStands0 ocStands1 kVStands1 dcStands1 pmStands1 cdStands1 ctStands1 ocStands2 kVStands2 dcStands2 pmStands2 cdStands2 ctStands2 ocGrows0 kVGrows0 dcGrows0 pmGrows0 cdGrows0 ctGrows0 ocGrows1 kVGrows1 dcGrows1 pmGrows1 cdGrows1 ctGrows1 ocGrows2 kVGrows2 dcGrows2 pmGrows2 cdGrows2 ctGrows2 ocFollower0 kVFollower0 dcFollower0 pmFollower0 cdFollower0 ctFollower0 ocFollower1 kVFollower1 dcFollower1 pmFollower1 cdFollower1 ctFollower1 ocFollower2 kVFollower2 dcFollower2 pmFollower2 cdFollower2 ctFollower2 ocFollower3 kVFollower3 dcFollower3 pmFollower3 cdFollower3 ctFollower3 ocFollower4 kVFollower4 dcFollower4 pmFollower4 cdFollower4 ctFollower4 : Value} {fI_BadRow N_BadRow : Addr} {nm_BadRow qn_BadRow : Str} {bs_BadRow sub_BadRow : List Value} {sn_BadRow : List Str} {ab_BadRow : Bool} {col_BadRow : Option Bool} {dd_BadRow od_BadRow an_BadRow : Option Addr} {m0_BadRow m1_BadRow m2_BadRow m3_BadRow m5_BadRow : Option Value} {oc_BadRow kV_BadRow dc_BadRow pm_BadRow cd_BadRow ct_BadRow : Value} {sl_BadRow : Array (Option Value)} {nTTable0 nTKeeper0 nTKeeper7 nTKeeper8 nTKeeper9 nTKeeper11 : Nat} {uTTable0_0 uTKeeper0_0 : Tok}
    (a0 : PySem.W.nsIn K mainGlobals "_wall" = some (some (.ref f0))) (l0 : K.lookup f0 = some ⟨oc0, od0, .func (PySem.W.fnOf "_wall" "_wall" (defArgs s__wall) (defBody s__wall) (defScope s__wall) .none kV0 dc0 pm0 an0 cd0 ct0), sl0⟩) (c0 : PySem.W.codeIn K cd0 "_wall" = true) (k0 : PySem.W.keepIn K (.ref f0) = true)
    (a1 : PySem.W.nsIn K mainGlobals "split" = some (some (.ref f1))) (l1 : K.lookup f1 = some ⟨oc1, od1, .func (PySem.W.fnOf "split" "split" (defArgs s_split) (defBody s_split) (defScope s_split) .none kV1 dc1 pm1 an1 cd1 ct1), sl1⟩) (c1 : PySem.W.codeIn K cd1 "split" = true) (k1 : PySem.W.keepIn K (.ref f1) = true)
    (a2 : PySem.W.nsIn K mainGlobals "none_seal" = some (some (.ref f2))) (l2 : K.lookup f2 = some ⟨oc2, od2, .func (PySem.W.fnOf "none_seal" "none_seal" (defArgs s_none_seal) (defBody s_none_seal) (defScope s_none_seal) .none kV2 dc2 pm2 an2 cd2 ct2), sl2⟩) (c2 : PySem.W.codeIn K cd2 "none_seal" = true) (k2 : PySem.W.keepIn K (.ref f2) = true)
    (a3 : PySem.W.nsIn K mainGlobals "leaf_seal" = some (some (.ref f3))) (l3 : K.lookup f3 = some ⟨oc3, od3, .func (PySem.W.fnOf "leaf_seal" "leaf_seal" (defArgs s_leaf_seal) (defBody s_leaf_seal) (defScope s_leaf_seal) .none kV3 dc3 pm3 an3 cd3 ct3), sl3⟩) (c3 : PySem.W.codeIn K cd3 "leaf_seal" = true) (k3 : PySem.W.keepIn K (.ref f3) = true)
    (a4 : PySem.W.nsIn K mainGlobals "pair_seal" = some (some (.ref f4))) (l4 : K.lookup f4 = some ⟨oc4, od4, .func (PySem.W.fnOf "pair_seal" "pair_seal" (defArgs s_pair_seal) (defBody s_pair_seal) (defScope s_pair_seal) .none kV4 dc4 pm4 an4 cd4 ct4), sl4⟩) (c4 : PySem.W.codeIn K cd4 "pair_seal" = true) (k4 : PySem.W.keepIn K (.ref f4) = true)
    (a5 : PySem.W.nsIn K mainGlobals "book_seal" = some (some (.ref f5))) (l5 : K.lookup f5 = some ⟨oc5, od5, .func (PySem.W.fnOf "book_seal" "book_seal" (defArgs s_book_seal) (defBody s_book_seal) (defScope s_book_seal) .none kV5 dc5 pm5 an5 cd5 ct5), sl5⟩) (c5 : PySem.W.codeIn K cd5 "book_seal" = true) (k5 : PySem.W.keepIn K (.ref f5) = true)
    (a6 : PySem.W.nsIn K mainGlobals "top_of" = some (some (.ref f6))) (l6 : K.lookup f6 = some ⟨oc6, od6, .func (PySem.W.fnOf "top_of" "top_of" (defArgs s_top_of) (defBody s_top_of) (defScope s_top_of) .none kV6 dc6 pm6 an6 cd6 ct6), sl6⟩) (c6 : PySem.W.codeIn K cd6 "top_of" = true) (k6 : PySem.W.keepIn K (.ref f6) = true)
    (a7 : PySem.W.nsIn K mainGlobals "path_of" = some (some (.ref f7))) (l7 : K.lookup f7 = some ⟨oc7, od7, .func (PySem.W.fnOf "path_of" "path_of" (defArgs s_path_of) (defBody s_path_of) (defScope s_path_of) .none kV7 dc7 pm7 an7 cd7 ct7), sl7⟩) (c7 : PySem.W.codeIn K cd7 "path_of" = true) (k7 : PySem.W.keepIn K (.ref f7) = true)
    (a8 : PySem.W.nsIn K mainGlobals "growth_of" = some (some (.ref f8))) (l8 : K.lookup f8 = some ⟨oc8, od8, .func (PySem.W.fnOf "growth_of" "growth_of" (defArgs s_growth_of) (defBody s_growth_of) (defScope s_growth_of) .none kV8 dc8 pm8 an8 cd8 ct8), sl8⟩) (c8 : PySem.W.codeIn K cd8 "growth_of" = true) (k8 : PySem.W.keepIn K (.ref f8) = true)
    (a9 : PySem.W.nsIn K mainGlobals "last_of" = some (some (.ref f9))) (l9 : K.lookup f9 = some ⟨oc9, od9, .func (PySem.W.fnOf "last_of" "last_of" (defArgs s_last_of) (defBody s_last_of) (defScope s_last_of) .none kV9 dc9 pm9 an9 cd9 ct9), sl9⟩) (c9 : PySem.W.codeIn K cd9 "last_of" = true) (k9 : PySem.W.keepIn K (.ref f9) = true)
    (a10 : PySem.W.nsIn K mainGlobals "risen" = some (some (.ref f10))) (l10 : K.lookup f10 = some ⟨oc10, od10, .func (PySem.W.fnOf "risen" "risen" (defArgs s_risen) (defBody s_risen) (defScope s_risen) .none kV10 dc10 pm10 an10 cd10 ct10), sl10⟩) (c10 : PySem.W.codeIn K cd10 "risen" = true) (k10 : PySem.W.keepIn K (.ref f10) = true)
    (a11 : PySem.W.nsIn K mainGlobals "regrown" = some (some (.ref f11))) (l11 : K.lookup f11 = some ⟨oc11, od11, .func (PySem.W.fnOf "regrown" "regrown" (defArgs s_regrown) (defBody s_regrown) (defScope s_regrown) .none kV11 dc11 pm11 an11 cd11 ct11), sl11⟩) (c11 : PySem.W.codeIn K cd11 "regrown" = true) (k11 : PySem.W.keepIn K (.ref f11) = true)
    (a12 : PySem.W.nsIn K mainGlobals "parted" = some (some (.ref f12))) (l12 : K.lookup f12 = some ⟨oc12, od12, .func (PySem.W.fnOf "parted" "parted" (defArgs s_parted) (defBody s_parted) (defScope s_parted) .none kV12 dc12 pm12 an12 cd12 ct12), sl12⟩) (c12 : PySem.W.codeIn K cd12 "parted" = true) (k12 : PySem.W.keepIn K (.ref f12) = true)
    (a13 : PySem.W.nsIn K mainGlobals "part_top" = some (some (.ref f13))) (l13 : K.lookup f13 = some ⟨oc13, od13, .func (PySem.W.fnOf "part_top" "part_top" (defArgs s_part_top) (defBody s_part_top) (defScope s_part_top) .none kV13 dc13 pm13 an13 cd13 ct13), sl13⟩) (c13 : PySem.W.codeIn K cd13 "part_top" = true) (k13 : PySem.W.keepIn K (.ref f13) = true)
    (a14 : PySem.W.nsIn K mainGlobals "table_seal" = some (some (.ref f14))) (l14 : K.lookup f14 = some ⟨oc14, od14, .func (PySem.W.fnOf "table_seal" "table_seal" (defArgs s_table_seal) (defBody s_table_seal) (defScope s_table_seal) .none kV14 dc14 pm14 an14 cd14 ct14), sl14⟩) (c14 : PySem.W.codeIn K cd14 "table_seal" = true) (k14 : PySem.W.keepIn K (.ref f14) = true)
    (a15 : PySem.W.nsIn K mainGlobals "key_of" = some (some (.ref f15))) (l15 : K.lookup f15 = some ⟨oc15, od15, .func (PySem.W.fnOf "key_of" "key_of" (defArgs s_key_of) (defBody s_key_of) (defScope s_key_of) .none kV15 dc15 pm15 an15 cd15 ct15), sl15⟩) (c15 : PySem.W.codeIn K cd15 "key_of" = true) (k15 : PySem.W.keepIn K (.ref f15) = true)
    (a16 : PySem.W.nsIn K mainGlobals "read_row" = some (some (.ref f16))) (l16 : K.lookup f16 = some ⟨oc16, od16, .func (PySem.W.fnOf "read_row" "read_row" (defArgs s_read_row) (defBody s_read_row) (defScope s_read_row) .none kV16 dc16 pm16 an16 cd16 ct16), sl16⟩) (c16 : PySem.W.codeIn K cd16 "read_row" = true) (k16 : PySem.W.keepIn K (.ref f16) = true)
    (a17 : PySem.W.nsIn K mainGlobals "placed" = some (some (.ref f17))) (l17 : K.lookup f17 = some ⟨oc17, od17, .func (PySem.W.fnOf "placed" "placed" (defArgs s_placed) (defBody s_placed) (defScope s_placed) .none kV17 dc17 pm17 an17 cd17 ct17), sl17⟩) (c17 : PySem.W.codeIn K cd17 "placed" = true) (k17 : PySem.W.keepIn K (.ref f17) = true)
    (a18 : PySem.W.nsIn K mainGlobals "changed" = some (some (.ref f18))) (l18 : K.lookup f18 = some ⟨oc18, od18, .func (PySem.W.fnOf "changed" "changed" (defArgs s_changed) (defBody s_changed) (defScope s_changed) .none kV18 dc18 pm18 an18 cd18 ct18), sl18⟩) (c18 : PySem.W.codeIn K cd18 "changed" = true) (k18 : PySem.W.keepIn K (.ref f18) = true)
    (a19 : PySem.W.nsIn K mainGlobals "_law_cell_at" = some (some (.ref f19))) (l19 : K.lookup f19 = some ⟨oc19, od19, .func (PySem.W.fnOf "_law_cell_at" "_law_cell_at" (defArgs s__law_cell_at) (defBody s__law_cell_at) (defScope s__law_cell_at) .none kV19 dc19 pm19 an19 cd19 ct19), sl19⟩) (c19 : PySem.W.codeIn K cd19 "_law_cell_at" = true) (k19 : PySem.W.keepIn K (.ref f19) = true)
    (a20 : PySem.W.nsIn K mainGlobals "_law_plain" = some (some (.ref f20))) (l20 : K.lookup f20 = some ⟨oc20, od20, .func (PySem.W.fnOf "_law_plain" "_law_plain" (defArgs s__law_plain) (defBody s__law_plain) (defScope s__law_plain) .none kV20 dc20 pm20 an20 cd20 ct20), sl20⟩) (c20 : PySem.W.codeIn K cd20 "_law_plain" = true) (k20 : PySem.W.keepIn K (.ref f20) = true)
    (a21 : PySem.W.nsIn K mainGlobals "_law_turned" = some (some (.ref f21))) (l21 : K.lookup f21 = some ⟨oc21, od21, .func (PySem.W.fnOf "_law_turned" "_law_turned" (defArgs s__law_turned) (defBody s__law_turned) (defScope s__law_turned) .none kV21 dc21 pm21 an21 cd21 ct21), sl21⟩) (c21 : PySem.W.codeIn K cd21 "_law_turned" = true) (k21 : PySem.W.keepIn K (.ref f21) = true)
    (a22 : PySem.W.nsIn K mainGlobals "_law_numbering" = some (some (.ref f22))) (l22 : K.lookup f22 = some ⟨oc22, od22, .func (PySem.W.fnOf "_law_numbering" "_law_numbering" (defArgs s__law_numbering) (defBody s__law_numbering) (defScope s__law_numbering) .none kV22 dc22 pm22 an22 (.ref cc) ct22), sl22⟩) (c22 : PySem.W.codeIn K (.ref cc) "_law_numbering" = true) (k22 : PySem.W.keepIn K (.ref f22) = true)
    (a23 : PySem.W.nsIn K mainGlobals "_law_seal_by" = some (some (.ref f23))) (l23 : K.lookup f23 = some ⟨oc23, od23, .func (PySem.W.fnOf "_law_seal_by" "_law_seal_by" (defArgs s__law_seal_by) (defBody s__law_seal_by) (defScope s__law_seal_by) .none kV23 dc23 pm23 an23 cd23 ct23), sl23⟩) (c23 : PySem.W.codeIn K cd23 "_law_seal_by" = true) (k23 : PySem.W.keepIn K (.ref f23) = true)
    (a24 : PySem.W.nsIn K mainGlobals "_law_draw" = some (some (.ref f24))) (l24 : K.lookup f24 = some ⟨oc24, od24, .func (PySem.W.fnOf "_law_draw" "_law_draw" (defArgs s__law_draw) (defBody s__law_draw) (defScope s__law_draw) .none kV24 dc24 pm24 an24 cd24 ct24), sl24⟩) (c24 : PySem.W.codeIn K cd24 "_law_draw" = true) (k24 : PySem.W.keepIn K (.ref f24) = true)
    (a25 : PySem.W.nsIn K mainGlobals "_law_word" = some (some (.ref f25))) (l25 : K.lookup f25 = some ⟨oc25, od25, .func (PySem.W.fnOf "_law_word" "_law_word" (defArgs s__law_word) (defBody s__law_word) (defScope s__law_word) .none kV25 dc25 pm25 an25 cd25 ct25), sl25⟩) (c25 : PySem.W.codeIn K cd25 "_law_word" = true) (k25 : PySem.W.keepIn K (.ref f25) = true)
    (a26 : PySem.W.nsIn K mainGlobals "_law_split" = some (some (.ref f26))) (l26 : K.lookup f26 = some ⟨oc26, od26, .func (PySem.W.fnOf "_law_split" "_law_split" (defArgs s__law_split) (defBody s__law_split) (defScope s__law_split) .none kV26 dc26 pm26 an26 cd26 ct26), sl26⟩) (c26 : PySem.W.codeIn K cd26 "_law_split" = true) (k26 : PySem.W.keepIn K (.ref f26) = true)
    (a27 : PySem.W.nsIn K mainGlobals "_law_top" = some (some (.ref f27))) (l27 : K.lookup f27 = some ⟨oc27, od27, .func (PySem.W.fnOf "_law_top" "_law_top" (defArgs s__law_top) (defBody s__law_top) (defScope s__law_top) .none kV27 dc27 pm27 an27 cd27 ct27), sl27⟩) (c27 : PySem.W.codeIn K cd27 "_law_top" = true) (k27 : PySem.W.keepIn K (.ref f27) = true)
    (a28 : PySem.W.nsIn K mainGlobals "_law_path" = some (some (.ref f28))) (l28 : K.lookup f28 = some ⟨oc28, od28, .func (PySem.W.fnOf "_law_path" "_law_path" (defArgs s__law_path) (defBody s__law_path) (defScope s__law_path) .none kV28 dc28 pm28 an28 cd28 ct28), sl28⟩) (c28 : PySem.W.codeIn K cd28 "_law_path" = true) (k28 : PySem.W.keepIn K (.ref f28) = true)
    (a29 : PySem.W.nsIn K mainGlobals "_law_growth" = some (some (.ref f29))) (l29 : K.lookup f29 = some ⟨oc29, od29, .func (PySem.W.fnOf "_law_growth" "_law_growth" (defArgs s__law_growth) (defBody s__law_growth) (defScope s__law_growth) .none kV29 dc29 pm29 an29 cd29 ct29), sl29⟩) (c29 : PySem.W.codeIn K cd29 "_law_growth" = true) (k29 : PySem.W.keepIn K (.ref f29) = true)
    (a30 : PySem.W.nsIn K mainGlobals "_law_books" = some (some (.ref f30))) (l30 : K.lookup f30 = some ⟨oc30, od30, .func (PySem.W.fnOf "_law_books" "_law_books" (defArgs s__law_books) (defBody s__law_books) (defScope s__law_books) .none kV30 dc30 pm30 an30 cd30 ct30), sl30⟩) (c30 : PySem.W.codeIn K cd30 "_law_books" = true) (k30 : PySem.W.keepIn K (.ref f30) = true)
    (a31 : PySem.W.nsIn K mainGlobals "_law_leaves" = some (some (.ref f31))) (l31 : K.lookup f31 = some ⟨oc31, od31, .func (PySem.W.fnOf "_law_leaves" "_law_leaves" (defArgs s__law_leaves) (defBody s__law_leaves) (defScope s__law_leaves) .none kV31 dc31 pm31 an31 cd31 ct31), sl31⟩) (c31 : PySem.W.codeIn K cd31 "_law_leaves" = true) (k31 : PySem.W.keepIn K (.ref f31) = true)
    (a32 : PySem.W.nsIn K mainGlobals "_law_head" = some (some (.ref f32))) (l32 : K.lookup f32 = some ⟨oc32, od32, .func (PySem.W.fnOf "_law_head" "_law_head" (defArgs s__law_head) (defBody s__law_head) (defScope s__law_head) .none kV32 dc32 pm32 an32 cd32 ct32), sl32⟩) (c32 : PySem.W.codeIn K cd32 "_law_head" = true) (k32 : PySem.W.keepIn K (.ref f32) = true)
    (a33 : PySem.W.nsIn K mainGlobals "_law_bent" = some (some (.ref f33))) (l33 : K.lookup f33 = some ⟨oc33, od33, .func (PySem.W.fnOf "_law_bent" "_law_bent" (defArgs s__law_bent) (defBody s__law_bent) (defScope s__law_bent) .none kV33 dc33 pm33 an33 cd33 ct33), sl33⟩) (c33 : PySem.W.codeIn K cd33 "_law_bent" = true) (k33 : PySem.W.keepIn K (.ref f33) = true)
    (a34 : PySem.W.nsIn K mainGlobals "_law_offered" = some (some (.ref f34))) (l34 : K.lookup f34 = some ⟨oc34, od34, .func (PySem.W.fnOf "_law_offered" "_law_offered" (defArgs s__law_offered) (defBody s__law_offered) (defScope s__law_offered) .none kV34 dc34 pm34 an34 cd34 ct34), sl34⟩) (c34 : PySem.W.codeIn K cd34 "_law_offered" = true) (k34 : PySem.W.keepIn K (.ref f34) = true)
    (a35 : PySem.W.nsIn K mainGlobals "_law_judged" = some (some (.ref f35))) (l35 : K.lookup f35 = some ⟨oc35, od35, .func (PySem.W.fnOf "_law_judged" "_law_judged" (defArgs s__law_judged) (defBody s__law_judged) (defScope s__law_judged) .none kV35 dc35 pm35 an35 cd35 ct35), sl35⟩) (c35 : PySem.W.codeIn K cd35 "_law_judged" = true) (k35 : PySem.W.keepIn K (.ref f35) = true)
    (a36 : PySem.W.nsIn K mainGlobals "_law_kept" = some (some (.ref f36))) (l36 : K.lookup f36 = some ⟨oc36, od36, .func (PySem.W.fnOf "_law_kept" "_law_kept" (defArgs s__law_kept) (defBody s__law_kept) (defScope s__law_kept) .none kV36 dc36 pm36 an36 cd36 ct36), sl36⟩) (c36 : PySem.W.codeIn K cd36 "_law_kept" = true) (k36 : PySem.W.keepIn K (.ref f36) = true)
    (a37 : PySem.W.nsIn K mainGlobals "law" = some (some (.ref f37))) (l37 : K.lookup f37 = some ⟨oc37, od37, .func (PySem.W.fnOf "law" "law" (defArgs s_law) (defBody s_law) (defScope s_law) .none kV37 dc37 pm37 an37 cd37 ct37), sl37⟩) (c37 : PySem.W.codeIn K cd37 "law" = true) (k37 : PySem.W.keepIn K (.ref f37) = true)
    (z_len : PySem.W.nsIn K mainGlobals "len" = some none)
    (z_isinstance : PySem.W.nsIn K mainGlobals "isinstance" = some none)
    (z_int : PySem.W.nsIn K mainGlobals "int" = some none)
    (z_bool : PySem.W.nsIn K mainGlobals "bool" = some none)
    (z_list : PySem.W.nsIn K mainGlobals "list" = some none)
    (z_tuple : PySem.W.nsIn K mainGlobals "tuple" = some none)
    (z_range : PySem.W.nsIn K mainGlobals "range" = some none)
    (z_str : PySem.W.nsIn K mainGlobals "str" = some none)
    (z_sorted : PySem.W.nsIn K mainGlobals "sorted" = some none)
    (z_min : PySem.W.nsIn K mainGlobals "min" = some none)
    (z_enumerate : PySem.W.nsIn K mainGlobals "enumerate" = some none)
    (z_reversed : PySem.W.nsIn K mainGlobals "reversed" = some none)
    (g_BookError : PySem.W.nsIn K mainGlobals "BookError" = some (some (.ref C_BookError)))
    (g_Claim : PySem.W.nsIn K mainGlobals "Claim" = some (some (.ref C_Claim)))
    (g_BadPaper : PySem.W.nsIn K mainGlobals "BadPaper" = some (some (.ref C_BadPaper)))
    (xP_BadPaper : PySem.W.excIn K C_BadPaper [.type "ValueError", .type "Exception", .type "BaseException", .type "object"] "ValueError.__new__" = true)
    (kP_BadPaper : PySem.W.keepIn K (.ref C_BadPaper) = true)
    (bP_BadPaper : PySem.W.subIn K (.ref C_BadPaper) (.type "BaseException") = some true)
    (tP_BadPaper : PySem.W.typeIn K (.ref C_BadPaper) = some (.type "type"))
    (hg_BadPaper : PySem.W.findIn K (.ref C_BadPaper) "__getattribute__" = some (some (.builtin "BaseException.__getattribute__")))
    (hk_BadPaper : PySem.W.findIn K (.ref C_BadPaper) "__getattr__" = some none)
    (hd_BadPaper : PySem.W.hasDictIn K C_BadPaper = true)
    (ha_BadPaper : PySem.W.findIn K (.ref C_BadPaper) "__class__" = some (some (.builtin "object.__class__")))
    (hn_BadPaper : PySem.W.specialIn K (.builtin "object.__class__") "__get__" = some (some (.builtin "getset_descriptor.__get__")))
    (ht_BadPaper : PySem.W.takesIn K (.builtin "object.__class__") = some true)
    (hm_BadPaper : PySem.W.mroIn K C_BadPaper (.type "object") = some true)
    (ex_BadPaper : PySem.W.exmOne K (.ref C_BadPaper) (.ref C_BadPaper) = some true)
    (g_NoPlace : PySem.W.nsIn K mainGlobals "NoPlace" = some (some (.ref C_NoPlace)))
    (xP_NoPlace : PySem.W.excIn K C_NoPlace [.type "ValueError", .type "Exception", .type "BaseException", .type "object"] "ValueError.__new__" = true)
    (kP_NoPlace : PySem.W.keepIn K (.ref C_NoPlace) = true)
    (bP_NoPlace : PySem.W.subIn K (.ref C_NoPlace) (.type "BaseException") = some true)
    (tP_NoPlace : PySem.W.typeIn K (.ref C_NoPlace) = some (.type "type"))
    (hg_NoPlace : PySem.W.findIn K (.ref C_NoPlace) "__getattribute__" = some (some (.builtin "BaseException.__getattribute__")))
    (hk_NoPlace : PySem.W.findIn K (.ref C_NoPlace) "__getattr__" = some none)
    (hd_NoPlace : PySem.W.hasDictIn K C_NoPlace = true)
    (ha_NoPlace : PySem.W.findIn K (.ref C_NoPlace) "__class__" = some (some (.builtin "object.__class__")))
    (hn_NoPlace : PySem.W.specialIn K (.builtin "object.__class__") "__get__" = some (some (.builtin "getset_descriptor.__get__")))
    (ht_NoPlace : PySem.W.takesIn K (.builtin "object.__class__") = some true)
    (hm_NoPlace : PySem.W.mroIn K C_NoPlace (.type "object") = some true)
    (ex_NoPlace : PySem.W.exmOne K (.ref C_NoPlace) (.ref C_NoPlace) = some true)
    (g_BadRow : PySem.W.nsIn K mainGlobals "BadRow" = some (some (.ref C_BadRow)))
    (xL_BadRow : K.lookup C_BadRow = some (excClassObj nm_BadRow qn_BadRow C_BadRow N_BadRow bs_BadRow [.ref C_BookError, .type "ValueError", .type "Exception", .type "BaseException", .type "object"] true sn_BadRow sub_BadRow ab_BadRow col_BadRow dd_BadRow m0_BadRow m1_BadRow m2_BadRow m3_BadRow m5_BadRow "ValueError.__new__"))
    (sa_BadRow : PySem.W.findIn K (.ref C_BadRow) "__setattr__" = some (some (.builtin "object.__setattr__")))
    (ga_BadRow : PySem.W.findIn K (.ref C_BadRow) "__getattribute__" = some (some (.builtin "BaseException.__getattribute__")))
    (gg_BadRow : PySem.W.findIn K (.ref C_BadRow) "__getattr__" = some none)
    (nf_BadRow : PySem.W.findIn K (.ref C_BadRow) "row" = some none)
    (kC_BadRow : PySem.W.keepIn K (.ref C_BadRow) = true)
    (eC_BadRow : PySem.W.subIn K (.ref C_BadRow) (.type "BaseException") = some true)
    (tC_BadRow : PySem.W.typeIn K (.ref C_BadRow) = some (.type "type"))
    (hC_BadRow : PySem.W.hasDictIn K C_BadRow = true)
    (iac_BadRow : PySem.W.findIn K (.ref C_BadRow) "__class__" = some (some (.builtin "object.__class__")))
    (xm_BadRow : PySem.W.mroIn K C_BadRow (.type "object") = some true)
    (xe_BadRow : PySem.W.exmOne K (.ref C_BadRow) (.ref C_BadRow) = some true)
    (fi_BadRow : PySem.W.findIn K (.ref C_BadRow) "__init__" = some (some (.ref fI_BadRow)))
    (ti_BadRow : PySem.W.typeIn K (.ref fI_BadRow) = some (.type "function"))
    (bg_BadRow : PySem.W.specialIn K (.ref C_BookError) "__getattribute__" = some (some (.builtin "type.__getattribute__")))
    (br_BadRow : PySem.W.readsIn K C_BookError (.type "type") = true)
    (bf_BadRow : PySem.W.findCls K (.ref C_BookError) (.type "type") "__init__" = some (.val (.builtin "ValueError.__init__")))
    (xn_BadRow : PySem.W.specialIn K (.builtin "object.__class__") "__get__" = some (some (.builtin "getset_descriptor.__get__")))
    (xt_BadRow : PySem.W.takesIn K (.builtin "object.__class__") = some true)
    (li_BadRow : K.lookup fI_BadRow = some ⟨oc_BadRow, od_BadRow, .func (PySem.W.fnOf "__init__" "BadRow.__init__" (defArgs s_BadRow___init__) (defBody s_BadRow___init__) (defScope s_BadRow___init__) .none kV_BadRow dc_BadRow pm_BadRow an_BadRow cd_BadRow ct_BadRow), sl_BadRow⟩) (ci_BadRow : PySem.W.codeIn K cd_BadRow "BadRow.__init__" = true) (ki_BadRow : PySem.W.keepIn K (.ref fI_BadRow) = true)
    (g_Table : PySem.W.nsIn K mainGlobals "Table" = some (some (.ref C_Table)))
    (pg_Table : PySem.W.plainGet K C_Table Str.empty = true)
    (hd_Table : PySem.W.hasDictIn K C_Table = true)
    (po_Table : PySem.W.plainOver K C_Table = true)
    (sa_Table : PySem.W.findIn K (.ref C_Table) "__setattr__" = some (some (.builtin "object.__setattr__")))
    (n_Table_seal : PySem.W.findIn K (.ref C_Table) "seal" = some none)
    (n_Table_depth : PySem.W.findIn K (.ref C_Table) "depth" = some none)
    (n_Table_held : PySem.W.findIn K (.ref C_Table) "held" = some none)
    (ia_Table : PySem.W.findIn K (.ref C_Table) "__class__" = some (some (.builtin "object.__class__")))
    (in_Table : PySem.W.specialIn K (.builtin "object.__class__") "__get__" = some (some (.builtin "getset_descriptor.__get__")))
    (it_Table : PySem.W.takesIn K (.builtin "object.__class__") = some true)
    (im_Table : PySem.W.mroIn K C_Table (.type "object") = some true)
    (aTable0 : PySem.W.findIn K (.ref C_Table) "__init__" = some (some (.ref fTable0))) (iTable0 : PySem.W.isFn K (.ref fTable0) = true) (lTable0 : K.lookup fTable0 = some ⟨ocTable0, odTable0, .func (PySem.W.fnOf "__init__" "Table.__init__" (defArgs s_Table___init__) (defBody s_Table___init__) (defScope s_Table___init__) (.ref dTTable0) kVTable0 dcTable0 pmTable0 anTable0 cdTable0 ctTable0), slTable0⟩) (cTable0 : PySem.W.codeIn K cdTable0 "Table.__init__" = true) (kTable0 : PySem.W.keepIn K (.ref fTable0) = true)
    (dTable0 : K.lookup dTTable0 = some ⟨oTTable0, pTTable0, .seq #[.int 8 uTTable0_0] nTTable0, sTTable0⟩)
    (mk_Table : PySem.W.makesIn K C_Table = true) (kc_Table : PySem.W.keepIn K (.ref C_Table) = true)
    (aTable1 : PySem.W.findIn K (.ref C_Table) "asked" = some (some (.ref fTable1))) (iTable1 : PySem.W.isFn K (.ref fTable1) = true) (lTable1 : K.lookup fTable1 = some ⟨ocTable1, odTable1, .func (PySem.W.fnOf "asked" "Table.asked" (defArgs s_Table_asked) (defBody s_Table_asked) (defScope s_Table_asked) .none kVTable1 dcTable1 pmTable1 anTable1 cdTable1 ctTable1), slTable1⟩) (cTable1 : PySem.W.codeIn K cdTable1 "Table.asked" = true) (kTable1 : PySem.W.keepIn K (.ref fTable1) = true)
    (aTable2 : PySem.W.findIn K (.ref C_Table) "put" = some (some (.ref fTable2))) (iTable2 : PySem.W.isFn K (.ref fTable2) = true) (lTable2 : K.lookup fTable2 = some ⟨ocTable2, odTable2, .func (PySem.W.fnOf "put" "Table.put" (defArgs s_Table_put) (defBody s_Table_put) (defScope s_Table_put) .none kVTable2 dcTable2 pmTable2 anTable2 cdTable2 ctTable2), slTable2⟩) (cTable2 : PySem.W.codeIn K cdTable2 "Table.put" = true) (kTable2 : PySem.W.keepIn K (.ref fTable2) = true)
    (aTable3 : PySem.W.findIn K (.ref C_Table) "cut" = some (some (.ref fTable3))) (iTable3 : PySem.W.isFn K (.ref fTable3) = true) (lTable3 : K.lookup fTable3 = some ⟨ocTable3, odTable3, .func (PySem.W.fnOf "cut" "Table.cut" (defArgs s_Table_cut) (defBody s_Table_cut) (defScope s_Table_cut) .none kVTable3 dcTable3 pmTable3 anTable3 cdTable3 ctTable3), slTable3⟩) (cTable3 : PySem.W.codeIn K cdTable3 "Table.cut" = true) (kTable3 : PySem.W.keepIn K (.ref fTable3) = true)
    (aTable4 : PySem.W.findIn K (.ref C_Table) "value" = some (some (.ref fTable4))) (iTable4 : PySem.W.isFn K (.ref fTable4) = true) (lTable4 : K.lookup fTable4 = some ⟨ocTable4, odTable4, .func (PySem.W.fnOf "value" "Table.value" (defArgs s_Table_value) (defBody s_Table_value) (defScope s_Table_value) .none kVTable4 dcTable4 pmTable4 anTable4 cdTable4 ctTable4), slTable4⟩) (cTable4 : PySem.W.codeIn K cdTable4 "Table.value" = true) (kTable4 : PySem.W.keepIn K (.ref fTable4) = true)
    (aTable5 : PySem.W.findIn K (.ref C_Table) "rows" = some (some (.ref fTable5))) (iTable5 : PySem.W.isFn K (.ref fTable5) = true) (lTable5 : K.lookup fTable5 = some ⟨ocTable5, odTable5, .func (PySem.W.fnOf "rows" "Table.rows" (defArgs s_Table_rows) (defBody s_Table_rows) (defScope s_Table_rows) .none kVTable5 dcTable5 pmTable5 anTable5 cdTable5 ctTable5), slTable5⟩) (cTable5 : PySem.W.codeIn K cdTable5 "Table.rows" = true) (kTable5 : PySem.W.keepIn K (.ref fTable5) = true)
    (aTable6 : PySem.W.findIn K (.ref C_Table) "head" = some (some (.ref fTable6))) (iTable6 : PySem.W.isFn K (.ref fTable6) = true) (lTable6 : K.lookup fTable6 = some ⟨ocTable6, odTable6, .func (PySem.W.fnOf "head" "Table.head" (defArgs s_Table_head) (defBody s_Table_head) (defScope s_Table_head) .none kVTable6 dcTable6 pmTable6 anTable6 cdTable6 ctTable6), slTable6⟩) (cTable6 : PySem.W.codeIn K cdTable6 "Table.head" = true) (kTable6 : PySem.W.keepIn K (.ref fTable6) = true)
    (aTable7 : PySem.W.findIn K (.ref C_Table) "way" = some (some (.ref fTable7))) (iTable7 : PySem.W.isFn K (.ref fTable7) = true) (lTable7 : K.lookup fTable7 = some ⟨ocTable7, odTable7, .func (PySem.W.fnOf "way" "Table.way" (defArgs s_Table_way) (defBody s_Table_way) (defScope s_Table_way) .none kVTable7 dcTable7 pmTable7 anTable7 cdTable7 ctTable7), slTable7⟩) (cTable7 : PySem.W.codeIn K cdTable7 "Table.way" = true) (kTable7 : PySem.W.keepIn K (.ref fTable7) = true)
    (g_Keeper : PySem.W.nsIn K mainGlobals "Keeper" = some (some (.ref C_Keeper)))
    (pg_Keeper : PySem.W.plainGet K C_Keeper Str.empty = true)
    (hd_Keeper : PySem.W.hasDictIn K C_Keeper = true)
    (po_Keeper : PySem.W.plainOver K C_Keeper = true)
    (sa_Keeper : PySem.W.findIn K (.ref C_Keeper) "__setattr__" = some (some (.builtin "object.__setattr__")))
    (n_Keeper_seal : PySem.W.findIn K (.ref C_Keeper) "seal" = some none)
    (n_Keeper_depth : PySem.W.findIn K (.ref C_Keeper) "depth" = some none)
    (n_Keeper_texts : PySem.W.findIn K (.ref C_Keeper) "texts" = some none)
    (n_Keeper_tables : PySem.W.findIn K (.ref C_Keeper) "tables" = some none)
    (n_Keeper_leaves : PySem.W.findIn K (.ref C_Keeper) "leaves" = some none)
    (ia_Keeper : PySem.W.findIn K (.ref C_Keeper) "__class__" = some (some (.builtin "object.__class__")))
    (in_Keeper : PySem.W.specialIn K (.builtin "object.__class__") "__get__" = some (some (.builtin "getset_descriptor.__get__")))
    (it_Keeper : PySem.W.takesIn K (.builtin "object.__class__") = some true)
    (im_Keeper : PySem.W.mroIn K C_Keeper (.type "object") = some true)
    (aKeeper0 : PySem.W.findIn K (.ref C_Keeper) "__init__" = some (some (.ref fKeeper0))) (iKeeper0 : PySem.W.isFn K (.ref fKeeper0) = true) (lKeeper0 : K.lookup fKeeper0 = some ⟨ocKeeper0, odKeeper0, .func (PySem.W.fnOf "__init__" "Keeper.__init__" (defArgs s_Keeper___init__) (defBody s_Keeper___init__) (defScope s_Keeper___init__) (.ref dTKeeper0) kVKeeper0 dcKeeper0 pmKeeper0 anKeeper0 cdKeeper0 ctKeeper0), slKeeper0⟩) (cKeeper0 : PySem.W.codeIn K cdKeeper0 "Keeper.__init__" = true) (kKeeper0 : PySem.W.keepIn K (.ref fKeeper0) = true)
    (dKeeper0 : K.lookup dTKeeper0 = some ⟨oTKeeper0, pTKeeper0, .seq #[.int 8 uTKeeper0_0] nTKeeper0, sTKeeper0⟩)
    (mk_Keeper : PySem.W.makesIn K C_Keeper = true) (kc_Keeper : PySem.W.keepIn K (.ref C_Keeper) = true)
    (aKeeper1 : PySem.W.findIn K (.ref C_Keeper) "add" = some (some (.ref fKeeper1))) (iKeeper1 : PySem.W.isFn K (.ref fKeeper1) = true) (lKeeper1 : K.lookup fKeeper1 = some ⟨ocKeeper1, odKeeper1, .func (PySem.W.fnOf "add" "Keeper.add" (defArgs s_Keeper_add) (defBody s_Keeper_add) (defScope s_Keeper_add) .none kVKeeper1 dcKeeper1 pmKeeper1 anKeeper1 cdKeeper1 ctKeeper1), slKeeper1⟩) (cKeeper1 : PySem.W.codeIn K cdKeeper1 "Keeper.add" = true) (kKeeper1 : PySem.W.keepIn K (.ref fKeeper1) = true)
    (aKeeper2 : PySem.W.findIn K (.ref C_Keeper) "size" = some (some (.ref fKeeper2))) (iKeeper2 : PySem.W.isFn K (.ref fKeeper2) = true) (lKeeper2 : K.lookup fKeeper2 = some ⟨ocKeeper2, odKeeper2, .func (PySem.W.fnOf "size" "Keeper.size" (defArgs s_Keeper_size) (defBody s_Keeper_size) (defScope s_Keeper_size) .none kVKeeper2 dcKeeper2 pmKeeper2 anKeeper2 cdKeeper2 ctKeeper2), slKeeper2⟩) (cKeeper2 : PySem.W.codeIn K cdKeeper2 "Keeper.size" = true) (kKeeper2 : PySem.W.keepIn K (.ref fKeeper2) = true)
    (aKeeper3 : PySem.W.findIn K (.ref C_Keeper) "first" = some (some (.ref fKeeper3))) (iKeeper3 : PySem.W.isFn K (.ref fKeeper3) = true) (lKeeper3 : K.lookup fKeeper3 = some ⟨ocKeeper3, odKeeper3, .func (PySem.W.fnOf "first" "Keeper.first" (defArgs s_Keeper_first) (defBody s_Keeper_first) (defScope s_Keeper_first) .none kVKeeper3 dcKeeper3 pmKeeper3 anKeeper3 cdKeeper3 ctKeeper3), slKeeper3⟩) (cKeeper3 : PySem.W.codeIn K cdKeeper3 "Keeper.first" = true) (kKeeper3 : PySem.W.keepIn K (.ref fKeeper3) = true)
    (aKeeper4 : PySem.W.findIn K (.ref C_Keeper) "within" = some (some (.ref fKeeper4))) (iKeeper4 : PySem.W.isFn K (.ref fKeeper4) = true) (lKeeper4 : K.lookup fKeeper4 = some ⟨ocKeeper4, odKeeper4, .func (PySem.W.fnOf "within" "Keeper.within" (defArgs s_Keeper_within) (defBody s_Keeper_within) (defScope s_Keeper_within) .none kVKeeper4 dcKeeper4 pmKeeper4 anKeeper4 cdKeeper4 ctKeeper4), slKeeper4⟩) (cKeeper4 : PySem.W.codeIn K cdKeeper4 "Keeper.within" = true) (kKeeper4 : PySem.W.keepIn K (.ref fKeeper4) = true)
    (aKeeper5 : PySem.W.findIn K (.ref C_Keeper) "text" = some (some (.ref fKeeper5))) (iKeeper5 : PySem.W.isFn K (.ref fKeeper5) = true) (lKeeper5 : K.lookup fKeeper5 = some ⟨ocKeeper5, odKeeper5, .func (PySem.W.fnOf "text" "Keeper.text" (defArgs s_Keeper_text) (defBody s_Keeper_text) (defScope s_Keeper_text) .none kVKeeper5 dcKeeper5 pmKeeper5 anKeeper5 cdKeeper5 ctKeeper5), slKeeper5⟩) (cKeeper5 : PySem.W.codeIn K cdKeeper5 "Keeper.text" = true) (kKeeper5 : PySem.W.keepIn K (.ref fKeeper5) = true)
    (aKeeper6 : PySem.W.findIn K (.ref C_Keeper) "table_head" = some (some (.ref fKeeper6))) (iKeeper6 : PySem.W.isFn K (.ref fKeeper6) = true) (lKeeper6 : K.lookup fKeeper6 = some ⟨ocKeeper6, odKeeper6, .func (PySem.W.fnOf "table_head" "Keeper.table_head" (defArgs s_Keeper_table_head) (defBody s_Keeper_table_head) (defScope s_Keeper_table_head) .none kVKeeper6 dcKeeper6 pmKeeper6 anKeeper6 cdKeeper6 ctKeeper6), slKeeper6⟩) (cKeeper6 : PySem.W.codeIn K cdKeeper6 "Keeper.table_head" = true) (kKeeper6 : PySem.W.keepIn K (.ref fKeeper6) = true)
    (aKeeper7 : PySem.W.findIn K (.ref C_Keeper) "head" = some (some (.ref fKeeper7))) (iKeeper7 : PySem.W.isFn K (.ref fKeeper7) = true) (lKeeper7 : K.lookup fKeeper7 = some ⟨ocKeeper7, odKeeper7, .func (PySem.W.fnOf "head" "Keeper.head" (defArgs s_Keeper_head) (defBody s_Keeper_head) (defScope s_Keeper_head) (.ref dTKeeper7) kVKeeper7 dcKeeper7 pmKeeper7 anKeeper7 cdKeeper7 ctKeeper7), slKeeper7⟩) (cKeeper7 : PySem.W.codeIn K cdKeeper7 "Keeper.head" = true) (kKeeper7 : PySem.W.keepIn K (.ref fKeeper7) = true)
    (dKeeper7 : K.lookup dTKeeper7 = some ⟨oTKeeper7, pTKeeper7, .seq #[.none] nTKeeper7, sTKeeper7⟩)
    (aKeeper8 : PySem.W.findIn K (.ref C_Keeper) "path" = some (some (.ref fKeeper8))) (iKeeper8 : PySem.W.isFn K (.ref fKeeper8) = true) (lKeeper8 : K.lookup fKeeper8 = some ⟨ocKeeper8, odKeeper8, .func (PySem.W.fnOf "path" "Keeper.path" (defArgs s_Keeper_path) (defBody s_Keeper_path) (defScope s_Keeper_path) (.ref dTKeeper8) kVKeeper8 dcKeeper8 pmKeeper8 anKeeper8 cdKeeper8 ctKeeper8), slKeeper8⟩) (cKeeper8 : PySem.W.codeIn K cdKeeper8 "Keeper.path" = true) (kKeeper8 : PySem.W.keepIn K (.ref fKeeper8) = true)
    (dKeeper8 : K.lookup dTKeeper8 = some ⟨oTKeeper8, pTKeeper8, .seq #[.none] nTKeeper8, sTKeeper8⟩)
    (aKeeper9 : PySem.W.findIn K (.ref C_Keeper) "growth" = some (some (.ref fKeeper9))) (iKeeper9 : PySem.W.isFn K (.ref fKeeper9) = true) (lKeeper9 : K.lookup fKeeper9 = some ⟨ocKeeper9, odKeeper9, .func (PySem.W.fnOf "growth" "Keeper.growth" (defArgs s_Keeper_growth) (defBody s_Keeper_growth) (defScope s_Keeper_growth) (.ref dTKeeper9) kVKeeper9 dcKeeper9 pmKeeper9 anKeeper9 cdKeeper9 ctKeeper9), slKeeper9⟩) (cKeeper9 : PySem.W.codeIn K cdKeeper9 "Keeper.growth" = true) (kKeeper9 : PySem.W.keepIn K (.ref fKeeper9) = true)
    (dKeeper9 : K.lookup dTKeeper9 = some ⟨oTKeeper9, pTKeeper9, .seq #[.none] nTKeeper9, sTKeeper9⟩)
    (aKeeper10 : PySem.W.findIn K (.ref C_Keeper) "way" = some (some (.ref fKeeper10))) (iKeeper10 : PySem.W.isFn K (.ref fKeeper10) = true) (lKeeper10 : K.lookup fKeeper10 = some ⟨ocKeeper10, odKeeper10, .func (PySem.W.fnOf "way" "Keeper.way" (defArgs s_Keeper_way) (defBody s_Keeper_way) (defScope s_Keeper_way) .none kVKeeper10 dcKeeper10 pmKeeper10 anKeeper10 cdKeeper10 ctKeeper10), slKeeper10⟩) (cKeeper10 : PySem.W.codeIn K cdKeeper10 "Keeper.way" = true) (kKeeper10 : PySem.W.keepIn K (.ref fKeeper10) = true)
    (aKeeper11 : PySem.W.findIn K (.ref C_Keeper) "paper" = some (some (.ref fKeeper11))) (iKeeper11 : PySem.W.isFn K (.ref fKeeper11) = true) (lKeeper11 : K.lookup fKeeper11 = some ⟨ocKeeper11, odKeeper11, .func (PySem.W.fnOf "paper" "Keeper.paper" (defArgs s_Keeper_paper) (defBody s_Keeper_paper) (defScope s_Keeper_paper) (.ref dTKeeper11) kVKeeper11 dcKeeper11 pmKeeper11 anKeeper11 cdKeeper11 ctKeeper11), slKeeper11⟩) (cKeeper11 : PySem.W.codeIn K cdKeeper11 "Keeper.paper" = true) (kKeeper11 : PySem.W.keepIn K (.ref fKeeper11) = true)
    (dKeeper11 : K.lookup dTKeeper11 = some ⟨oTKeeper11, pTKeeper11, .seq #[.none] nTKeeper11, sTKeeper11⟩)
    (g_Stands : PySem.W.nsIn K mainGlobals "Stands" = some (some (.ref C_Stands)))
    (pg_Stands : PySem.W.plainGet K C_Stands Str.empty = true)
    (hd_Stands : PySem.W.hasDictIn K C_Stands = true)
    (po_Stands : PySem.W.plainOver K C_Stands = true)
    (sa_Stands : PySem.W.findIn K (.ref C_Stands) "__setattr__" = some (some (.builtin "object.__setattr__")))
    (n_Stands_place : PySem.W.findIn K (.ref C_Stands) "place" = some none)
    (n_Stands_words : PySem.W.findIn K (.ref C_Stands) "words" = some none)
    (n_Stands_table : PySem.W.findIn K (.ref C_Stands) "table" = some none)
    (ia_Stands : PySem.W.findIn K (.ref C_Stands) "__class__" = some (some (.builtin "object.__class__")))
    (in_Stands : PySem.W.specialIn K (.builtin "object.__class__") "__get__" = some (some (.builtin "getset_descriptor.__get__")))
    (it_Stands : PySem.W.takesIn K (.builtin "object.__class__") = some true)
    (im_Stands : PySem.W.mroIn K C_Stands (.type "object") = some true)
    (aStands0 : PySem.W.findIn K (.ref C_Stands) "__init__" = some (some (.ref fStands0))) (iStands0 : PySem.W.isFn K (.ref fStands0) = true) (lStands0 : K.lookup fStands0 = some ⟨ocStands0, odStands0, .func (PySem.W.fnOf "__init__" "Stands.__init__" (defArgs s_Stands___init__) (defBody s_Stands___init__) (defScope s_Stands___init__) .none kVStands0 dcStands0 pmStands0 anStands0 cdStands0 ctStands0), slStands0⟩) (cStands0 : PySem.W.codeIn K cdStands0 "Stands.__init__" = true) (kStands0 : PySem.W.keepIn K (.ref fStands0) = true)
    (mk_Stands : PySem.W.makesIn K C_Stands = true) (kc_Stands : PySem.W.keepIn K (.ref C_Stands) = true)
    (aStands1 : PySem.W.findIn K (.ref C_Stands) "shown" = some (some (.ref fStands1))) (iStands1 : PySem.W.isFn K (.ref fStands1) = true) (lStands1 : K.lookup fStands1 = some ⟨ocStands1, odStands1, .func (PySem.W.fnOf "shown" "Stands.shown" (defArgs s_Stands_shown) (defBody s_Stands_shown) (defScope s_Stands_shown) .none kVStands1 dcStands1 pmStands1 anStands1 cdStands1 ctStands1), slStands1⟩) (cStands1 : PySem.W.codeIn K cdStands1 "Stands.shown" = true) (kStands1 : PySem.W.keepIn K (.ref fStands1) = true)
    (aStands2 : PySem.W.findIn K (.ref C_Stands) "judged" = some (some (.ref fStands2))) (iStands2 : PySem.W.isFn K (.ref fStands2) = true) (lStands2 : K.lookup fStands2 = some ⟨ocStands2, odStands2, .func (PySem.W.fnOf "judged" "Claim.judged" (defArgs s_Claim_judged) (defBody s_Claim_judged) (defScope s_Claim_judged) .none kVStands2 dcStands2 pmStands2 anStands2 cdStands2 ctStands2), slStands2⟩) (cStands2 : PySem.W.codeIn K cdStands2 "Claim.judged" = true) (kStands2 : PySem.W.keepIn K (.ref fStands2) = true)
    (g_Grows : PySem.W.nsIn K mainGlobals "Grows" = some (some (.ref C_Grows)))
    (pg_Grows : PySem.W.plainGet K C_Grows Str.empty = true)
    (hd_Grows : PySem.W.hasDictIn K C_Grows = true)
    (po_Grows : PySem.W.plainOver K C_Grows = true)
    (sa_Grows : PySem.W.findIn K (.ref C_Grows) "__setattr__" = some (some (.builtin "object.__setattr__")))
    (n_Grows_old : PySem.W.findIn K (.ref C_Grows) "old" = some none)
    (n_Grows_before : PySem.W.findIn K (.ref C_Grows) "before" = some none)
    (ia_Grows : PySem.W.findIn K (.ref C_Grows) "__class__" = some (some (.builtin "object.__class__")))
    (in_Grows : PySem.W.specialIn K (.builtin "object.__class__") "__get__" = some (some (.builtin "getset_descriptor.__get__")))
    (it_Grows : PySem.W.takesIn K (.builtin "object.__class__") = some true)
    (im_Grows : PySem.W.mroIn K C_Grows (.type "object") = some true)
    (aGrows0 : PySem.W.findIn K (.ref C_Grows) "__init__" = some (some (.ref fGrows0))) (iGrows0 : PySem.W.isFn K (.ref fGrows0) = true) (lGrows0 : K.lookup fGrows0 = some ⟨ocGrows0, odGrows0, .func (PySem.W.fnOf "__init__" "Grows.__init__" (defArgs s_Grows___init__) (defBody s_Grows___init__) (defScope s_Grows___init__) .none kVGrows0 dcGrows0 pmGrows0 anGrows0 cdGrows0 ctGrows0), slGrows0⟩) (cGrows0 : PySem.W.codeIn K cdGrows0 "Grows.__init__" = true) (kGrows0 : PySem.W.keepIn K (.ref fGrows0) = true)
    (mk_Grows : PySem.W.makesIn K C_Grows = true) (kc_Grows : PySem.W.keepIn K (.ref C_Grows) = true)
    (aGrows1 : PySem.W.findIn K (.ref C_Grows) "shown" = some (some (.ref fGrows1))) (iGrows1 : PySem.W.isFn K (.ref fGrows1) = true) (lGrows1 : K.lookup fGrows1 = some ⟨ocGrows1, odGrows1, .func (PySem.W.fnOf "shown" "Grows.shown" (defArgs s_Grows_shown) (defBody s_Grows_shown) (defScope s_Grows_shown) .none kVGrows1 dcGrows1 pmGrows1 anGrows1 cdGrows1 ctGrows1), slGrows1⟩) (cGrows1 : PySem.W.codeIn K cdGrows1 "Grows.shown" = true) (kGrows1 : PySem.W.keepIn K (.ref fGrows1) = true)
    (aGrows2 : PySem.W.findIn K (.ref C_Grows) "judged" = some (some (.ref fGrows2))) (iGrows2 : PySem.W.isFn K (.ref fGrows2) = true) (lGrows2 : K.lookup fGrows2 = some ⟨ocGrows2, odGrows2, .func (PySem.W.fnOf "judged" "Claim.judged" (defArgs s_Claim_judged) (defBody s_Claim_judged) (defScope s_Claim_judged) .none kVGrows2 dcGrows2 pmGrows2 anGrows2 cdGrows2 ctGrows2), slGrows2⟩) (cGrows2 : PySem.W.codeIn K cdGrows2 "Claim.judged" = true) (kGrows2 : PySem.W.keepIn K (.ref fGrows2) = true)
    (g_Follower : PySem.W.nsIn K mainGlobals "Follower" = some (some (.ref C_Follower)))
    (pg_Follower : PySem.W.plainGet K C_Follower Str.empty = true)
    (hd_Follower : PySem.W.hasDictIn K C_Follower = true)
    (po_Follower : PySem.W.plainOver K C_Follower = true)
    (sa_Follower : PySem.W.findIn K (.ref C_Follower) "__setattr__" = some (some (.builtin "object.__setattr__")))
    (n_Follower_seal : PySem.W.findIn K (.ref C_Follower) "seal" = some none)
    (n_Follower_count : PySem.W.findIn K (.ref C_Follower) "count" = some none)
    (n_Follower_newest : PySem.W.findIn K (.ref C_Follower) "newest" = some none)
    (ia_Follower : PySem.W.findIn K (.ref C_Follower) "__class__" = some (some (.builtin "object.__class__")))
    (in_Follower : PySem.W.specialIn K (.builtin "object.__class__") "__get__" = some (some (.builtin "getset_descriptor.__get__")))
    (it_Follower : PySem.W.takesIn K (.builtin "object.__class__") = some true)
    (im_Follower : PySem.W.mroIn K C_Follower (.type "object") = some true)
    (aFollower0 : PySem.W.findIn K (.ref C_Follower) "__init__" = some (some (.ref fFollower0))) (iFollower0 : PySem.W.isFn K (.ref fFollower0) = true) (lFollower0 : K.lookup fFollower0 = some ⟨ocFollower0, odFollower0, .func (PySem.W.fnOf "__init__" "Follower.__init__" (defArgs s_Follower___init__) (defBody s_Follower___init__) (defScope s_Follower___init__) .none kVFollower0 dcFollower0 pmFollower0 anFollower0 cdFollower0 ctFollower0), slFollower0⟩) (cFollower0 : PySem.W.codeIn K cdFollower0 "Follower.__init__" = true) (kFollower0 : PySem.W.keepIn K (.ref fFollower0) = true)
    (mk_Follower : PySem.W.makesIn K C_Follower = true) (kc_Follower : PySem.W.keepIn K (.ref C_Follower) = true)
    (aFollower1 : PySem.W.findIn K (.ref C_Follower) "size" = some (some (.ref fFollower1))) (iFollower1 : PySem.W.isFn K (.ref fFollower1) = true) (lFollower1 : K.lookup fFollower1 = some ⟨ocFollower1, odFollower1, .func (PySem.W.fnOf "size" "Follower.size" (defArgs s_Follower_size) (defBody s_Follower_size) (defScope s_Follower_size) .none kVFollower1 dcFollower1 pmFollower1 anFollower1 cdFollower1 ctFollower1), slFollower1⟩) (cFollower1 : PySem.W.codeIn K cdFollower1 "Follower.size" = true) (kFollower1 : PySem.W.keepIn K (.ref fFollower1) = true)
    (aFollower2 : PySem.W.findIn K (.ref C_Follower) "head" = some (some (.ref fFollower2))) (iFollower2 : PySem.W.isFn K (.ref fFollower2) = true) (lFollower2 : K.lookup fFollower2 = some ⟨ocFollower2, odFollower2, .func (PySem.W.fnOf "head" "Follower.head" (defArgs s_Follower_head) (defBody s_Follower_head) (defScope s_Follower_head) .none kVFollower2 dcFollower2 pmFollower2 anFollower2 cdFollower2 ctFollower2), slFollower2⟩) (cFollower2 : PySem.W.codeIn K cdFollower2 "Follower.head" = true) (kFollower2 : PySem.W.keepIn K (.ref fFollower2) = true)
    (aFollower3 : PySem.W.findIn K (.ref C_Follower) "take" = some (some (.ref fFollower3))) (iFollower3 : PySem.W.isFn K (.ref fFollower3) = true) (lFollower3 : K.lookup fFollower3 = some ⟨ocFollower3, odFollower3, .func (PySem.W.fnOf "take" "Follower.take" (defArgs s_Follower_take) (defBody s_Follower_take) (defScope s_Follower_take) .none kVFollower3 dcFollower3 pmFollower3 anFollower3 cdFollower3 ctFollower3), slFollower3⟩) (cFollower3 : PySem.W.codeIn K cdFollower3 "Follower.take" = true) (kFollower3 : PySem.W.keepIn K (.ref fFollower3) = true)
    (aFollower4 : PySem.W.findIn K (.ref C_Follower) "judge" = some (some (.ref fFollower4))) (iFollower4 : PySem.W.isFn K (.ref fFollower4) = true) (lFollower4 : K.lookup fFollower4 = some ⟨ocFollower4, odFollower4, .func (PySem.W.fnOf "judge" "Follower.judge" (defArgs s_Follower_judge) (defBody s_Follower_judge) (defScope s_Follower_judge) .none kVFollower4 dcFollower4 pmFollower4 anFollower4 cdFollower4 ctFollower4), slFollower4⟩) (cFollower4 : PySem.W.codeIn K cdFollower4 "Follower.judge" = true) (kFollower4 : PySem.W.keepIn K (.ref fFollower4) = true)
    : Txt K mg cc := by
  exact ⟨⟨⟨_, _, fun_mk (st := s__wall) l0 c0 k0, PySem.W.mg_of X G a0, fun us hl => match us, hl with | [_], _ => rfl⟩⟩,
    ⟨⟨_, _, fun_mk (st := s_split) l1 c1 k1, PySem.W.mg_of X G a1, fun us hl => match us, hl with | [_], _ => rfl⟩⟩,
    ⟨⟨_, _, fun_mk (st := s_none_seal) l2 c2 k2, PySem.W.mg_of X G a2, fun us hl => match us, hl with | [_], _ => rfl⟩⟩,
    ⟨⟨_, _, fun_mk (st := s_leaf_seal) l3 c3 k3, PySem.W.mg_of X G a3, fun us hl => match us, hl with | [_, _, _], _ => rfl⟩⟩,
    ⟨⟨_, _, fun_mk (st := s_pair_seal) l4 c4 k4, PySem.W.mg_of X G a4, fun us hl => match us, hl with | [_, _, _], _ => rfl⟩⟩,
    ⟨⟨_, _, fun_mk (st := s_book_seal) l5 c5 k5, PySem.W.mg_of X G a5, fun us hl => match us, hl with | [_, _, _], _ => rfl⟩⟩,
    ⟨⟨_, _, fun_mk (st := s_top_of) l6 c6 k6, PySem.W.mg_of X G a6, fun us hl => match us, hl with | [_, _], _ => rfl⟩⟩,
    ⟨⟨_, _, fun_mk (st := s_path_of) l7 c7 k7, PySem.W.mg_of X G a7, fun us hl => match us, hl with | [_, _, _], _ => rfl⟩⟩,
    ⟨⟨_, _, fun_mk (st := s_growth_of) l8 c8 k8, PySem.W.mg_of X G a8, fun us hl => match us, hl with | [_, _, _], _ => rfl⟩⟩,
    ⟨⟨_, _, fun_mk (st := s_last_of) l9 c9 k9, PySem.W.mg_of X G a9, fun us hl => match us, hl with | [_], _ => rfl⟩⟩,
    ⟨⟨_, _, fun_mk (st := s_risen) l10 c10 k10, PySem.W.mg_of X G a10, fun us hl => match us, hl with | [_, _, _, _, _], _ => rfl⟩⟩,
    ⟨⟨_, _, fun_mk (st := s_regrown) l11 c11 k11, PySem.W.mg_of X G a11, fun us hl => match us, hl with | [_, _, _, _], _ => rfl⟩⟩,
    ⟨⟨_, _, fun_mk (st := s_parted) l12 c12 k12, PySem.W.mg_of X G a12, fun us hl => match us, hl with | [_, _], _ => rfl⟩⟩,
    ⟨⟨_, _, fun_mk (st := s_part_top) l13 c13 k13, PySem.W.mg_of X G a13, fun us hl => match us, hl with | [_, _, _], _ => rfl⟩⟩,
    ⟨⟨_, _, fun_mk (st := s_table_seal) l14 c14 k14, PySem.W.mg_of X G a14, fun us hl => match us, hl with | [_, _, _], _ => rfl⟩⟩,
    ⟨⟨_, _, fun_mk (st := s_key_of) l15 c15 k15, PySem.W.mg_of X G a15, fun us hl => match us, hl with | [_, _], _ => rfl⟩⟩,
    ⟨⟨_, _, fun_mk (st := s_read_row) l16 c16 k16, PySem.W.mg_of X G a16, fun us hl => match us, hl with | [_, _], _ => rfl⟩⟩,
    ⟨⟨_, _, fun_mk (st := s_placed) l17 c17 k17, PySem.W.mg_of X G a17, fun us hl => match us, hl with | [_, _, _], _ => rfl⟩⟩,
    ⟨⟨_, _, fun_mk (st := s_changed) l18 c18 k18, PySem.W.mg_of X G a18, fun us hl => match us, hl with | [_, _, _], _ => rfl⟩⟩,
    ⟨⟨_, _, fun_mk (st := s__law_cell_at) l19 c19 k19, PySem.W.mg_of X G a19, fun us hl => match us, hl with | [_, _], _ => rfl⟩⟩,
    ⟨⟨_, _, fun_mk (st := s__law_plain) l20 c20 k20, PySem.W.mg_of X G a20, fun us hl => match us, hl with | [_, _, _], _ => rfl⟩⟩,
    ⟨⟨_, _, fun_mk (st := s__law_turned) l21 c21 k21, PySem.W.mg_of X G a21, fun us hl => match us, hl with | [_, _, _], _ => rfl⟩⟩,
    ⟨⟨_, _, _, _, _, _, _, _, _, l22, c22, k22, PySem.W.mg_of X G a22⟩⟩,
    ⟨⟨_, _, fun_mk (st := s__law_seal_by) l23 c23 k23, PySem.W.mg_of X G a23, fun us hl => match us, hl with | [_], _ => rfl⟩⟩,
    ⟨⟨_, _, fun_mk (st := s__law_draw) l24 c24 k24, PySem.W.mg_of X G a24, fun us hl => match us, hl with | [_, _, _], _ => rfl⟩⟩,
    ⟨⟨_, _, fun_mk (st := s__law_word) l25 c25 k25, PySem.W.mg_of X G a25, fun us hl => match us, hl with | [_], _ => rfl⟩⟩,
    ⟨⟨_, _, fun_mk (st := s__law_split) l26 c26 k26, PySem.W.mg_of X G a26, fun us hl => match us, hl with | [_], _ => rfl⟩⟩,
    ⟨⟨_, _, fun_mk (st := s__law_top) l27 c27 k27, PySem.W.mg_of X G a27, fun us hl => match us, hl with | [_, _], _ => rfl⟩⟩,
    ⟨⟨_, _, fun_mk (st := s__law_path) l28 c28 k28, PySem.W.mg_of X G a28, fun us hl => match us, hl with | [_, _, _], _ => rfl⟩⟩,
    ⟨⟨_, _, fun_mk (st := s__law_growth) l29 c29 k29, PySem.W.mg_of X G a29, fun us hl => match us, hl with | [_, _, _], _ => rfl⟩⟩,
    ⟨⟨_, _, fun_mk (st := s__law_books) l30 c30 k30, PySem.W.mg_of X G a30, fun us hl => match us, hl with | [_], _ => rfl⟩⟩,
    ⟨⟨_, _, fun_mk (st := s__law_leaves) l31 c31 k31, PySem.W.mg_of X G a31, fun us hl => match us, hl with | [_, _], _ => rfl⟩⟩,
    ⟨⟨_, _, fun_mk (st := s__law_head) l32 c32 k32, PySem.W.mg_of X G a32, fun us hl => match us, hl with | [_, _], _ => rfl⟩⟩,
    ⟨⟨_, _, fun_mk (st := s__law_bent) l33 c33 k33, PySem.W.mg_of X G a33, fun us hl => match us, hl with | [_, _, _], _ => rfl⟩⟩,
    ⟨⟨_, _, fun_mk (st := s__law_offered) l34 c34 k34, PySem.W.mg_of X G a34, fun us hl => match us, hl with | [_, _, _, _, _, _], _ => rfl⟩⟩,
    ⟨⟨_, _, fun_mk (st := s__law_judged) l35 c35 k35, PySem.W.mg_of X G a35, fun us hl => match us, hl with | [_, _, _, _, _, _], _ => rfl⟩⟩,
    ⟨⟨_, _, fun_mk (st := s__law_kept) l36 c36 k36, PySem.W.mg_of X G a36, fun us hl => match us, hl with | [_, _, _], _ => rfl⟩⟩,
    ⟨⟨_, _, fun_mk (st := s_law) l37 c37 k37, PySem.W.mg_of X G a37, fun us hl => match us, hl with | [_], _ => rfl⟩⟩,
    ⟨C_BookError, PySem.W.mg_of X G g_BookError⟩,
    ⟨C_Claim, PySem.W.mg_of X G g_Claim⟩,
    ⟨⟨C_BadPaper, PySem.W.mg_of X G g_BadPaper, xP_BadPaper, kP_BadPaper, bP_BadPaper, tP_BadPaper, ⟨hg_BadPaper, hk_BadPaper, bP_BadPaper, hd_BadPaper, ha_BadPaper, hn_BadPaper, ht_BadPaper, hm_BadPaper⟩, ex_BadPaper⟩⟩,
    ⟨⟨C_NoPlace, PySem.W.mg_of X G g_NoPlace, xP_NoPlace, kP_NoPlace, bP_NoPlace, tP_NoPlace, ⟨hg_NoPlace, hk_NoPlace, bP_NoPlace, hd_NoPlace, ha_NoPlace, hn_NoPlace, ht_NoPlace, hm_NoPlace⟩, ex_NoPlace⟩⟩,
    ⟨C_BadRow, C_BookError, ⟨PySem.W.mg_of X G g_BadRow, ⟨⟨_, _, _, _, _, _, _, _, _, _, _, _, _, _, _, xL_BadRow, rfl⟩, sa_BadRow, eC_BadRow, tC_BadRow, kC_BadRow⟩, ⟨ga_BadRow, gg_BadRow, eC_BadRow, hC_BadRow⟩, nf_BadRow, ⟨_, _, fun_mk (st := s_BadRow___init__) li_BadRow ci_BadRow ki_BadRow, fi_BadRow, ti_BadRow, fun us hl => match us, hl with | [_, _], _ => rfl⟩, ⟨ga_BadRow, gg_BadRow, eC_BadRow, hC_BadRow, iac_BadRow, xn_BadRow, xt_BadRow, xm_BadRow⟩, xe_BadRow, PySem.W.mg_of X G g_BookError, bg_BadRow, br_BadRow, bf_BadRow⟩⟩,
    ⟨C_Table, ⟨PySem.W.mg_of X G g_Table,
      ⟨pg_Table, hd_Table, po_Table, sa_Table⟩,
      n_Table_seal,
      n_Table_depth,
      n_Table_held,
      ia_Table,
      in_Table,
      it_Table,
      im_Table,
      ⟨⟨_, _, ⟨⟨_, _, _, _, _, _, _, _, _, _, rfl, lTable0, cTable0, .inr ⟨by simp, dTTable0, _, _, _, rfl, dTable0, rfl, (.cons ⟨_, rfl⟩ .nil)⟩, .inl rfl⟩, kTable0⟩, ⟨mk_Table, aTable0, iTable0, kc_Table⟩⟩⟩,
      ⟨⟨_, _, fun_mk (st := s_Table_asked) lTable1 cTable1 kTable1, ⟨aTable1, iTable1, kTable1⟩, fun us hl => match us, hl with | [_, _], _ => rfl⟩⟩,
      ⟨⟨_, _, fun_mk (st := s_Table_put) lTable2 cTable2 kTable2, ⟨aTable2, iTable2, kTable2⟩, fun us hl => match us, hl with | [_, _, _], _ => rfl⟩⟩,
      ⟨⟨_, _, fun_mk (st := s_Table_cut) lTable3 cTable3 kTable3, ⟨aTable3, iTable3, kTable3⟩, fun us hl => match us, hl with | [_, _], _ => rfl⟩⟩,
      ⟨⟨_, _, fun_mk (st := s_Table_value) lTable4 cTable4 kTable4, ⟨aTable4, iTable4, kTable4⟩, fun us hl => match us, hl with | [_, _], _ => rfl⟩⟩,
      ⟨⟨_, _, fun_mk (st := s_Table_rows) lTable5 cTable5 kTable5, ⟨aTable5, iTable5, kTable5⟩, fun us hl => match us, hl with | [_], _ => rfl⟩⟩,
      ⟨⟨_, _, fun_mk (st := s_Table_head) lTable6 cTable6 kTable6, ⟨aTable6, iTable6, kTable6⟩, fun us hl => match us, hl with | [_], _ => rfl⟩⟩,
      ⟨⟨_, _, fun_mk (st := s_Table_way) lTable7 cTable7 kTable7, ⟨aTable7, iTable7, kTable7⟩, fun us hl => match us, hl with | [_, _], _ => rfl⟩⟩⟩⟩,
    ⟨C_Keeper, ⟨PySem.W.mg_of X G g_Keeper,
      ⟨pg_Keeper, hd_Keeper, po_Keeper, sa_Keeper⟩,
      n_Keeper_seal,
      n_Keeper_depth,
      n_Keeper_texts,
      n_Keeper_tables,
      n_Keeper_leaves,
      ia_Keeper,
      in_Keeper,
      it_Keeper,
      im_Keeper,
      ⟨⟨_, _, ⟨⟨_, _, _, _, _, _, _, _, _, _, rfl, lKeeper0, cKeeper0, .inr ⟨by simp, dTKeeper0, _, _, _, rfl, dKeeper0, rfl, (.cons ⟨_, rfl⟩ .nil)⟩, .inl rfl⟩, kKeeper0⟩, ⟨mk_Keeper, aKeeper0, iKeeper0, kc_Keeper⟩⟩⟩,
      ⟨⟨_, _, fun_mk (st := s_Keeper_add) lKeeper1 cKeeper1 kKeeper1, ⟨aKeeper1, iKeeper1, kKeeper1⟩, fun us hl => match us, hl with | [_, _], _ => rfl⟩⟩,
      ⟨⟨_, _, fun_mk (st := s_Keeper_size) lKeeper2 cKeeper2 kKeeper2, ⟨aKeeper2, iKeeper2, kKeeper2⟩, fun us hl => match us, hl with | [_], _ => rfl⟩⟩,
      ⟨⟨_, _, fun_mk (st := s_Keeper_first) lKeeper3 cKeeper3 kKeeper3, ⟨aKeeper3, iKeeper3, kKeeper3⟩, fun us hl => match us, hl with | [_, _], _ => rfl⟩⟩,
      ⟨⟨_, _, fun_mk (st := s_Keeper_within) lKeeper4 cKeeper4 kKeeper4, ⟨aKeeper4, iKeeper4, kKeeper4⟩, fun us hl => match us, hl with | [_, _, _], _ => rfl⟩⟩,
      ⟨⟨_, _, fun_mk (st := s_Keeper_text) lKeeper5 cKeeper5 kKeeper5, ⟨aKeeper5, iKeeper5, kKeeper5⟩, fun us hl => match us, hl with | [_, _], _ => rfl⟩⟩,
      ⟨⟨_, _, fun_mk (st := s_Keeper_table_head) lKeeper6 cKeeper6 kKeeper6, ⟨aKeeper6, iKeeper6, kKeeper6⟩, fun us hl => match us, hl with | [_, _], _ => rfl⟩⟩,
      ⟨⟨_, _, ⟨⟨_, _, _, _, _, _, _, _, _, _, rfl, lKeeper7, cKeeper7, .inr ⟨by simp, dTKeeper7, _, _, _, rfl, dKeeper7, rfl, (.cons rfl .nil)⟩, .inl rfl⟩, kKeeper7⟩, ⟨aKeeper7, iKeeper7, kKeeper7⟩⟩⟩,
      ⟨⟨_, _, ⟨⟨_, _, _, _, _, _, _, _, _, _, rfl, lKeeper8, cKeeper8, .inr ⟨by simp, dTKeeper8, _, _, _, rfl, dKeeper8, rfl, (.cons rfl .nil)⟩, .inl rfl⟩, kKeeper8⟩, ⟨aKeeper8, iKeeper8, kKeeper8⟩⟩⟩,
      ⟨⟨_, _, ⟨⟨_, _, _, _, _, _, _, _, _, _, rfl, lKeeper9, cKeeper9, .inr ⟨by simp, dTKeeper9, _, _, _, rfl, dKeeper9, rfl, (.cons rfl .nil)⟩, .inl rfl⟩, kKeeper9⟩, ⟨aKeeper9, iKeeper9, kKeeper9⟩⟩⟩,
      ⟨⟨_, _, fun_mk (st := s_Keeper_way) lKeeper10 cKeeper10 kKeeper10, ⟨aKeeper10, iKeeper10, kKeeper10⟩, fun us hl => match us, hl with | [_, _, _], _ => rfl⟩⟩,
      ⟨⟨_, _, ⟨⟨_, _, _, _, _, _, _, _, _, _, rfl, lKeeper11, cKeeper11, .inr ⟨by simp, dTKeeper11, _, _, _, rfl, dKeeper11, rfl, (.cons rfl .nil)⟩, .inl rfl⟩, kKeeper11⟩, ⟨aKeeper11, iKeeper11, kKeeper11⟩⟩⟩⟩⟩,
    ⟨C_Stands, ⟨PySem.W.mg_of X G g_Stands,
      ⟨pg_Stands, hd_Stands, po_Stands, sa_Stands⟩,
      n_Stands_place,
      n_Stands_words,
      n_Stands_table,
      ia_Stands,
      in_Stands,
      it_Stands,
      im_Stands,
      ⟨⟨_, _, fun_mk (st := s_Stands___init__) lStands0 cStands0 kStands0, ⟨mk_Stands, aStands0, iStands0, kc_Stands⟩, fun us hl => match us, hl with | [_, _, _, _], _ => rfl⟩⟩,
      ⟨⟨_, _, fun_mk (st := s_Stands_shown) lStands1 cStands1 kStands1, ⟨aStands1, iStands1, kStands1⟩, fun us hl => match us, hl with | [_, _, _, _, _], _ => rfl⟩⟩,
      ⟨⟨_, _, fun_mk (st := s_Claim_judged) lStands2 cStands2 kStands2, ⟨aStands2, iStands2, kStands2⟩, fun us hl => match us, hl with | [_, _, _, _, _], _ => rfl⟩⟩⟩⟩,
    ⟨C_Grows, ⟨PySem.W.mg_of X G g_Grows,
      ⟨pg_Grows, hd_Grows, po_Grows, sa_Grows⟩,
      n_Grows_old,
      n_Grows_before,
      ia_Grows,
      in_Grows,
      it_Grows,
      im_Grows,
      ⟨⟨_, _, fun_mk (st := s_Grows___init__) lGrows0 cGrows0 kGrows0, ⟨mk_Grows, aGrows0, iGrows0, kc_Grows⟩, fun us hl => match us, hl with | [_, _, _], _ => rfl⟩⟩,
      ⟨⟨_, _, fun_mk (st := s_Grows_shown) lGrows1 cGrows1 kGrows1, ⟨aGrows1, iGrows1, kGrows1⟩, fun us hl => match us, hl with | [_, _, _, _, _], _ => rfl⟩⟩,
      ⟨⟨_, _, fun_mk (st := s_Claim_judged) lGrows2 cGrows2 kGrows2, ⟨aGrows2, iGrows2, kGrows2⟩, fun us hl => match us, hl with | [_, _, _, _, _], _ => rfl⟩⟩⟩⟩,
    ⟨C_Follower, ⟨PySem.W.mg_of X G g_Follower,
      ⟨pg_Follower, hd_Follower, po_Follower, sa_Follower⟩,
      n_Follower_seal,
      n_Follower_count,
      n_Follower_newest,
      ia_Follower,
      in_Follower,
      it_Follower,
      im_Follower,
      ⟨⟨_, _, fun_mk (st := s_Follower___init__) lFollower0 cFollower0 kFollower0, ⟨mk_Follower, aFollower0, iFollower0, kc_Follower⟩, fun us hl => match us, hl with | [_, _], _ => rfl⟩⟩,
      ⟨⟨_, _, fun_mk (st := s_Follower_size) lFollower1 cFollower1 kFollower1, ⟨aFollower1, iFollower1, kFollower1⟩, fun us hl => match us, hl with | [_], _ => rfl⟩⟩,
      ⟨⟨_, _, fun_mk (st := s_Follower_head) lFollower2 cFollower2 kFollower2, ⟨aFollower2, iFollower2, kFollower2⟩, fun us hl => match us, hl with | [_], _ => rfl⟩⟩,
      ⟨⟨_, _, fun_mk (st := s_Follower_take) lFollower3 cFollower3 kFollower3, ⟨aFollower3, iFollower3, kFollower3⟩, fun us hl => match us, hl with | [_, _, _, _], _ => rfl⟩⟩,
      ⟨⟨_, _, fun_mk (st := s_Follower_judge) lFollower4 cFollower4 kFollower4, ⟨aFollower4, iFollower4, kFollower4⟩, fun us hl => match us, hl with | [_, _, _], _ => rfl⟩⟩⟩⟩, ⟨PySem.W.mg_none_of X G z_len, PySem.W.mg_none_of X G z_isinstance, PySem.W.mg_none_of X G z_int, PySem.W.mg_none_of X G z_bool, PySem.W.mg_none_of X G z_list, PySem.W.mg_none_of X G z_tuple, PySem.W.mg_none_of X G z_range, PySem.W.mg_none_of X G z_str, PySem.W.mg_none_of X G z_sorted, PySem.W.mg_none_of X G z_min, PySem.W.mg_none_of X G z_enumerate, PySem.W.mg_none_of X G z_reversed⟩⟩
/-! ### seals that make a tuple of their three things -/
inductive DenP (tf : Str → V → V → List V) (H : Hp) : V → Tm → Prop
  | int (i : Int) : DenP tf H (.int i) (.int i)
  | str (x : Str) (h : txtOk x = true) : DenP tf H (.str x) (.str x)
  | sl {p : Addr} {m : Str} {va vb : V} {a b : Tm} (hm : txtOk m = true) (h : H p = some (.tup (tf m va vb))) (ha : DenP tf H va a) (hb : DenP tf H vb b) : DenP tf H (.ref p) (.sl m a b)
theorem DenP.mono {tf : Str → V → V → List V} {H H' : Hp} (e : Gr H H') {v : V} {t : Tm} (h : DenP tf H v t) : DenP tf H' v t := by
  induction h with
  | int i => exact .int i
  | str x h => exact .str x h
  | sl hm h _ _ iha ihb => exact .sl hm (e.keep _ _ h True.intro fun _ z => nomatch z) iha ihb
def tfP (m : Str) (a b : V) : List V := [.str m, a, b]
def tfT (m : Str) (a b : V) : List V := [.str "seal of", b, a, .str m]
def datP : Tm → PyData
  | .int i => .int i
  | .str x => .str x
  | .sl m a b => .tuple [.str m, datP a, datP b]
def datT : Tm → PyData
  | .int i => .int i
  | .str x => .str x
  | .sl m a b => .tuple [.str "seal of", datT b, datT a, .str m]
theorem DenP.dp {K : PySem.W.Frag} {H : Hp} {v : V} {t : Tm} (h : DenP tfP H v t) : Dp K H v (datP t) ∧ (datP t).canLay0 = true ∧ (datP t).depth ≤ t.dep := by
  induction h with
  | int i => exact ⟨.int i, rfl, Nat.le_refl _⟩
  | str x h => exact ⟨.str x, h, Nat.le_refl _⟩
  | @sl p m va vb a b hm h _ _ iha ihb =>
    obtain ⟨a1, a2, a3⟩ := iha
    obtain ⟨b1, b2, b3⟩ := ihb
    refine ⟨.tup (SqT.of h) (.cons (.str m) (.cons a1 (.cons b1 .nil))), ?_, ?_⟩
    · show (PySem.PyData.strOk m && ((datP a).canLay0 && ((datP b).canLay0 && true))) = true
      rw [show PySem.PyData.strOk m = true from hm, a2, b2]
      rfl
    · show max 0 (max (datP a).depth (max (datP b).depth 0)) + 1 ≤ max a.dep b.dep + 1
      omega
theorem DenP.dt {K : PySem.W.Frag} {H : Hp} {v : V} {t : Tm} (h : DenP tfT H v t) : Dp K H v (datT t) ∧ (datT t).canLay0 = true ∧ (datT t).depth ≤ t.dep := by
  induction h with
  | int i => exact ⟨.int i, rfl, Nat.le_refl _⟩
  | str x h => exact ⟨.str x, h, Nat.le_refl _⟩
  | @sl p m va vb a b hm h _ _ iha ihb =>
    obtain ⟨a1, a2, a3⟩ := iha
    obtain ⟨b1, b2, b3⟩ := ihb
    refine ⟨.tup (SqT.of h) (.cons (.str _) (.cons b1 (.cons a1 (.cons (.str m) .nil)))), ?_, ?_⟩
    · show (PySem.PyData.strOk "seal of" && ((datT b).canLay0 && ((datT a).canLay0 && (PySem.PyData.strOk m && true)))) = true
      rw [show PySem.PyData.strOk m = true from hm, a2, b2]
      decide +kernel
    · show max 0 (max (datT b).depth (max (datT a).depth (max 0 0))) + 1 ≤ max a.dep b.dep + 1
      omega
def plainSys (tf : Str → V → V → List V) (f : Addr) : Sys := ⟨f, fun H v t => DenP tf H v t, fun _ _ => True⟩
theorem goodP {K : PySem.W.Frag} (f : Addr) : (plainSys tfP f).Good K :=
  ⟨fun e h => h.mono e, fun _ _ => trivial, fun _ _ => trivial, fun i _ => .int i, fun x _ h => .str x h, fun h h' => ⟨_, DenP.dp h |>.1, DenP.dp h' |>.1, (DenP.dp (K := K) h).2.1, (DenP.dp (K := K) h).2.2⟩⟩
theorem goodT {K : PySem.W.Frag} (f : Addr) : (plainSys tfT f).Good K :=
  ⟨fun e h => h.mono e, fun _ _ => trivial, fun _ _ => trivial, fun i _ => .int i, fun x _ h => .str x h, fun h h' => ⟨_, DenP.dt h |>.1, DenP.dt h' |>.1, (DenP.dt (K := K) h).2.1, (DenP.dt (K := K) h).2.2⟩⟩
section
variable {P : Program} {w : World} {K : PySem.W.Frag} {mg : Str → Option Value} {base : Heap}
theorem fnAt_fun {x qual : Str} {st : Stmt} {f : Addr} {fd : FuncData} (F : L2.Fun K x qual st f fd) {h : Heap} (X : K.In h) : PySem.W.FnAt f h := by
  obtain ⟨oc, od, kV, doc, pm, an, cdv, ct, osl, rfl, lk, _⟩ := F.ex
  exact ⟨_, _, _, _, X _ _ lk⟩
def spTup (tf : Str → V → V → List V) : Sp := fun vs H Q _ => ∃ m a b, vs = [.str m, a, b] ∧ ∀ p, H p = none → Q (.ref p) (upd H p (.tup (tf m a b)))
theorem held_plain {tf : Str → V → V → List V} {x : Str} {st : Stmt} {ps : List Str} {f : Addr} {fd : FuncData} (F : L2.Fun K x x st f fd) (b : ∀ us : List Value, us.length = ps.length → bindArgs fd ⟨us, []⟩ = pure (ps.zip us)) (G : FnOk P w K mg base L2.CX0 1 f fd ps (spTup tf)) :
    HeldSl P w K mg base 1 (plainSys tf f) := by
  refine ⟨fun H h r X _ _ => fnAt_fun F X, fun A outer s H us vs Q E hr e0 rv h => ?_⟩
  obtain ⟨r, m, a, b', va, vb, rfl, hm, _, ha, hb, q⟩ := h
  have hsp : spTup tf [.str m, va, vb] H Q E := ⟨m, va, vb, rfl, fun p hp => q _ _ (Ext.new hp) True.intro (.sl hm upd_same (ha.mono (Kp.new hp).gr) (hb.mono (Kp.new hp).gr))⟩
  have hl : us.length = ps.length := by rw [← rv.length]; exact G.len _ _ _ _ hsp
  exact G.run A outer s H ⟨us, []⟩ us _ Q E hr e0 (.of_eq (b us hl)) rv hsp
/-! ### a seal that numbers its threes -/
def tab (ks : List (List Key)) : List (List Key × V) := ks.zipIdx.map fun p => (p.1, V.int ((p.2 : Nat) : Int))
theorem tab_snoc (ks : List (List Key)) (k : List Key) : tab (ks ++ [k]) = tab ks ++ [(k, V.int ((ks.length : Nat) : Int))] := by
  unfold tab
  rw [List.zipIdx_append, List.map_append]
  simp
theorem tab_len (ks : List (List Key)) : (tab ks).length = ks.length := by
  unfold tab
  rw [List.length_map, List.length_zipIdx]
theorem valV_app {κ : Type} [DecidableEq κ] (k : κ) : ∀ (l r : List (κ × V)) {v : V}, valV l k = some v → valV (l ++ r) k = some v
  | [], _, _, h => by cases h
  | p :: l, r, v, h => by
    by_cases e : p.1 = k
    · rw [valV_pos e] at h
      rw [List.cons_append, valV_pos e]
      exact h
    · rw [valV_neg e] at h
      rw [List.cons_append, valV_neg e]
      exact valV_app k l r h
theorem tab_at {ks : List (List Key)} {k : List Key} {v : V} (h : valV (tab ks) k = some v) : ∃ n : Nat, v = .int (n : Int) ∧ ks[n]? = some k := by
  unfold valV at h
  obtain ⟨p, hp, rfl⟩ := Option.map_eq_some_iff.mp h
  have h1 := List.mem_of_find?_eq_some hp
  have h2 : decide (p.1 = k) = true := List.find?_some (p := fun kv : List Key × V => decide (kv.1 = k)) hp
  obtain ⟨q, hq, rfl⟩ := List.mem_map.mp h1
  refine ⟨q.2, rfl, ?_⟩
  have h3 : q.1 = k := of_decide_eq_true h2
  have h4 := List.mk_mem_zipIdx_iff_getElem?.mp (show (q.1, q.2) ∈ ks.zipIdx from hq)
  rw [h4, h3]
inductive DenN (kvs : List (List Key × V)) : Key → Tm → Prop
  | int (i : Int) : DenN kvs (.inl i) (.int i)
  | str (x : Str) (h : txtOk x = true) : DenN kvs (.inr x) (.str x)
  | sl {m : Str} {ka kb : Key} {a b : Tm} {n : Int} (ha : DenN kvs ka a) (hb : DenN kvs kb b) (h : valV kvs [.inr m, ka, kb] = some (.int n)) : DenN kvs (.inl n) (.sl m a b)
theorem DenN.app {kvs more : List (List Key × V)} {k : Key} {t : Tm} (h : DenN kvs k t) : DenN (kvs ++ more) k t := by
  induction h with
  | int i => exact .int i
  | str x h => exact .str x h
  | sl _ _ h iha ihb => exact .sl iha ihb (valV_app _ _ _ h)
theorem DenN.fn {kvs : List (List Key × V)} {k : Key} {t : Tm} (h : DenN kvs k t) : ∀ {k'}, DenN kvs k' t → k = k' := by
  induction h with
  | int i => intro k' h'; cases h'; rfl
  | str x h => intro k' h'; cases h'; rfl
  | sl _ _ h iha ihb =>
    intro k' h'
    cases h' with
    | sl ha' hb' h' =>
      rw [← iha ha', ← ihb hb', h] at h'
      cases h'
      rfl
theorem DenN.lay {kvs : List (List Key × V)} {k : Key} {t : Tm} (h : DenN kvs k t) (K : PySem.W.Frag) (H : Hp) : ∃ d, Dp K H (kV k) d ∧ d.canLay0 = true ∧ d.depth = 0 := by
  cases h with
  | int i => exact ⟨.int i, .int i, rfl, rfl⟩
  | str x h => exact ⟨.str x, .str x, h, rfl⟩
  | sl _ _ _ => exact ⟨.int _, .int _, rfl, rfl⟩
/-- the cell at c holds the dict at d -/
def CellO (c d : Addr) : HO := .ext fun h => h.IsCell c (some (.ref d))
theorem cellO_at {H : Hp} {h : Heap} {c d : Addr} (hok : HOk P w H h) (e : H c = some (CellO c d)) : h.IsCell c (some (.ref d)) := (hok c _ e).1
theorem cellO_ok {H : Hp} {h : Heap} {c d : Addr} (e : h.IsCell c (some (.ref d))) : ObjOk P w H h c (CellO c d) := by
  obtain ⟨o, ho, hd⟩ := id e
  exact ⟨e, ⟨o, ho⟩, fun h1 h2 ⟨o', ho', hd'⟩ st => ⟨o', st _ ho', hd'⟩⟩
structure NumD where
  f : Addr
  q : Str
  c : Addr
  c0 : Addr
  d : Addr
abbrev NumD.F (N : NumD) : NdefX.NF := NdefX.NF.of s__law_numbering__law_numbered "_law_numbered" N.q [("_law_told", N.c0)] N.c
structure NumOk (N : NumD) (H : Hp) (r : Nat) : Prop where
  dict : ∃ ks, H N.d = some (.dT (tab ks)) ∧ ks.length + r ≤ sizeLine
  fn : H N.f = some (NdefX.FnO N.f N.F)
  code : H N.c = some (LamX.CodeO N.c N.q)
  cell : H N.c0 = some (CellO N.c0 N.d)
def numSys (N : NumD) : Sys := ⟨N.f, fun H v t => ∃ kvs k, H N.d = some (.dT kvs) ∧ DenN kvs k t ∧ v = kV k, fun H r => NumOk N H r⟩
theorem goodN (N : NumD) : (numSys N).Good K := by
  refine ⟨?_, ?_, ?_, ?_, ?_, ?_⟩
  · rintro H H' v t e ⟨kvs, k, hd, hk, rfl⟩
    obtain ⟨more, e1⟩ := e.grow _ _ hd
    exact ⟨_, k, e1, hk.app, rfl⟩
  · rintro H H' r e ⟨⟨ks, h1, h2⟩, h3, h4, h5⟩
    exact ⟨⟨ks, e _ _ h1 True.intro, h2⟩, e _ _ h3 True.intro, e _ _ h4 True.intro, e _ _ h5 True.intro⟩
  · rintro H r r' ⟨⟨ks, h1, h2⟩, h3, h4, h5⟩ hr
    exact ⟨⟨ks, h1, by omega⟩, h3, h4, h5⟩
  · rintro H r i ⟨⟨ks, h1, h2⟩, _⟩
    exact ⟨_, .inl i, h1, .int i, rfl⟩
  · rintro H r x ⟨⟨ks, h1, h2⟩, _⟩ hx
    exact ⟨_, .inr x, h1, .str x hx, rfl⟩
  · rintro H v v' t ⟨kvs, k, h1, h2, rfl⟩ ⟨kvs', k', h1', h2', rfl⟩
    rw [h1] at h1'
    cases h1'
    have e := h2.fn h2'
    subst e
    obtain ⟨d, a, b, c⟩ := h2.lay K H
    exact ⟨d, a, a, b, by omega⟩
/-- its own promise: ws, what its cell holds -/
def spNumd (ws : List (Option V)) : Sp := fun vs H Q _ => ∃ (d : Addr) (ks : List (List Key)) (m : Str) (ka kb : Key), ws = [some (.ref d)] ∧ vs = [.str m, kV ka, kV kb] ∧ H d = some (.dT (tab ks)) ∧ ks.length < sizeLine ∧
  ∀ (n : Int) (H' : Hp) (more : List (List Key)), Ext H H' → H' d = some (.dT (tab (ks ++ more))) → more.length ≤ 1 → valV (tab (ks ++ more)) [.inr m, ka, kb] = some (.int n) → Q (.int n) H'
theorem scN : NdefX.NScope N__law_numbering__law_numbered ["_law_mark", "_law_one", "_law_two"] ["_law_told"] (defScope s__law_numbering__law_numbered) := NdefX.nscope_by (by decide +kernel)
theorem nok_num (mlen : mg "len" = none) (N : NumD) : NdefX.NOk P w K mg base L2.CX0 1 N.f N.F ["_law_mark", "_law_one", "_law_two"] ["_law_told"] spNumd := by
  refine NdefX.nok_of (N := N__law_numbering__law_numbered) scN (fun _ _ _ us hl => match us, hl with | [_, _, _], _ => rfl) (fun ws vs H Q E h => ?_) (fun A outer s H vs ws Q E hr hf hc hw h => ?_)
  · obtain ⟨d, ks, m, ka, kb, _, rfl, _⟩ := h
    rfl
  obtain ⟨d, ks, m, ka, kb, rfl, rfl, hd, hl, q⟩ := h
  have hu : (NdefX.ncx L2.CX0 P w K mg base N__law_numbering__law_numbered N.F N.f A outer s H E).A.units + 1 < cLine := hu_of hr
  refine ⟨_, (pss_cons (ps_if (pt_cmp (pc_dnotin hu (pe_tup (pa_cons (pv 0) (pa_cons (pv 1) (pa_cons (pv 2) pa_nil)))) (pv 3))) (pss_one (ps_dput hu (pv 3) (pe_tup (pa_cons (pv 0) (pa_cons (pv 1) (pa_cons (pv 2) pa_nil)))) (pe_callB call_len_dT rfl mlen PySem.boot_len (pa_cons (pv 3) pa_nil)) rfl)) pss_nil)
  (pss_one (ps_ret (pe_dget hu (pv 3) (pe_tup (pa_cons (pv 0) (pa_cons (pv 1) (pa_cons (pv 2) pa_nil)))) (fun _ _ => rfl))))), ?_⟩
  have ek : ([.str m, kV ka, kV kb] : List V) = ([.inr m, ka, kb] : List Key).map kV := rfl
  have hp0 : ∀ p : Addr, H p = none → d ≠ p := fun p hp => ne_of_none hd hp
  refine ⟨_, rfl, _, rfl, _, rfl, (by show 3 ≤ sizeLine; decide), fun p hp => ?_⟩
  have d1 : upd H p (.tup [.str m, kV ka, kV kb]) d = some (.dT (tab ks)) := by
    rw [upd_ne (hp0 p hp)]
    exact hd
  refine ⟨_, rfl, d, _, rfl, DGet.t (k := [.inr m, ka, kb]) d1 upd_same, _, rfl, ?_⟩
  cases hv : valV (tab ks) [.inr m, ka, kb] with
  | some v =>
    obtain ⟨n, rfl, _⟩ := tab_at hv
    refine iteF ?_
    refine ⟨_, rfl, _, rfl, _, rfl, _, rfl, (by show 3 ≤ sizeLine; decide), fun p2 hp2 => ?_⟩
    have d2 : upd (upd H p (.tup [.str m, kV ka, kV kb])) p2 (.tup [.str m, kV ka, kV kb]) d = some (.dT (tab ks)) := by
      rw [upd_ne (ne_of_none d1 hp2)]
      exact d1
    refine ⟨d, .int n, rfl, ?_, ?_⟩
    · have g := DGet.t (k := [.inr m, ka, kb]) d2 upd_same
      rw [hv] at g
      exact g
    · exact q n _ [] ((Ext.new hp).trans (Ext.new hp2)) (by rw [List.append_nil]; exact d2) (Nat.zero_le _) (by rw [List.append_nil]; exact hv)
  | none =>
    refine iteT ?_
    refine ⟨_, rfl, d, _, rfl, d1, ?_⟩
    refine ⟨_, rfl, _, rfl, _, rfl, _, rfl, (by show 3 ≤ sizeLine; decide), fun p2 hp2 => ?_⟩
    have d2 : upd (upd H p (.tup [.str m, kV ka, kV kb])) p2 (.tup [.str m, kV ka, kV kb]) d = some (.dT (tab ks)) := by
      rw [upd_ne (ne_of_none d1 hp2)]
      exact d1
    refine ⟨d, _, rfl, DPut.t (k := [.inr m, ka, kb]) d2 upd_same (by rw [tab_len]; exact hl), ?_⟩
    rw [putK_new _ hv, tab_len, ← tab_snoc]
    have x2 : Ext H (upd (upd H p (.tup [.str m, kV ka, kV kb])) p2 (.tup [.str m, kV ka, kV kb])) := (Ext.new hp).trans (Ext.new hp2)
    have x3 : Ext H (upd (upd (upd H p (.tup [.str m, kV ka, kV kb])) p2 (.tup [.str m, kV ka, kV kb])) d (.dT (tab (ks ++ [[.inr m, ka, kb]])))) := by
      refine ⟨fun a o ha hn => ?_, fun a kvs ha => ?_⟩
      · rw [upd_ne (show a ≠ d from fun z => by rw [z, hd] at ha; exact hn _ (Option.some.inj ha).symm)]
        exact x2.keep a o ha hn
      · by_cases e : a = d
        · subst e
          rw [hd] at ha
          cases ha
          exact ⟨[(_, _)], by rw [upd_same, tab_snoc]⟩
        · rw [upd_ne e]
          exact x2.grow a kvs ha
    have d3 : upd (upd (upd H p (.tup [.str m, kV ka, kV kb])) p2 (.tup [.str m, kV ka, kV kb])) d (.dT (tab (ks ++ [[.inr m, ka, kb]]))) d = some (.dT (tab (ks ++ [[.inr m, ka, kb]]))) := upd_same
    generalize upd (upd (upd H p (.tup [.str m, kV ka, kV kb])) p2 (.tup [.str m, kV ka, kV kb])) d (.dT (tab (ks ++ [[.inr m, ka, kb]]))) = H3 at x3 d3 ⊢
    refine ⟨_, rfl, _, rfl, _, rfl, _, rfl, (by show 3 ≤ sizeLine; decide), fun p3 hp3 => ?_⟩
    have d4 : upd H3 p3 (.tup [.str m, kV ka, kV kb]) d = some (.dT (tab (ks ++ [[.inr m, ka, kb]]))) := by
      rw [upd_ne (ne_of_none d3 hp3)]
      exact d3
    have hv3 : valV (tab (ks ++ [[.inr m, ka, kb]])) [.inr m, ka, kb] = some (.int ((ks.length : Nat) : Int)) := by
      rw [tab_snoc, valV_snoc _ _ _ _ hv, if_pos rfl]
    refine ⟨d, .int ((ks.length : Nat) : Int), rfl, ?_, ?_⟩
    · have g := DGet.t (k := [.inr m, ka, kb]) d4 upd_same
      rw [hv3] at g
      exact g
    · exact q _ _ _ (x3.trans (Ext.new hp3)) d4 (Nat.le_refl _) hv3
/-- its cell set aside for the call -/
def er (H : Hp) (c : Addr) : Hp := fun b => if b = c then none else H b
theorem er_ne {H : Hp} {c b : Addr} (h : b ≠ c) : er H c b = H b := if_neg h
theorem er_same {H : Hp} {c : Addr} : er H c c = none := if_pos rfl
theorem er_some {H : Hp} {c b : Addr} {o : HO} (h : er H c b = some o) : b ≠ c ∧ H b = some o := by
  by_cases e : b = c
  · rw [e, er_same] at h
    cases h
  · rw [er_ne e] at h
    exact ⟨e, h⟩
theorem cell_ne_own {H : Hp} {c d a b : Addr} (e : H c = some (CellO c d)) (h : H b = some (.own a)) : b ≠ c := fun z => by
  rw [z, e] at h
  have h : HO.ext _ = HO.own a := Option.some.inj h
  cases h
theorem cell_ne_tup {H : Hp} {c d b : Addr} {xs : List V} (e : H c = some (CellO c d)) (h : H b = some (.tup xs)) : b ≠ c := fun z => by
  rw [z, e] at h
  have h : HO.ext _ = HO.tup xs := Option.some.inj h
  cases h
theorem er_hok {H : Hp} {h : Heap} {c d : Addr} (e : H c = some (CellO c d)) (ok : HOk P w H h) : HOk P w (er H c) h := fun a o ha => by
  obtain ⟨n, ha'⟩ := er_some ha
  exact (ok a o ha').stay (fun _ _ _ q => q) (fun b hb => by rw [er_ne (cell_ne_own e hb)]; exact hb) fun b xs hb => by rw [er_ne (cell_ne_tup e hb)]; exact hb
theorem held_num (mlen : mg "len" = none) (N : NumD) : HeldSl P w K mg base 1 (numSys N) := by
  refine ⟨fun H h r X ok h1 => ?_, fun A outer s H us vs Q E hr e0 rv h => ?_⟩
  · obtain ⟨od, sl, doc, pm, ctv, e⟩ := NdefX.fnO_at ok h1.fn
    exact ⟨_, _, _, _, e⟩
  obtain ⟨r, m, a, b, va, vb, rfl, hm, ok, ha, hb, q⟩ := h
  obtain ⟨⟨ks, hd, hl⟩, hf, hc, hcell⟩ := id ok
  obtain ⟨kvs, ka, hd1, hka, rfl⟩ := ha
  obtain ⟨kvs', kb, hd2, hkb, rfl⟩ := hb
  rw [hd] at hd1 hd2
  cases hd1
  cases hd2
  have isC := cellO_at e0.hok hcell
  have nf : N.f ≠ N.c0 := fun z => by
    obtain ⟨od, sl, doc, pm, ctv, e⟩ := NdefX.fnO_at e0.hok hf
    obtain ⟨o, e', d'⟩ := id isC
    rw [z, e'] at e
    cases e
    cases d'
  have nc : N.c ≠ N.c0 := fun z => by
    obtain ⟨c, oc, us, t, e1, e2, e3, e4⟩ := NdefX.codeO_at e0.hok hc
    cases e1
    obtain ⟨o, e', d'⟩ := id isC
    rw [z, e'] at e2
    cases e2
    rw [d'] at e3
    cases e3
  have nd : N.d ≠ N.c0 := fun z => by
    rw [z, hcell] at hd
    have hd : HO.ext _ = HO.dT _ := Option.some.inj hd
    cases hd
  have e1 : Env0 P w K mg base A outer s (er H N.c0) := by
    refine ⟨e0.frames, e0.mod, fun b o hb => ⟨(e0.bs b o hb).1, ?_⟩, e0.bsz, e0.funs, fun b hb => ?_, er_hok hcell e0.hok, e0.bare⟩
    · by_cases z : b = N.c0
      · rw [z, er_same]
      · rw [er_ne z]
        exact (e0.bs b o hb).2
    · by_cases z : b = N.c0
      · rw [z, er_same]
      · rw [er_ne z]
        exact e0.frf b hb
  have lk : ∀ {y : Str} {c : Addr}, List.lookup y N.F.cl = some c → y = "_law_told" ∧ c = N.c0 := fun {y c} h => by
    have h : List.lookup y [(("_law_told" : Str), N.c0)] = some c := h
    by_cases z : y = "_law_told"
    · subst z
      simp at h
      exact ⟨rfl, h.symm⟩
    · have z' : (y == ("_law_told" : Str)) = false := beq_eq_false_iff_ne.mpr z
      unfold List.lookup at h
      rw [z'] at h
      cases h
  have CA : NdefX.CellsAt N.F.cl ["_law_told"] [some (.ref N.d)] s.heap (er H N.c0) := by
    refine ⟨rfl, fun y c h => ?_, fun x y c h1 h2 => (lk h1).1.trans (lk h2).1.symm, fun i y h => ?_⟩
    · rw [(lk h).2]
      exact ⟨er_same, _, isC⟩
    · cases i with
      | zero =>
        cases h
        refine ⟨N.c0, by simp [List.lookup, NdefX.NF.of], fun v hv => ?_⟩
        cases hv
        exact ⟨_, rfl, isC⟩
      | succ i => simp at h
  have nfr : N.c0 ∉ frs outer := fun z => by
    have := e0.frf _ z
    rw [hcell] at this
    cases this
  refine codeAny_mono ((nok_num mlen N).run A outer s (er H N.c0) us _ [some (.ref N.d)] (fun v H' => Q v (upd H' N.c0 (CellO N.c0 N.d))) E hr e1 (by rw [er_ne nf]; exact hf) (by rw [show N.F.c = N.c from rfl, er_ne nc]; exact hc) CA rv
    ⟨N.d, ks, m, ka, kb, rfl, rfl, by rw [er_ne nd]; exact hd, by omega, fun n H' more x hd' hmore hv => ?_⟩) fun res s' hq => ?_
  · have kp : ∀ b o, H b = some o → b ≠ N.c0 → (∀ kvs, o ≠ .dT kvs) → H' b = some o := fun b o hb hn hn2 => x.keep b o (by rw [er_ne hn]; exact hb) hn2
    refine q _ _ ⟨fun b o hb hn => ?_, fun b kvs hb => ?_⟩ ⟨⟨ks ++ more, ?_, ?_⟩, ?_, ?_, upd_same⟩ ⟨_, .inl n, by rw [upd_ne nd]; exact hd', ?_, rfl⟩
    · by_cases z : b = N.c0
      · rw [z, upd_same]
        rw [z, hcell] at hb
        exact hb
      · rw [upd_ne z]
        exact kp b o hb z hn
    · have z : b ≠ N.c0 := fun z => by
        rw [z, hcell] at hb
        have hb : HO.ext _ = HO.dT _ := Option.some.inj hb
        cases hb
      rw [upd_ne z]
      exact x.grow b kvs (by rw [er_ne z]; exact hb)
    · rw [upd_ne nd]
      exact hd'
    · rw [List.length_append]
      omega
    · rw [upd_ne nf]
      exact kp _ _ hf nf fun _ z => HO.noConfusion z
    · rw [upd_ne nc]
      exact kp _ _ hc nc fun _ z => HO.noConfusion z
    · have t : ∀ {k t}, DenN (tab ks) k t → DenN (tab (ks ++ more)) k t := fun {k t} h => by
        obtain ⟨m2, e2⟩ := x.grow N.d (tab ks) (by rw [er_ne nd]; exact hd)
        rw [hd'] at e2
        have e3 : tab (ks ++ more) = tab ks ++ m2 := by
          have e2 := Option.some.inj e2
          injection e2
        rw [e3]
        exact h.app
      exact .sl (t hka) (t hkb) hv
  · cases res with
    | error e => exact hq
    | ok fl =>
      cases fl with
      | next => exact hq
      | brk => exact hq
      | cont => exact hq
      | ret u =>
        obtain ⟨v, H', os, bare, un, hok, rvu, q'⟩ := hq
        have nH : ∀ b, H b = none → b ≠ N.c0 := fun b hb z => by
          rw [z, hcell] at hb
          cases hb
        have ern : ∀ b, H b = none → er H N.c0 b = none := fun b hb => by
          rw [er_ne (nH b hb)]
          exact hb
        obtain ⟨oc, hoc, hod⟩ := id isC
        have hH' : H' N.c0 = none := un.free _ oc hoc er_same (by simp)
        have hcs : s'.heap.get? N.c0 = some oc := un.keep _ oc hoc er_same nfr (by simp)
        refine ⟨v, upd H' N.c0 (CellO N.c0 N.d), os, bare, ⟨fun b o e n hb hx => un.keep b o e (ern b n) hb hx, fun b o e n hb hx => un.slot b o e (ern b n) hb hx, fun b o e n hx => ?_, un.there, fun b xs e => ?_, fun b o u e => ?_, fun b ps e => ?_⟩, fun b u e => ?_, rvu, q'⟩
        · rw [upd_ne (nH b n)]
          exact un.free b o e (ern b n) hx
        · have z := cell_ne_tup hcell e
          rw [upd_ne z]
          exact un.tups b xs (by rw [er_ne z]; exact e)
        · have z : b ≠ N.c0 := fun z => by
            rw [z, hcell] at e
            have e : HO.ext _ = HO.frz _ _ := Option.some.inj e
            cases e
          rw [upd_ne z]
          exact un.frzs b o u (by rw [er_ne z]; exact e)
        · have z : b ≠ N.c0 := fun z => by
            rw [z, hcell] at e
            have e : HO.ext _ = HO.tbl _ := Option.some.inj e
            cases e
          obtain ⟨more, hm⟩ := un.tbls b ps (by rw [er_ne z]; exact e)
          exact ⟨more, by rw [upd_ne z]; exact hm⟩
        · by_cases z : b = N.c0
          · rw [z, upd_same] at e
            cases e
            rw [z]
            exact cellO_ok ⟨oc, hcs, hod⟩
          · rw [upd_ne z] at e
            exact (hok b u e).stay (fun _ _ _ q => q) (fun b hb => by rw [upd_ne (ne_of_none hb hH')]; exact hb) fun b xs hb => by rw [upd_ne (ne_of_none hb hH')]; exact hb
end

/-! ### the three seals, by the law's own defs -/
section
variable {P : Program} {w : World} {K : PySem.W.Frag} {mg : Str → Option Value} {base : Heap}
theorem fn_plain {f : Addr} {fd : FuncData} (F : L2.Fun K "_law_plain" "_law_plain" s__law_plain f fd) : FnOk P w K mg base L2.CX0 1 f fd ["_law_mark", "_law_one", "_law_two"] (spTup tfP) := by
  refine F.ok sc__law_plain (fun vs H Q E h => ?_) (fun cdv A outer s H vs Q E hr h => ?_)
  · obtain ⟨m, a, b, rfl, _⟩ := h
    rfl
  obtain ⟨m, a, b, rfl, q⟩ := h
  refine ⟨_, (pss_one (ps_ret (pe_tup (pa_cons (pv 0) (pa_cons (pv 1) (pa_cons (pv 2) pa_nil)))))), ?_⟩
  exact ⟨_, rfl, _, rfl, _, rfl, (by show 3 ≤ sizeLine; decide), fun p hp => q p hp⟩
theorem fn_turned {f : Addr} {fd : FuncData} (F : L2.Fun K "_law_turned" "_law_turned" s__law_turned f fd) : FnOk P w K mg base L2.CX0 1 f fd ["_law_mark", "_law_one", "_law_two"] (spTup tfT) := by
  refine F.ok sc__law_turned (fun vs H Q E h => ?_) (fun cdv A outer s H vs Q E hr h => ?_)
  · obtain ⟨m, a, b, rfl, _⟩ := h
    rfl
  obtain ⟨m, a, b, rfl, q⟩ := h
  refine ⟨_, (pss_one (ps_ret (pe_tup (pa_cons pe_str (pa_cons (pv 2) (pa_cons (pv 1) (pa_cons (pv 0) pa_nil))))))), ?_⟩
  exact ⟨_, rfl, _, rfl, _, rfl, (by show 4 ≤ sizeLine; decide), fun p hp => q p hp⟩
/-- the three of them -/
def Fam3 (mg : Str → Option Value) : Sys → Prop := fun S => (∃ f, mg "_law_plain" = some (.ref f) ∧ S = plainSys tfP f) ∨ (∃ f, mg "_law_turned" = some (.ref f) ∧ S = plainSys tfT f) ∨ ∃ N : NumD, S = numSys N
theorem sla3 {cc : Addr} (T : Txt K mg cc) : SlA P w K mg base (Fam3 mg) := by
  obtain ⟨fP, fdP, FP, mP, bP⟩ := T.d__law_plain.ex
  obtain ⟨fT, fdT, FT, mT, bT⟩ := T.d__law_turned.ex
  refine ⟨fun {S} h => ?_, fun S h => ?_⟩
  · rcases h with ⟨f, _, rfl⟩ | ⟨f, _, rfl⟩ | ⟨N, rfl⟩
    · exact goodP f
    · exact goodT f
    · exact goodN N
  · rcases h with ⟨f, m, rfl⟩ | ⟨f, m, rfl⟩ | ⟨N, rfl⟩
    · rw [mP] at m
      cases m
      exact held_plain FP bP (fn_plain FP)
    · rw [mT] at m
      cases m
      exact held_plain FT bT (fn_turned FT)
    · exact held_num T.Z.len N
/-- its making: the table at PT is empty before -/
def spNumg (PT : Addr) : Sp := fun vs H Q _ => vs = [] ∧ H PT = some (.tbl #[]) ∧ ∀ (N : NumD) (H' : Hp), LamX.ExtN H H' → NumOk N H' sizeLine → Q (.ref N.f) H'
theorem fn_numbering {f c PT : Addr} {kV doc pm ct oc : Value} {an od : Option Addr} {osl : Array (Option Value)} (TB : LamX.TabB base mg c PT)
    (lk : K.lookup f = some ⟨oc, od, .func (PySem.W.fnOf "_law_numbering" "_law_numbering" (defArgs s__law_numbering) (defBody s__law_numbering) (defScope s__law_numbering) .none kV doc pm an (.ref c) ct), osl⟩) (hcd : PySem.W.codeIn K (.ref c) "_law_numbering" = true) :
    FnOk P w K mg base L2.CX0 1 f (PySem.W.fnOf "_law_numbering" "_law_numbering" (defArgs s__law_numbering) (defBody s__law_numbering) (defScope s__law_numbering) .none kV doc pm an (.ref c) ct) [] (spNumg PT) := by
  refine ⟨fun vs H Q E h => by rw [h.1] <;> rfl, fun A outer s H args us vs Q E hr e0 hb r hsp => ?_⟩
  obtain ⟨rfl, hPT, q⟩ := hsp
  have KX : K.In s.heap := e0.mod.kin.keeps fun b o e => (e0.bs b o e).1
  have lim : s.heap.NoLimit := e0.mod.nolimit.keeps fun b o e => (e0.bs b o e).1
  refine codeAny_call_function hr.depth (KX _ _ lk) rfl sc__law_numbering.co sc__law_numbering.gen rfl (PySem.W.codeRec_of KX hcd) (hb _ _ _ _ ?_)
  refine wpAny_newFunctionEnv_cells sc__law_numbering.kind (fun ⟨n, v⟩ hy => by simp at hy) fun env he s1 x => ?_
  subst he
  refine ⟨lim.keeps x.toInCall.keep, codeAny_func ?_⟩
  have I : Inv (cxOf L2.CX0 P w K mg base N__law_numbering "_law_numbering" (defScope s__law_numbering) f (.ref c) A outer s H E) [] (start N__law_numbering []) H s1 := inv_start sc__law_numbering hr.hd e0 rfl r x
  have b3 : defBody s__law_numbering = [(defBody s__law_numbering).getD 0 (.Pass ⟨0, 0, 0, 0⟩), inDef s__law_numbering 1, (defBody s__law_numbering).getD 2 (.Pass ⟨0, 0, 0, 0⟩)] := rfl
  refine wpAny_mono (Q := fun fl s' => ∃ u, fl = .ret u ∧ CE outer P w H s Q u s') ?_ (fun fl s' hs => ?_) fun e s' hs => hs
  · rw [b3]
    have hfree : NdefX.ndefB (defScope s__law_numbering) (C8.fnScope s__law_numbering__law_numbered) ["_law_told"] = true := by decide +kernel
    have e1 : PS (cxOf L2.CX0 P w K mg base N__law_numbering "_law_numbering" (defScope s__law_numbering) f (.ref c) A outer s H E) ((defBody s__law_numbering).getD 0 (.Pass ⟨0, 0, 0, 0⟩)) (tAsg tDNewT (gName 1)) := ps_set (i := 1) sc__law_numbering.nd rfl (Or.inr rfl) pe_dnewT
    have e2 := NdefX.ps_ndefS (X := cxOf L2.CX0 P w K mg base N__law_numbering "_law_numbering" (defScope s__law_numbering) f (.ref c) A outer s H E) (st := s__law_numbering__law_numbered) (name := "_law_numbered") (i := 0) (T := [(PT, fun _ _ => (envOfC "_law_numbering" (defScope s__law_numbering) s.heap.objs.size f (.ref c)).qual ++ "_law_numbered")]) (c := c) (P := PT)
      (nm := fun _ _ => (envOfC "_law_numbering" (defScope s__law_numbering) s.heap.objs.size f (.ref c)).qual ++ "_law_numbered") rfl TB rfl List.mem_cons_self rfl (fun p hp _ => by rw [List.mem_singleton.mp hp]) (NdefX.ndef_free hfree) rfl rfl rfl sc__law_numbering.nd rfl (Or.inl rfl) (Or.inl rfl)
    have e3 : PE (cxOf L2.CX0 P w K mg base N__law_numbering "_law_numbering" (defScope s__law_numbering) f (.ref c) A outer s H E) (match (defBody s__law_numbering).getD 2 (.Pass ⟨0, 0, 0, 0⟩) with | .Return (some e) _ => e | _ => .Name "" ⟨0, 0, 0, 0⟩) (tVar 0) := pv 0
    have b4 : ∃ pos : Pos, (defBody s__law_numbering).getD 2 (.Pass ⟨0, 0, 0, 0⟩) = .Return (some (match (defBody s__law_numbering).getD 2 (.Pass ⟨0, 0, 0, 0⟩) with | .Return (some e) _ => e | _ => .Name "" ⟨0, 0, 0, 0⟩)) pos := ⟨_, rfl⟩
    obtain ⟨pos, b4⟩ := b4
    refine wpAny_execs_cons (thn (e1.run [] s1 _ H ⟨fun σ H' => ∃ d, H d = none ∧ σ = [none, some (.ref d)] ∧ H' = upd H d (.dT []), fun _ _ => False, fun _ _ => False, fun _ _ => False⟩ I fun d nd => ⟨d, nd, rfl, rfl⟩) fun fl s2 h2 => ?_)
    cases fl with
    | ret v => obtain ⟨_, _, _, _, _, z⟩ := h2; exact z.elim
    | brk => obtain ⟨_, _, _, z⟩ := h2; exact z.elim
    | cont => obtain ⟨_, _, _, z⟩ := h2; exact z.elim
    | next =>
    obtain ⟨σ2, H2, I2, d, nd, rfl, rfl⟩ := h2
    have tb : NdefX.TabsN [(PT, fun _ _ => (envOfC "_law_numbering" (defScope s__law_numbering) s.heap.objs.size f (.ref c)).qual ++ "_law_numbered")] (upd H d (.dT [])) := fun p hp => by
      rw [List.mem_singleton.mp hp]
      exact NdefX.TabN.nil (by rw [upd_ne (ne_of_none hPT nd)]; exact hPT)
    refine wpAny_execs_cons (thn (e2.run [] s2 _ _ ⟨fun σ H' => ∃ f2 c2, LamX.ExtN (upd H d (.dT [])) H' ∧ σ = [some (.ref f2), some (.ref d)] ∧ H' f2 = some (NdefX.FnO f2 (NdefX.NF.of s__law_numbering__law_numbered "_law_numbered" ((envOfC "_law_numbering" (defScope s__law_numbering) s.heap.objs.size f (.ref c)).qual ++ "_law_numbered") [("_law_told", s.heap.objs.size + 1)] c2)) ∧
        H' c2 = some (LamX.CodeO c2 ((envOfC "_law_numbering" (defScope s__law_numbering) s.heap.objs.size f (.ref c)).qual ++ "_law_numbered")), fun _ _ => False, fun _ _ => False, fun _ _ => False⟩ I2 ⟨tb, fun f2 c2 H3 x3 _ _ hf2 hc2 => ⟨f2, c2, x3, rfl, hf2, hc2⟩⟩) fun fl s3 h3 => ?_)
    cases fl with
    | ret v => obtain ⟨_, _, _, _, _, z⟩ := h3; exact z.elim
    | brk => obtain ⟨_, _, _, z⟩ := h3; exact z.elim
    | cont => obtain ⟨_, _, _, z⟩ := h3; exact z.elim
    | next =>
    obtain ⟨σ3, H3, I3, f2, c2, x3, rfl, hf2, hc2⟩ := h3
    rw [b4]
    refine wpAny_execs_cons (wpAny_Return_some (thn (e3.run [] s3 _ H3 (fun v H' => v = .ref f2 ∧ H' = H3) I3 ⟨_, rfl, rfl, rfl⟩) fun u s4 h4 => ?_))
    obtain ⟨v, H4, I4, ru, rfl, rfl⟩ := h4
    refine ⟨u, rfl, ?_⟩
    -- the cell
    have hce : (cxOf L2.CX0 P w K mg base N__law_numbering "_law_numbering" (defScope s__law_numbering) f (.ref c) A outer s H E).env.cells.lookup ("_law_told" : Str) = some (s.heap.objs.size + 1) := rfl
    have isC : s4.heap.IsCell (s.heap.objs.size + 1) (some (.ref d)) := by
      obtain ⟨m, hn, hl⟩ := I4.loc
      obtain ⟨u2, r2, l2⟩ := hl 1 "_law_told" (.ref d) rfl rfl (.inr (.inl rfl))
      have e2 : u2 = .ref d := r2
      subst e2
      rcases l2 with ⟨k, _⟩ | ⟨_, c3, hc3, z⟩
      · cases (show some NameKind.cell = some NameKind.local from k)
      · rw [hce] at hc3
        cases hc3
        exact z
    have fc := I4.freeC _ _ hce
    have hs0 : H (s.heap.objs.size + 1) = none := e0.hok.fresh (Nat.le_succ _)
    have un := I4.base
    have xn : LamX.ExtN H (upd H4 (s.heap.objs.size + 1) (CellO (s.heap.objs.size + 1) d)) := fun b o hb hn => by
      rw [upd_ne (ne_of_none hb hs0)]
      exact x3 b o (by rw [upd_ne (ne_of_none hb nd)]; exact hb) hn
    have hd4 : H4 d = some (.dT []) := x3 d _ upd_same fun ps z => by cases z
    refine ⟨.ref f2, upd H4 (s.heap.objs.size + 1) (CellO (s.heap.objs.size + 1) d), I4.os, I4.bare, ⟨un.keep, un.slot, fun b o e n hx => ?_, un.there, fun b xs e => ?_, fun b o u e => ?_, fun b ps e => ?_⟩, fun b u e => ?_, ru, ?_⟩
    · rw [upd_ne (Nat.ne_of_lt (Nat.lt_succ_of_lt (Heap.lt_size e)))]
      exact un.free b o e n hx
    · rw [upd_ne (ne_of_none e hs0)]
      exact un.tups b xs e
    · rw [upd_ne (ne_of_none e hs0)]
      exact un.frzs b o u e
    · obtain ⟨more, hm⟩ := un.tbls b ps e
      exact ⟨more, by rw [upd_ne (ne_of_none e hs0)]; exact hm⟩
    · by_cases z : b = s.heap.objs.size + 1
      · rw [z, upd_same] at e
        cases e
        rw [z]
        exact cellO_ok isC
      · rw [upd_ne z] at e
        exact (I4.hok b u e).stay (fun _ _ _ q => q) (fun b hb => by rw [upd_ne (ne_of_none hb fc)]; exact hb) fun b xs hb => by rw [upd_ne (ne_of_none hb fc)]; exact hb
    · refine q ⟨f2, (envOfC "_law_numbering" (defScope s__law_numbering) s.heap.objs.size f (.ref c)).qual ++ "_law_numbered", c2, s.heap.objs.size + 1, d⟩ _ xn ⟨⟨[], ?_, ?_⟩, ?_, ?_, upd_same⟩
      · rw [upd_ne (ne_of_none hd4 fc)]
        exact hd4
      · exact Nat.le_of_eq (Nat.zero_add _)
      · rw [upd_ne (ne_of_none hf2 fc)]
        exact hf2
      · rw [upd_ne (ne_of_none hc2 fc)]
        exact hc2
  · obtain ⟨u, rfl, h⟩ := hs
    exact h
theorem cal_numbering {c PT : Addr} (D : DefM K mg "_law_numbering" s__law_numbering c) (TB : LamX.TabB base mg c PT) : Cal P w K mg base 1 "_law_numbering" (spNumg PT) [] := by
  obtain ⟨f, oc, od, kV, doc, pm, an, ct, osl, lk, hc, kp, m⟩ := D.ex
  exact ⟨f, _, [], [], fn_numbering TB lk hc, m, kp, .all fun us hl => match us, hl with | [], _ => rfl, .nil⟩
/-! ### the law's own helpers -/
/-- script[k] where it is, else 0 -/
def cell (ns : List Int) (k : Int) : Int := ns.getD k.toNat 0
def spCellA (K : PySem.W.Frag) : Sp := fun vs H Q _ => ∃ (a : Addr) (ns : List Int) (k : Int), vs = [.ref a, .int k] ∧ SqL K H a (ns.map V.int) ∧ 0 ≤ k ∧ Q (.int (cell ns k)) H
theorem ok_cell_at {cc : Addr} (T : Txt K mg cc) : Cal P w K mg base 1 "_law_cell_at" (spCellA K) [] := by
  have Z := T.Z
  refine cal_of T.d__law_cell_at sc__law_cell_at (fun vs H Q E h => ?_) (fun f cdv A outer s H vs Q E hr h => ?_)
  · obtain ⟨a, ns, k, rfl, _⟩ := h
    rfl
  obtain ⟨a, ns, k, rfl, hS, hk, q⟩ := h
  refine ⟨_, (pss_cons (ps_if (pt_cmpR op_lt (pv 1) (pe_callB call_len_seq rfl Z.len PySem.boot_len (pa_cons (pv 0) pa_nil)) (nomark _)) (pss_one (ps_ret (pe_ix ix_list (pv 0) (pv 1) (fun _ _ => rfl)))) pss_nil)
  (pss_one (ps_ret pe_int))), ?_⟩
  refine ⟨_, rfl, _, rfl, a, _, rfl, .inl hS, _, _, rfl, rfl, _, rfl, ?_⟩
  rw [List.length_map]
  refine ite2 (fun c => ?_) (fun c => ?_)
  · have c' : k < (ns.length : Int) := of_decide_eq_true c
    have hl : k.toNat < ns.length := by omega
    refine ⟨_, rfl, _, rfl, a, _, k, .int (cell ns k), rfl, rfl, hS, at_of (j := k.toNat) (by omega) ?_, q⟩
    rw [List.getElem?_map, List.getElem?_eq_getElem hl]
    unfold cell
    rw [List.getD_eq_getElem?_getD, List.getElem?_eq_getElem hl]
    rfl
  · have c' : ¬ k < (ns.length : Int) := of_decide_eq_false (Bool.eq_false_iff.mpr c)
    have e : cell ns k = 0 := by
      unfold cell
      rw [List.getD_eq_getElem?_getD, List.getElem?_eq_none (by omega)]
      rfl
    rw [e] at q
    exact q
/-- one of three seals, its state new -/
def spSlBy (K : PySem.W.Frag) (mg : Str → Option Value) (PT : Addr) : Sp := fun vs H Q _ => ∃ (a : Addr) (ns : List Int), vs = [.ref a] ∧ SqL K H a (ns.map V.int) ∧ H PT = some (.tbl #[]) ∧ ∀ (S : Sys) (H' : Hp), Fam3 mg S → LamX.ExtN H H' → S.ok H' sizeLine → Q (.ref S.f) H'
theorem ok_seal_by {cc PT : Addr} (T : Txt K mg cc) (TB : LamX.TabB base mg cc PT) : Cal P w K mg base 2 "_law_seal_by" (spSlBy K mg PT) [] := by
  have Z := T.Z
  obtain ⟨fP, fdP, FP, mP, bP⟩ := T.d__law_plain.ex
  obtain ⟨fT, fdT, FT, mT, bT⟩ := T.d__law_turned.ex
  obtain ⟨fN, fdN, psN, dsN, FN, mN, kN, bN, vN⟩ := (cal_numbering (P := P) (w := w) T.m__law_numbering TB).ex
  have C__law_cell_at := ok_cell_at (P := P) (w := w) (base := base) T
  refine cal_of T.d__law_seal_by sc__law_seal_by (fun vs H Q E h => ?_) (fun f cdv A outer s H vs Q E hr h => ?_)
  · obtain ⟨a, ns, rfl, _⟩ := h
    rfl
  obtain ⟨a, ns, rfl, hS, hPT, q⟩ := h
  refine ⟨_, (pss_cons (ps_set (i := 1) sc__law_seal_by.nd rfl (Or.inl rfl) (pe_op op_mod (pe_op op_fdiv (pe_c C__law_cell_at hr (by omega) rfl (pa_cons (pv 0) (pa_cons pe_int pa_nil))) pe_int) pe_int))
  (pss_cons (ps_if (pt_cmpR op_eq (pv 1) pe_int (nomark _)) (pss_one (ps_ret (pe_glob (v := .ref fP) rfl mP rfl))) pss_nil)
  (pss_cons (ps_if (pt_cmpR op_eq (pv 1) pe_int (nomark _)) (pss_one (ps_ret (pe_glob (v := .ref fT) rfl mT rfl))) pss_nil)
  (pss_one (ps_ret (pe_call0 FN hr rfl mN kN bN vN pass0)))))), ?_⟩
  refine ⟨_, rfl, a, ns, 0, rfl, hS, Int.le_refl 0, _, 7, rfl, rfl, ⟨by decide, by decide⟩, _, 3, rfl, rfl, (by show (0 : Int) < 3; decide), ?_⟩
  refine ⟨_, rfl, rfl, _, rfl, ite2 (fun _ => ?_) (fun _ => ?_)⟩
  · exact q (plainSys tfP fP) H (.inl ⟨fP, mP, rfl⟩) (LamX.ExtN.refl H) True.intro
  refine ⟨_, rfl, rfl, _, rfl, ite2 (fun _ => ?_) (fun _ => ?_)⟩
  · exact q (plainSys tfT fT) H (.inr (.inl ⟨fT, mT, rfl⟩)) (LamX.ExtN.refl H) True.intro
  have e0 : dsN = [] := by
    cases vN
    rfl
  subst e0
  exact ⟨rfl, hPT, fun N H' x ok => q (numSys N) H' (.inr (.inr ⟨N, rfl⟩)) x ok⟩
end

/-! ### the greatest power of two below a number -/
def splitN (n : Nat) : Nat := 2 ^ (n - 1).log2
theorem splitN_pos (n : Nat) : 0 < splitN n := Nat.two_pow_pos _
theorem splitN_lt {n : Nat} (h : 2 ≤ n) : splitN n < n := by
  have q := Nat.log2_self_le (show n - 1 ≠ 0 by omega)
  unfold splitN
  omega
theorem splitN_ge {n : Nat} (h : 2 ≤ n) : n ≤ 2 * splitN n := by
  have q : n - 1 < 2 ^ ((n - 1).log2 + 1) := Nat.lt_log2_self
  rw [Nat.pow_succ] at q
  unfold splitN
  omega
theorem splitN_of {n i : Nat} (h1 : 2 ^ i < n) (h2 : n ≤ 2 * 2 ^ i) : splitN n = 2 ^ i := by
  have h0 : n - 1 ≠ 0 := by
    have := Nat.two_pow_pos i
    omega
  have a : i ≤ (n - 1).log2 := (Nat.le_log2 h0).mpr (by omega)
  have b : (n - 1).log2 < i + 1 := (Nat.log2_lt h0).mpr (by rw [Nat.pow_succ]; omega)
  unfold splitN
  rw [show (n - 1).log2 = i by omega]
theorem splitN_le_pow {n k : Nat} (h : 2 ≤ n) (hk : n ≤ 2 ^ (k + 1)) : splitN n ≤ 2 ^ k ∧ n - splitN n ≤ 2 ^ k := by
  have h0 : n - 1 ≠ 0 := by omega
  have a : (n - 1).log2 < k + 1 := (Nat.log2_lt h0).mpr (by omega)
  have b : splitN n ≤ 2 ^ k := Nat.pow_le_pow_right (by decide) (by omega)
  have c := splitN_ge h
  exact ⟨b, by omega⟩
/-! ### the top of a row -/
def nonT : Tm := .sl "none" (.int 0) (.int 0)
def pairT (a b : Tm) : Tm := .sl "pair" a b
def topT (ts : List Tm) : Tm :=
  if h : ts.length < 2 then ts.headD nonT else pairT (topT (ts.take (splitN ts.length))) (topT (ts.drop (splitN ts.length)))
termination_by ts.length
decreasing_by
  · rw [List.length_take]
    have := splitN_lt (n := ts.length) (by omega)
    omega
  · rw [List.length_drop]
    have := splitN_pos ts.length
    omega
theorem topT_nil : topT [] = nonT := by rw [topT]; rfl
theorem topT_one (t : Tm) : topT [t] = t := by rw [topT]; rfl
theorem topT_single {ts : List Tm} (h : ts.length = 1) : topT ts = ts.getD 0 nonT := by
  match ts, h with
  | [t], _ => exact topT_one t
theorem topT_more {ts : List Tm} (h : 2 ≤ ts.length) : topT ts = pairT (topT (ts.take (splitN ts.length))) (topT (ts.drop (splitN ts.length))) := by
  rw [topT, dif_neg (by omega)]
theorem topT_dep {d : Nat} : ∀ (k : Nat) (ts : List Tm), ts.length ≤ 2 ^ k → (∀ t ∈ ts, t.dep ≤ d) → (topT ts).dep ≤ d + k + 1
  | 0, [], _, _ => by rw [topT_nil]; show 0 + 1 ≤ _; omega
  | 0, [t], _, h => by rw [topT_one]; have := h t List.mem_cons_self; omega
  | 0, t :: u :: r, h, _ => by simp at h
  | k + 1, ts, hl, h => by
    by_cases h2 : 2 ≤ ts.length
    · rw [topT_more h2]
      obtain ⟨a, b⟩ := splitN_le_pow h2 hl
      have e1 := topT_dep k (ts.take (splitN ts.length)) (by rw [List.length_take]; omega) fun t ht => h t (List.mem_of_mem_take ht)
      have e2 := topT_dep k (ts.drop (splitN ts.length)) (by rw [List.length_drop]; omega) fun t ht => h t (List.mem_of_mem_drop ht)
      show max _ _ + 1 ≤ _
      omega
    · match ts, h2 with
      | [], _ => rw [topT_nil]; show 0 + 1 ≤ _; omega
      | [t], _ => rw [topT_one]; have := h t List.mem_cons_self; omega
      | t :: u :: r, h2 => exact absurd (show 2 ≤ (t :: u :: r).length by simp) h2
/-- how many tellings a top wants -/
def costT (n : Nat) : Nat := if n = 0 then 1 else n - 1
theorem costT_split {n : Nat} (h : 2 ≤ n) : costT (splitN n) + costT (n - splitN n) + 1 ≤ costT n := by
  have a := splitN_pos n
  have b := splitN_lt h
  unfold costT
  rw [if_neg (by omega), if_neg (by omega), if_neg (by omega)]
  omega
theorem costT_le (n : Nat) : costT n ≤ n + 1 := by
  unfold costT
  split <;> omega

/-! ### split and the top, by the law's own defs -/
section
variable {P : Program} {w : World} {K : PySem.W.Frag} {mg : Str → Option Value} {base : Heap} {Fam : Sys → Prop}
/-- a def of which nothing is asked -/
def spNo : Sp := fun _ _ _ _ => False
theorem cal_no {x : Str} {st : Stmt} {ps : List Str} (D : DefX K mg x st ps) (k : Nat) : Cal P w K mg base k x spNo [] := by
  obtain ⟨f, fd, F, m, b⟩ := D.ex
  exact ⟨f, fd, ps, [], ⟨fun _ _ _ _ h => h.elim, fun _ _ _ _ _ _ _ _ _ _ _ _ _ h => h.elim⟩, m, F.kp, .all b, .nil⟩
theorem cal_mono {x : Str} {j k : Nat} {sp : Sp} {dvs : List V} (c : Cal P w K mg base j x sp dvs) (h : j ≤ k) : Cal P w K mg base k x sp dvs := by
  obtain ⟨f, fd, ps, ds, F, m, kp, b, v⟩ := c.ex
  exact ⟨f, fd, ps, ds, F.mono h, m, kp, b, v⟩
def spSplit : Sp := fun vs H Q _ => ∃ n : Nat, vs = [.int (n : Int)] ∧ 2 ≤ n ∧ n.log2 ≤ 100000 ∧ Q (.int ((splitN n : Nat) : Int)) H
theorem pow_cast (i : Nat) : (((2 ^ i : Nat) : Nat) : Int) = 2 ^ i := by
  rw [Int.natCast_pow]
  rfl
theorem ok_law_split {cc : Addr} (T : Txt K mg cc) : Cal P w K mg base 1 "_law_split" spSplit [] := by
  refine cal_of T.d__law_split sc__law_split (fun vs H Q E h => ?_) (fun f cdv A outer s H vs Q E hr h => ?_)
  · obtain ⟨n, rfl, _⟩ := h
    rfl
  obtain ⟨n, rfl, h2, hl, q⟩ := h
  refine ⟨_, (pss_cons (ps_set (i := 1) sc__law_split.nd rfl (Or.inl rfl) pe_int)
  (pss_cons (ps_while PassesOwn.never (pt_cmpR op_lt (pe_op op_mul (pv 1) pe_int) (pv 0) (nomark _)) (pss_one (ps_set (i := 1) sc__law_split.nd rfl (Or.inl rfl) (pe_op op_mul (pv 1) pe_int))))
  (pss_one (ps_ret (pv 1))))), ?_⟩
  refine ⟨fun m σ H' => ∃ i : Nat, m = n - 2 ^ i ∧ 2 ^ i < n ∧ σ = [some (.int (n : Int)), some (.int ((2 ^ i : Nat) : Int))] ∧ H' = H, ⟨_, 0, rfl, by simp; omega, rfl, rfl⟩, ?_⟩
  rintro m σ H' ⟨i, rfl, hi, rfl, rfl⟩
  have cm : CMul ((2 ^ i : Nat) : Int) 2 := .inr ⟨by decide, by decide⟩
  refine ⟨_, rfl, _, 2, rfl, rfl, cm, _, rfl, _, _, rfl, rfl, _, rfl, ite2 (fun c => ?_) (fun c => ?_)⟩
  · have c' : ((2 ^ i : Nat) : Int) * 2 < (n : Int) := of_decide_eq_true c
    refine ⟨fun σ' H'' => ∃ j : Nat, j = i + 1 ∧ σ' = [some (.int (n : Int)), some (.int ((2 ^ j : Nat) : Int))] ∧ H'' = H', fun σ' H'' ⟨j, ej, es, eh⟩ => ⟨n - 2 ^ j, ?_, j, rfl, ?_, es, eh⟩, ?_⟩
    · subst ej
      rw [Nat.pow_succ]
      have := Nat.two_pow_pos i
      omega
    · subst ej
      rw [Nat.pow_succ]
      omega
    · refine ⟨_, rfl, _, 2, rfl, rfl, cm, i + 1, rfl, ?_, rfl⟩
      have e : ((2 ^ i : Nat) : Int) * 2 = ((2 ^ (i + 1) : Nat) : Int) := by
        rw [Nat.pow_succ]
        omega
      show [some (V.int (n : Int)), some (V.int (((2 ^ i : Nat) : Int) * 2))] = _
      rw [e]
  · have c' : ¬ ((2 ^ i : Nat) : Int) * 2 < (n : Int) := of_decide_eq_false (Bool.eq_false_iff.mpr c)
    have e : splitN n = 2 ^ i := splitN_of hi (by omega)
    rw [e] at q
    exact ⟨_, rfl, q⟩
/-- the top of a row of leaves: two to the k of them at most -/
def spTop (K : PySem.W.Frag) (Fam : Sys → Prop) (k : Nat) : Sp := fun vs H Q _ => ∃ (S : Sys) (a : Addr) (xs : List V) (ts : List Tm) (r : Nat), Fam S ∧ vs = [.ref S.f, .ref a] ∧ SqL K H a xs ∧ DenL S H xs ts ∧ k ≠ 0 ∧ ts.length ≤ 2 ^ (k - 1) ∧ ts.length ≤ 1000 ∧ S.ok H (r + costT ts.length) ∧
  ∀ v H', Ext H H' → S.ok H' r → S.den H' v (topT ts) → Q v H'
theorem atI_den {S : Sys} {H : Hp} {xs : List V} {ts : List Tm} (h : DenL S H xs ts) {i : Int} (h0 : 0 ≤ i) (h1 : i < (ts.length : Int)) : ∃ v, atI xs i = some v ∧ S.den H v (ts.getD i.toNat nonT) := by
  have hi : i.toNat < ts.length := by omega
  obtain ⟨v, e, d⟩ := h.get hi
  refine ⟨v, at_of (j := i.toNat) (by omega) e, ?_⟩
  rw [List.getD_eq_getElem?_getD, List.getElem?_eq_getElem hi]
  exact d
theorem ok_law_top1 {cc : Addr} {k : Nat} (T : Txt K mg cc) (A : SlA P w K mg base Fam) (C__law_top : Cal P w K mg base (k + 2) "_law_top" (spTop K Fam k) []) : Cal P w K mg base (k + 3) "_law_top" (spTop K Fam (k + 1)) [] := by
  have Z := T.Z
  have C__law_split := ok_law_split (P := P) (w := w) (base := base) T
  refine cal_of T.d__law_top sc__law_top (fun vs H Q E h => ?_) (fun f cdv A' outer s H vs Q E hr h => ?_)
  · obtain ⟨S, a, xs, ts, r, _, rfl, _⟩ := h
    rfl
  obtain ⟨S, a, xs, ts, r, hF, rfl, hS, hD, _, hk, hl, hok, q⟩ := h
  have hlen := hD.len
  have G := A.good hF
  refine ⟨_, (pss_cons (ps_if (pt_cmpR op_eq (pe_callB call_len_seq rfl Z.len PySem.boot_len (pa_cons (pv 1) pa_nil)) pe_int (nomark _)) (pss_one (ps_ret (pe_sl (i := 0) A.held hr (by omega) rfl (by first | exact Or.inl rfl | exact Or.inr (Or.inl rfl) | exact Or.inr (Or.inr rfl)) (pa_cons pe_str (pa_cons pe_int (pa_cons pe_int pa_nil)))))) pss_nil)
  (pss_cons (ps_if (pt_cmpR op_eq (pe_callB call_len_seq rfl Z.len PySem.boot_len (pa_cons (pv 1) pa_nil)) pe_int (nomark _)) (pss_one (ps_ret (pe_ix ix_list (pv 1) pe_int (fun _ _ => rfl)))) pss_nil)
  (pss_cons (ps_set (i := 2) sc__law_top.nd rfl (Or.inl rfl) (pe_c C__law_split hr (by omega) rfl (pa_cons (pe_callB call_len_seq rfl Z.len PySem.boot_len (pa_cons (pv 1) pa_nil)) pa_nil)))
  (pss_one (ps_ret (pe_sl (i := 0) A.held hr (by omega) rfl (by first | exact Or.inl rfl | exact Or.inr (Or.inl rfl) | exact Or.inr (Or.inr rfl)) (pa_cons pe_str (pa_cons (pe_c C__law_top hr (by omega) rfl (pa_cons (pv 0) (pa_cons (pe_slice sl_list (pv 1) po_none (po_some (pv 2))) pa_nil))) (pa_cons (pe_c C__law_top hr (by omega) rfl (pa_cons (pv 0) (pa_cons (pe_slice sl_list (pv 1) (po_some (pv 2)) po_none) pa_nil))) pa_nil))))))))), ?_⟩
  -- no leaf
  refine ⟨_, rfl, a, _, rfl, .inl hS, rfl, _, rfl, ite2 (fun c => ?_) (fun c => ?_)⟩
  · have c' : (xs.length : Int) = 0 := V.int.inj (of_decide_eq_true c)
    have e : ts = [] := List.eq_nil_of_length_eq_zero (by omega)
    subst e
    refine ⟨S, _, hF, rfl, hok, r, "none", .int 0, .int 0, _, _, rfl, by decide +kernel, hok, G.int 0 hok, G.int 0 hok, fun v H' e ok d => q v H' e ok ?_⟩
    rw [topT_nil]
    exact d
  have n0 : xs.length ≠ 0 := fun z => c (decide_eq_true (by rw [z]; rfl))
  -- one
  refine ⟨_, rfl, a, _, rfl, .inl hS, rfl, _, rfl, ite2 (fun c => ?_) (fun c => ?_)⟩
  · have c' : (xs.length : Int) = 1 := V.int.inj (of_decide_eq_true c)
    obtain ⟨v, hv, dv⟩ := atI_den hD (i := 0) (Int.le_refl 0) (by omega)
    refine ⟨_, rfl, a, xs, 0, v, rfl, rfl, hS, hv, q v H (Ext.refl H) ?_ ?_⟩
    · refine G.less hok ?_
      omega
    · rw [topT_single (by omega)]
      exact dv
  have n1 : xs.length ≠ 1 := fun z => c (decide_eq_true (by rw [z]; rfl))
  -- more
  have h2 : 2 ≤ ts.length := by omega
  have hsl := splitN_lt h2
  have hsp := splitN_pos ts.length
  have hk1 : ts.length ≤ 2 ^ k := hk
  obtain ⟨k', rfl⟩ : ∃ k', k = k' + 1 := by
    cases k with
    | zero => simp at hk1; omega
    | succ k' => exact ⟨k', rfl⟩
  obtain ⟨b1, b2⟩ := splitN_le_pow h2 hk1
  have hcs := costT_split h2
  have lg := Nat.log2_le_self ts.length
  refine ⟨_, rfl, a, _, rfl, .inl hS, ts.length, by rw [hlen] <;> rfl, h2, by omega, ?_⟩
  refine ⟨S, _, hF, rfl, hok, ?_⟩
  -- the first part
  refine ⟨_, rfl, _, rfl, _, rfl, ((splitN ts.length : Nat) : Int), rfl, a, _, rfl, hS, fun p hp => ?_⟩
  rw [cut_to]
  have x1 := Ext.new (o := .lst (xs.take (splitN ts.length))) hp
  have k1 := Kp.new (o := .lst (xs.take (splitN ts.length))) hp
  refine ⟨S, p, _, ts.take (splitN ts.length), r + 1 + costT (ts.length - splitN ts.length), hF, rfl, SqL.of upd_same, (hD.take _).mono G k1.gr, by omega, ?_, ?_, ?_, fun v1 H1 x2 ok1 d1 => ?_⟩
  · rw [List.length_take]
    show _ ≤ 2 ^ k'
    omega
  · rw [List.length_take]
    omega
  · rw [List.length_take, Nat.min_eq_left (by omega)]
    exact G.less (G.keep k1 hok) (by omega)
  -- the rest
  have xx := x1.trans x2
  refine ⟨_, rfl, _, rfl, _, rfl, ((splitN ts.length : Nat) : Int), rfl, a, _, rfl, xx.seq hS, fun p2 hp2 => ?_⟩
  rw [cut_from]
  have x3 := Ext.new (o := .lst (xs.drop (splitN ts.length))) hp2
  have k3 := Kp.new (o := .lst (xs.drop (splitN ts.length))) hp2
  refine ⟨S, p2, _, ts.drop (splitN ts.length), r + 1, hF, rfl, SqL.of upd_same, ((hD.drop _).mono G xx.gr).mono G k3.gr, by omega, ?_, ?_, ?_, fun v2 H2 x4 ok2 d2 => ?_⟩
  · rw [List.length_drop]
    show _ ≤ 2 ^ k'
    omega
  · rw [List.length_drop]
    omega
  · rw [List.length_drop]
    exact G.keep k3 ok1
  refine ⟨r, "pair", topT (ts.take (splitN ts.length)), topT (ts.drop (splitN ts.length)), _, _, rfl, by decide +kernel, ok2, G.mono (x3.trans x4).gr d1, d2, fun v H' x5 ok3 d3 => ?_⟩
  refine q v H' (((xx.trans x3).trans x4).trans x5) ok3 ?_
  rw [topT_more h2]
  exact d3
theorem ok_law_top {cc : Addr} (T : Txt K mg cc) (A : SlA P w K mg base Fam) : ∀ k : Nat, Cal P w K mg base (k + 2) "_law_top" (spTop K Fam k) []
  | 0 => by
    obtain ⟨f, fd, ps, ds, F, m, kp, b, v⟩ := (cal_no (P := P) (w := w) (base := base) T.d__law_top 2).ex
    exact ⟨f, fd, ps, ds, F.imp fun vs H Q E h => by obtain ⟨_, _, _, _, _, _, _, _, _, z, _⟩ := h; exact absurd rfl z, m, kp, b, v⟩
  | k + 1 => ok_law_top1 T A (ok_law_top T A k)
end

/-! ### for the law: equal things are seen equal; the head -/
section
variable {K : PySem.W.Frag} {H : Hp} {S : Sys}
theorem shaped_of {d : PyData} (h : d.canLay0 = true) (hd : d.depth ≤ 64) : SeqAt.shaped d = true := by
  unfold SeqAt.shaped
  rw [h, decide_eq_true hd]
  rfl
theorem eqv_self {d : PyData} (h : d.canLay0 = true) : PyData.eqv d d = true := SeqAt.eqv_refl d h
theorem eq_rows (G : S.Good K) {p p' : Addr} {xs ys : List V} {ts : List Tm} (hp : SqL K H p xs) (hp' : SqL K H p' ys) (h : DenL S H xs ts) (h' : DenL S H ys ts) (hd : ∀ t ∈ ts, t.dep ≤ 60) :
    ∃ d, Dp K H (.ref p) d ∧ Dp K H (.ref p') d ∧ SeqAt.shaped d = true ∧ PyData.eqv d d = true := by
  obtain ⟨ds, a, b, c, e⟩ := DenL.same G h h' hd
  have c' : (PyData.list ds).canLay0 = true := c
  exact ⟨.list ds, .lst hp a, .lst hp' b, shaped_of c' (by show PyData.depthAll ds + 1 ≤ 64; omega), eqv_self c'⟩
theorem eq_tm (G : S.Good K) {v v' : V} {t : Tm} (h : S.den H v t) (h' : S.den H v' t) (hd : t.dep ≤ 60) :
    ∃ d, Dp K H v d ∧ Dp K H v' d ∧ SeqAt.shaped d = true ∧ PyData.eqv d d = true := by
  obtain ⟨d, a, b, c, e⟩ := G.same h h'
  exact ⟨d, a, b, shaped_of c (by omega), eqv_self c⟩
theorem ext_seq {K : PySem.W.Frag} {H H' : Hp} {a : Addr} {xs : List V} (e : LamX.ExtN H H') (h : SqL K H a xs) : SqL K H' a xs := by
  rcases h with (h | ⟨o, h⟩) | h
  · exact .inl (.inl (e _ _ h fun _ z => nomatch z))
  · exact .inl (.inr ⟨o, e _ _ h fun _ z => nomatch z⟩)
  · exact .inr h
end
/-- a row's places -/
theorem map_int_mem {l : List Int} {x : V} (h : x ∈ l.map V.int) : ∃ z ∈ l, x = .int z := by
  obtain ⟨z, hz, e⟩ := List.mem_map.mp h
  exact ⟨z, hz, e.symm⟩
/-- the law's promise; a table of code objects at PT -/
def spLaw (K : PySem.W.Frag) (PT : Addr) : Sp := fun vs H Q _ => ∃ (a : Addr) (ns : List Int), vs = [.ref a] ∧ SqL K H a (ns.map V.int) ∧ ns.length ≤ 63 ∧ H PT = some (.tbl #[]) ∧ ∀ H', Q (.bl true) H'
theorem law_end {l : PySem.W.OpenLaw} {w : World} {K : PySem.W.Frag} {h : Heap} {mg : Str → Option Value} {fa c PT : Addr} {k : Nat} (X : K.In h) (hP : ∀ Q ∈ [PT], h.get? Q = some (PySem.W.tabObj #[])) (nP : K.lookup PT = none) (hc : PySem.W.codeHdIn K c PT = true)
    (F : ∃ fd : FuncData, (∀ (s : Shared) (v : Value), BindsTo s fd ⟨[v], []⟩ [("_law_script", v)]) ∧ ∀ base : Heap, K.In base → base.Ns mainGlobals mg → LamX.TabB base mg c PT → FnOk l.prog w K mg base L2.CX0 k fa fd ["_law_script"] (spLaw K PT)) :
    LamX.LawAtS l w K L2.CX0 k 63 "_law_script" mg fa h := by
  obtain ⟨fd, hb, hF⟩ := F
  refine ⟨fd, [(c, PT)], spLaw K PT, fun p hp => ?_, fun p hp => ?_, fun p hp => ?_, hb, fun H a ns hl _ hT hS => ⟨a, ns, rfl, hS, hl, hT _ (List.mem_singleton.mpr rfl), fun _ => rfl⟩, fun base KB NB TB => hF base KB NB (TB _ (List.mem_singleton.mpr rfl))⟩
  · rw [List.mem_singleton.mp hp]
    exact hP PT (List.mem_singleton.mpr rfl)
  · rw [List.mem_singleton.mp hp]
    exact nP
  · rw [List.mem_singleton.mp hp]
    exact PySem.W.codeHd_of_K X hc
theorem law_fnT {P : Program} {w : World} {K : PySem.W.Frag} {mg : Str → Option Value} {x p : Str} {st : Stmt} {N : List Str} {k : Nat} {sp : Sp} {fa c PT : Addr} (D : DefX K mg x st [p]) (hfa : mg x = some (.ref fa)) (S : FnScope N [p] (defScope st)) (len : ∀ vs H Q E, sp vs H Q E → vs.length = 1)
    (hbody : ∀ (base : Heap), LamX.TabB base mg c PT → ∀ (f : Addr) (cdv : Value) (A : Around) (outer : List Env) (s : Shared) (H : Hp) (vs : List V) (Q : VK) (E : XK), Room k (A.deeper (envOfC x (defScope st) s.heap.objs.size f cdv)) → sp vs H Q E →
      ∃ t, PSs (cxOf L2.CX0 P w K mg base N x (defScope st) f cdv A outer s H E).nox (defBody st) t ∧ t { nx := fun _ H' => Q .non H', rt := Q } (start N vs) H) :
    ∃ fd : FuncData, (∀ (s : Shared) (v : Value), BindsTo s fd ⟨[v], []⟩ [(p, v)]) ∧ ∀ base : Heap, K.In base → base.Ns mainGlobals mg → LamX.TabB base mg c PT → FnOk P w K mg base L2.CX0 (k + 1) fa fd [p] sp := by
  obtain ⟨f, fd, F, m, b⟩ := D.ex
  have e := hfa.symm.trans m
  cases e
  exact ⟨fd, fun s v => .of_eq (b [v] rfl), fun base _ _ TB => F.ok S len (hbody base TB fa)⟩

/-! ### what is told apart -/
/-- alike in kind, so that equal values tell equal terms -/
def cmpT : Tm → Tm → Prop
  | .int _, .int _ => True
  | .str _, .str _ => True
  | .sl m a b, .sl m' a' b' => m ≠ m' ∨ (cmpT a a' ∧ cmpT b b')
  | _, _ => False
structure Sys.Inj (K : PySem.W.Frag) (S : Sys) : Prop where
  inj : ∀ {H : Hp} {r : Nat} {v v' : V} {t t' : Tm}, S.ok H r → S.den H v t → S.den H v' t' → cmpT t t' → ∃ d d', Dp K H v d ∧ Dp K H v' d' ∧ d.canLay0 = true ∧ d'.canLay0 = true ∧ d.depth ≤ t.dep ∧ d'.depth ≤ t'.dep ∧ PyData.eqv d d' = decide (t = t')
theorem eqv_int (i j : Int) : PyData.eqv (.int i) (.int j) = decide (i = j) := by
  rw [PyData.eqv]
  first | rfl | simp [BEq.beq]
theorem eqv_str (x y : Str) : PyData.eqv (.str x) (.str y) = decide (x = y) := by
  rw [PyData.eqv]
  first | rfl | simp [BEq.beq]
theorem eqvP : ∀ t t' : Tm, PyData.eqv (datP t) (datP t') = decide (t = t')
  | .int i, .int j => by
    show PyData.eqv (.int i) (.int j) = _
    rw [eqv_int]
    by_cases h : i = j
    · rw [h]; simp
    · rw [decide_eq_false h, decide_eq_false (fun z => h (Tm.int.inj z))]
  | .str i, .str j => by
    show PyData.eqv (.str i) (.str j) = _
    rw [eqv_str]
    by_cases h : i = j
    · rw [h]; simp
    · rw [decide_eq_false h, decide_eq_false (fun z => h (Tm.str.inj z))]
  | .sl m a b, .sl m' a' b' => by
    show PyData.eqv (.tuple [.str m, datP a, datP b]) (.tuple [.str m', datP a', datP b']) = _
    rw [PyData.eqv, PyData.eqvAll, PyData.eqvAll, PyData.eqvAll, PyData.eqvAll, eqv_str, eqvP a a', eqvP b b']
    by_cases h1 : m = m' <;> by_cases h2 : a = a' <;> by_cases h3 : b = b' <;> simp [h1, h2, h3]
  | .int _, .str _ => rfl
  | .str _, .int _ => rfl
  | .int _, .sl _ _ _ => rfl
  | .sl _ _ _, .int _ => rfl
  | .str _, .sl _ _ _ => rfl
  | .sl _ _ _, .str _ => rfl
theorem eqvT : ∀ t t' : Tm, PyData.eqv (datT t) (datT t') = decide (t = t')
  | .int i, .int j => by
    show PyData.eqv (.int i) (.int j) = _
    rw [eqv_int]
    by_cases h : i = j
    · rw [h]; simp
    · rw [decide_eq_false h, decide_eq_false (fun z => h (Tm.int.inj z))]
  | .str i, .str j => by
    show PyData.eqv (.str i) (.str j) = _
    rw [eqv_str]
    by_cases h : i = j
    · rw [h]; simp
    · rw [decide_eq_false h, decide_eq_false (fun z => h (Tm.str.inj z))]
  | .sl m a b, .sl m' a' b' => by
    show PyData.eqv (.tuple [.str "seal of", datT b, datT a, .str m]) (.tuple [.str "seal of", datT b', datT a', .str m']) = _
    rw [PyData.eqv, PyData.eqvAll, PyData.eqvAll, PyData.eqvAll, PyData.eqvAll, PyData.eqvAll, eqv_str, eqv_str, eqvT a a', eqvT b b']
    by_cases h1 : m = m' <;> by_cases h2 : a = a' <;> by_cases h3 : b = b' <;> simp [h1, h2, h3]
  | .int _, .str _ => rfl
  | .str _, .int _ => rfl
  | .int _, .sl _ _ _ => rfl
  | .sl _ _ _, .int _ => rfl
  | .str _, .sl _ _ _ => rfl
  | .sl _ _ _, .str _ => rfl
theorem DenN.inj {ks : List (List Key)} {k : Key} {t : Tm} (h : DenN (tab ks) k t) : ∀ {t'}, DenN (tab ks) k t' → cmpT t t' → t = t' := by
  induction h with
  | int i =>
    intro t' h' c
    cases h' with
    | int => rfl
    | sl _ _ _ => exact c.elim
  | str x h =>
    intro t' h' c
    cases h'
    rfl
  | @sl m ka kb a b n ha hb hv iha ihb =>
    intro t' h' c
    cases h' with
    | int => exact c.elim
    | @sl m' ka' kb' a' b' _ ha' hb' hv' =>
      obtain ⟨i, e1, g1⟩ := tab_at hv
      obtain ⟨j, e2, g2⟩ := tab_at hv'
      have e3 := V.int.inj (e1.symm.trans e2)
      have e4 : i = j := by omega
      subst e4
      rw [g1] at g2
      have g3 := Option.some.inj g2
      have g4 : m = m' := by
        have := (List.cons.inj g3).1
        exact Sum.inr.inj this
      have g5 : ka = ka' := (List.cons.inj (List.cons.inj g3).2).1
      have g6 : kb = kb' := (List.cons.inj (List.cons.inj (List.cons.inj g3).2).2).1
      subst g4 g5 g6
      rcases c with c | ⟨c1, c2⟩
      · exact absurd rfl c
      · rw [iha ha' c1, ihb hb' c2]
theorem DenN.apart {ks : List (List Key)} {K : PySem.W.Frag} {H : Hp} {k k' : Key} {t t' : Tm} (h : DenN (tab ks) k t) (h' : DenN (tab ks) k' t') (c : cmpT t t') : ∃ d d', Dp K H (kV k) d ∧ Dp K H (kV k') d' ∧ d.canLay0 = true ∧ d'.canLay0 = true ∧ d.depth ≤ t.dep ∧ d'.depth ≤ t'.dep ∧ PyData.eqv d d' = decide (t = t') := by
  have key : decide (k = k') = decide (t = t') := by
    by_cases e : k = k'
    · subst e
      rw [h.inj h' c]
      simp
    · rw [decide_eq_false e, decide_eq_false]
      rintro rfl
      exact e (h.fn h')
  rw [← key]
  cases h with
  | int i =>
    cases h' with
    | int j => exact ⟨_, _, .int _, .int _, rfl, rfl, Nat.zero_le _, Nat.zero_le _, by rw [eqv_int]; by_cases e : i = j <;> simp [e]⟩
    | str y hy => exact c.elim
    | sl _ _ _ => exact c.elim
  | str x hx =>
    cases h' with
    | int j => exact c.elim
    | str y hy => exact ⟨_, _, .str _, .str _, hx, hy, Nat.zero_le _, Nat.zero_le _, by rw [eqv_str]; by_cases e : x = y <;> simp [e]⟩
    | sl _ _ _ => exact c.elim
  | @sl _ _ _ _ _ n _ _ _ =>
    cases h' with
    | int j => exact c.elim
    | str y hy => exact c.elim
    | @sl _ _ _ _ _ n' _ _ _ => exact ⟨_, _, .int _, .int _, rfl, rfl, Nat.zero_le _, Nat.zero_le _, by rw [eqv_int]; by_cases e : n = n' <;> simp [e]⟩
theorem inj3 {K : PySem.W.Frag} {mg : Str → Option Value} {S : Sys} (h : Fam3 mg S) : S.Inj K := by
  rcases h with ⟨f, _, rfl⟩ | ⟨f, _, rfl⟩ | ⟨N, rfl⟩
  · exact ⟨fun _ h h' _ => ⟨_, _, h.dp.1, h'.dp.1, (DenP.dp (K := K) h).2.1, (DenP.dp (K := K) h').2.1, (DenP.dp (K := K) h).2.2, (DenP.dp (K := K) h').2.2, eqvP _ _⟩⟩
  · exact ⟨fun _ h h' _ => ⟨_, _, h.dt.1, h'.dt.1, (DenP.dt (K := K) h).2.1, (DenP.dt (K := K) h').2.1, (DenP.dt (K := K) h).2.2, (DenP.dt (K := K) h').2.2, eqvT _ _⟩⟩
  · refine ⟨fun ok h h' c => ?_⟩
    obtain ⟨ks, hd, _⟩ := ok.dict
    obtain ⟨kvs, k, e1, g, rfl⟩ := h
    obtain ⟨kvs', k', e1', g', rfl⟩ := h'
    rw [hd] at e1 e1'
    cases e1
    cases e1'
    exact g.apart g' c
/-- rows told apart -/
theorem DenL.apart {K : PySem.W.Frag} {S : Sys} (I : S.Inj K) {H : Hp} {r n : Nat} (ok : S.ok H r) : ∀ {vs us : List V} {ts rs : List Tm}, DenL S H vs ts → DenL S H us rs → (∀ t ∈ ts, ∀ u ∈ rs, cmpT t u) → (∀ t ∈ ts, t.dep ≤ n) → (∀ t ∈ rs, t.dep ≤ n) →
    (∀ t ∈ ts, cmpT t t) → (∀ t ∈ rs, cmpT t t) → ∃ ds es, DpAll K H vs ds ∧ DpAll K H us es ∧ PyData.canLayAll0 ds = true ∧ PyData.canLayAll0 es = true ∧ PyData.depthAll ds ≤ n ∧ PyData.depthAll es ≤ n ∧ PyData.eqvAll ds es = decide (ts = rs)
  | vs, us, [], [], h, h', _, _, _, _, _ => by
    have e1 : vs = [] := List.eq_nil_of_length_eq_zero h.len
    have e2 : us = [] := List.eq_nil_of_length_eq_zero h'.len
    subst e1 e2
    exact ⟨[], [], .nil, .nil, rfl, rfl, Nat.zero_le _, Nat.zero_le _, by rw [PyData.eqvAll]; rfl⟩
  | [], _, t :: ts, _, h, _, _, _, _, _, _ => absurd h.len (by simp)
  | _, [], _, u :: rs, _, h', _, _, _, _, _ => absurd h'.len (by simp)
  | v :: vs, us, t :: ts, [], h, h', c, hd, hd', ct, cu => by
    have e2 : us = [] := List.eq_nil_of_length_eq_zero h'.len
    subst e2
    have t1 : DenL S H vs ts := h.drop 1
    obtain ⟨d, _, a1, _, a3, _, a4, _, _⟩ := I.inj ok (h.at_ 0 v t rfl rfl) (h.at_ 0 v t rfl rfl) (ct t List.mem_cons_self)
    obtain ⟨ds, es, b1, b2, b3, b4, b5, b6, b7⟩ := DenL.apart I ok t1 h' (fun t ht u hu => c t (List.mem_cons_of_mem _ ht) u hu) (fun t ht => hd t (List.mem_cons_of_mem _ ht)) hd' (fun t ht => ct t (List.mem_cons_of_mem _ ht)) cu
    cases b2
    refine ⟨d :: ds, [], .cons a1 b1, .nil, by rw [PyData.canLayAll0, a3, b3]; rfl, rfl, ?_, Nat.zero_le _, by rw [PyData.eqvAll]; first | rfl | simp⟩
    have := hd t List.mem_cons_self
    show max d.depth (PyData.depthAll ds) ≤ n
    omega
  | vs, u :: us, [], w :: rs, h, h', c, hd, hd', ct, cu => by
    have e2 : vs = [] := List.eq_nil_of_length_eq_zero h.len
    subst e2
    have t1 : DenL S H us rs := h'.drop 1
    obtain ⟨d, _, a1, _, a3, _, a4, _, _⟩ := I.inj ok (h'.at_ 0 u w rfl rfl) (h'.at_ 0 u w rfl rfl) (cu w List.mem_cons_self)
    obtain ⟨ds, es, b1, b2, b3, b4, b5, b6, b7⟩ := DenL.apart I ok h t1 (fun t ht u hu => c t ht u (List.mem_cons_of_mem _ hu)) hd (fun t ht => hd' t (List.mem_cons_of_mem _ ht)) ct (fun t ht => cu t (List.mem_cons_of_mem _ ht))
    cases b1
    refine ⟨[], d :: es, .nil, .cons a1 b2, rfl, by rw [PyData.canLayAll0, a3, b4]; rfl, Nat.zero_le _, ?_, by rw [PyData.eqvAll]; first | rfl | simp⟩
    have := hd' w List.mem_cons_self
    show max d.depth (PyData.depthAll es) ≤ n
    omega
  | v :: vs, u :: us, t :: ts, w :: rs, h, h', c, hd, hd', ct, cu => by
    have t1 : DenL S H vs ts := h.drop 1
    have t2 : DenL S H us rs := h'.drop 1
    obtain ⟨d, e, a1, a2, a3, a4, a5, a6, a7⟩ := I.inj ok (h.at_ 0 v t rfl rfl) (h'.at_ 0 u w rfl rfl) (c t List.mem_cons_self w List.mem_cons_self)
    obtain ⟨ds, es, b1, b2, b3, b4, b5, b6, b7⟩ := DenL.apart I ok t1 t2 (fun t ht u hu => c t (List.mem_cons_of_mem _ ht) u (List.mem_cons_of_mem _ hu)) (fun t ht => hd t (List.mem_cons_of_mem _ ht)) (fun t ht => hd' t (List.mem_cons_of_mem _ ht)) (fun t ht => ct t (List.mem_cons_of_mem _ ht)) (fun t ht => cu t (List.mem_cons_of_mem _ ht))
    refine ⟨d :: ds, e :: es, .cons a1 b1, .cons a2 b2, by rw [PyData.canLayAll0, a3, b3]; rfl, by rw [PyData.canLayAll0, a4, b4]; rfl, ?_, ?_, ?_⟩
    · have := hd t List.mem_cons_self
      show max d.depth (PyData.depthAll ds) ≤ n
      omega
    · have := hd' w List.mem_cons_self
      show max e.depth (PyData.depthAll es) ≤ n
      omega
    · rw [PyData.eqvAll, a7, b7]
      by_cases h1 : t = w <;> by_cases h2 : ts = rs <;> simp [h1, h2]
termination_by vs us ts rs => ts.length + rs.length
decreasing_by
  all_goals (simp; try omega)

/-! ### well-made things -/
inductive WS : Tm → Prop
  | leaf (x : Str) {a : Tm} (ha : WS a) : WS (.sl "leaf" (.str x) a)
  | tab (i : Int) {a : Tm} (ha : WS a) : WS (.sl "table" (.int i) a)
  | row (i : Int) (x : Str) : WS (.sl "row" (.int i) (.str x))
  | fork {a b : Tm} (ha : WS a) (hb : WS b) : WS (.sl "fork" a b)
  | non : WS nonT
  | pair {a b : Tm} (ha : WS a) (hb : WS b) : WS (pairT a b)
  | book (i : Int) {a : Tm} (ha : WS a) : WS (.sl "book" (.int i) a)
theorem WS.cmp {a : Tm} (h : WS a) : ∀ {b}, WS b → cmpT a b := by
  induction h with
  | leaf x ha iha =>
    intro b hb
    cases hb with
    | leaf y hb' => exact .inr ⟨True.intro, iha hb'⟩
    | tab _ _ => exact .inl (by decide +kernel)
    | row _ _ => exact .inl (by decide +kernel)
    | fork _ _ => exact .inl (by decide +kernel)
    | non => exact .inl (by decide +kernel)
    | pair _ _ => exact .inl (by decide +kernel)
    | book _ _ => exact .inl (by decide +kernel)
  | tab i ha iha =>
    intro b hb
    cases hb with
    | leaf _ _ => exact .inl (by decide +kernel)
    | tab j hb' => exact .inr ⟨True.intro, iha hb'⟩
    | row _ _ => exact .inl (by decide +kernel)
    | fork _ _ => exact .inl (by decide +kernel)
    | non => exact .inl (by decide +kernel)
    | pair _ _ => exact .inl (by decide +kernel)
    | book _ _ => exact .inl (by decide +kernel)
  | row i x =>
    intro b hb
    cases hb with
    | leaf _ _ => exact .inl (by decide +kernel)
    | tab _ _ => exact .inl (by decide +kernel)
    | row _ _ => exact .inr ⟨True.intro, True.intro⟩
    | fork _ _ => exact .inl (by decide +kernel)
    | non => exact .inl (by decide +kernel)
    | pair _ _ => exact .inl (by decide +kernel)
    | book _ _ => exact .inl (by decide +kernel)
  | fork ha hb iha ihb =>
    intro b hb
    cases hb with
    | leaf _ _ => exact .inl (by decide +kernel)
    | tab _ _ => exact .inl (by decide +kernel)
    | row _ _ => exact .inl (by decide +kernel)
    | fork ha' hb' => exact .inr ⟨iha ha', ihb hb'⟩
    | non => exact .inl (by decide +kernel)
    | pair _ _ => exact .inl (by decide +kernel)
    | book _ _ => exact .inl (by decide +kernel)
  | non =>
    intro b hb
    cases hb with
    | leaf _ _ => exact .inl (by decide +kernel)
    | tab _ _ => exact .inl (by decide +kernel)
    | row _ _ => exact .inl (by decide +kernel)
    | fork _ _ => exact .inl (by decide +kernel)
    | non => exact .inr ⟨True.intro, True.intro⟩
    | pair _ _ => exact .inl (by decide +kernel)
    | book _ _ => exact .inl (by decide +kernel)
  | pair ha hb iha ihb =>
    intro b hb
    cases hb with
    | leaf _ _ => exact .inl (by decide +kernel)
    | tab _ _ => exact .inl (by decide +kernel)
    | row _ _ => exact .inl (by decide +kernel)
    | fork _ _ => exact .inl (by decide +kernel)
    | non => exact .inl (by decide +kernel)
    | pair ha' hb' => exact .inr ⟨iha ha', ihb hb'⟩
    | book _ _ => exact .inl (by decide +kernel)
  | book i ha iha =>
    intro b hb
    cases hb with
    | leaf _ _ => exact .inl (by decide +kernel)
    | tab _ _ => exact .inl (by decide +kernel)
    | row _ _ => exact .inl (by decide +kernel)
    | fork _ _ => exact .inl (by decide +kernel)
    | non => exact .inl (by decide +kernel)
    | pair _ _ => exact .inl (by decide +kernel)
    | book j hb' => exact .inr ⟨True.intro, iha hb'⟩
theorem topT_ws {ts : List Tm} (h : ∀ t ∈ ts, WS t) : WS (topT ts) := by
  by_cases h2 : ts.length < 2
  · match ts, h2 with
    | [], _ => rw [topT_nil]; exact .non
    | [t], _ => rw [topT_one]; exact h t List.mem_cons_self
    | t :: u :: r, h2 => exact absurd h2 (by simp)
  · have hs := splitN_lt (n := ts.length) (by omega)
    have hs0 := splitN_pos ts.length
    rw [topT_more (by omega)]
    exact .pair (topT_ws fun t ht => h t (List.mem_of_mem_take ht)) (topT_ws fun t ht => h t (List.mem_of_mem_drop ht))
termination_by ts.length
decreasing_by
  · rw [List.length_take]; omega
  · rw [List.length_drop]; omega

/-! ### methods that may raise -/
structure MetR (P : Program) (w : World) (K : PySem.W.Frag) (mg : Str → Option Value) (base : Heap) (k : Nat) (C : Addr) (m : Str) (sp : Sp) : Prop where
  ex : ∃ (f : Addr) (fd : FuncData) (ps : List Str), Cls K C ∧ Meth K C m f ∧ FnOk P w K mg base (L2.CX P w) k f fd ps sp ∧ Binds K fd ps []
theorem metR_of {P : Program} {w : World} {K : PySem.W.Frag} {mg : Str → Option Value} {base : Heap} {C : Addr} {m qual : Str} {st : Stmt} {N ps : List Str} {k : Nat} {sp : Sp} (c : Cls K C) (D : MetX K C m qual st ps) (S : FnScope N ps (defScope st)) (len : ∀ vs H Q E, sp vs H Q E → vs.length = ps.length)
    (hbody : ∀ (f : Addr) (cdv : Value) (A : Around) (outer : List Env) (s : Shared) (H : Hp) (vs : List V) (Q : VK) (E : XK), Room k (A.deeper (envOfC qual (defScope st) s.heap.objs.size f cdv)) → sp vs H Q E →
      ∃ t, PSs (cxOf (L2.CX P w) P w K mg base N qual (defScope st) f cdv A outer s H E) (defBody st) t ∧ t { nx := fun _ H' => Q .non H', rt := Q } (start N vs) H) : MetR P w K mg base (k + 1) C m sp := by
  obtain ⟨f, fd, F, me, b⟩ := D.ex
  exact ⟨f, fd, ps, c, me, F.okX S len (hbody f), .all b⟩
def tMethX (C : Addr) (m : Str) (sp : Sp) (E : L2.St → XK) (ta : TE) (t : TA) : TE := fun σ H Q => ta σ H fun x H1 => ∃ a dx fs, x = .ref a ∧ H1 a = some (.ins C dx fs) ∧ fs.lookup m = none ∧ t σ H1 fun vs H2 => sp (x :: vs) H2 Q (E σ)
section
variable {X : Cx} {k j : Nat} {C : Addr} {m : Str} {sp : Sp} {pos apos : Pos} {e o : Expr} {es : List Expr} {ta : TE} {t : TA} {W : WX}
theorem pe_mtx {pl : Sem Bool} (c : MetR X.prog X.w X.K X.mg X.base k C m sp) (tk : Takes X W) (hr : Room j X.A) (hk : k ≤ j) (he : PE X o ta) (ha : PA X (e :: es) t)
    (hst : starEach (e :: es) X.env = (false, eval e X.env) :: starEach es X.env := by rfl) (hpl : (backTo pos (starEach es X.env)).any (·.1) = false := by rfl)
    (ht : eval (.Call (.Attribute o m apos) (e :: es) [] pos) X.env = (do
      let ov ← eval o X.env
      standAt apos.atName
      let (f, first) ← holding [ov] (getMethod ov m pl)
      callWith pos f first (backTo pos (starEach (e :: es) X.env)) (backToKw pos (keywordEach [] X.env))) := by rfl) :
    PE X (.Call (.Attribute o m apos) (e :: es) [] pos) (tMethX C m sp (WE W) ta t) := by
  obtain ⟨f, fd, ps, hc, hm, F, b⟩ := c.ex
  refine ⟨fun pins s σ H Q I h => ?_⟩
  refine PySem.W.methodCall_KW (pl := pl) (thn (he.run pins s σ H _ I h) fun u s1 ⟨x, H1, I1, rx, a, dx, fs, ex, ea, l, q⟩ => ?_) ht
  subst ex
  obtain rfl : u = Value.ref a := rx
  refine getmeth_ok I1 ea hc hm l ?_
  refine PySem.W.callWith_K (first := [.ref a]) (h₀ := X.base) I.ok.mod.kin hm.kp (thn (ha.run pos pins s1 σ H1 _ I1 q) fun us s2 ⟨vs, H2, I2, r, q2⟩ => ⟨I2.kIn, ?_⟩) hst hpl
  exact run_fnS (us := .ref a :: us) (vs := .ref a :: vs) F (hr.mono hk) b (passAt tk σ) I2 (.cons rfl r) q2
end

/-! ### methods that may raise, called with defaults -/
structure MetRD (P : Program) (w : World) (K : PySem.W.Frag) (mg : Str → Option Value) (base : Heap) (k : Nat) (C : Addr) (m : Str) (sp : Sp) (dvs : List V) : Prop where
  ex : ∃ (f : Addr) (fd : FuncData) (ps : List Str) (ds : List Value), Cls K C ∧ Meth K C m f ∧ FnOk P w K mg base (L2.CX P w) k f fd ps sp ∧ Binds K fd ps ds ∧ Vals dvs ds
theorem MetR.d {P : Program} {w : World} {K : PySem.W.Frag} {mg : Str → Option Value} {base : Heap} {C : Addr} {m : Str} {k : Nat} {sp : Sp} (c : MetR P w K mg base k C m sp) : MetRD P w K mg base k C m sp [] := by
  obtain ⟨f, fd, ps, hc, hm, F, b⟩ := c.ex
  exact ⟨f, fd, ps, [], hc, hm, F, b, .nil⟩
theorem metRD_of {P : Program} {w : World} {K : PySem.W.Frag} {mg : Str → Option Value} {base : Heap} {C : Addr} {m qual : Str} {st : Stmt} {N ps : List Str} {dvs : List V} {k : Nat} {sp : Sp} (n j : Nat) (c : Cls K C) (D : MetD K C m qual st ps dvs) (hd : dvs ≠ []) (hn : n + (dvs.length - j) = ps.length)
    (hb : ∀ (T : Addr) (kV doc pm : Value) (an : Option Addr) (cdv ct : Value) (us its : List Value), us.length = n → its.length = dvs.length →
      ∃ k, bindArgs (PySem.W.fnOf m qual (defArgs st) (defBody st) (defScope st) (.ref T) kV doc pm an cdv ct) ⟨us, []⟩ = seqItems? (.ref T) >>= k ∧ k (some its.toArray) = pure (ps.zip (us ++ its.drop j)))
    (S : FnScope N ps (defScope st)) (len : ∀ vs H Q E, sp vs H Q E → vs.length = ps.length)
    (hbody : ∀ (f : Addr) (cdv : Value) (A : Around) (outer : List Env) (s : Shared) (H : Hp) (vs : List V) (Q : VK) (E : XK), Room k (A.deeper (envOfC qual (defScope st) s.heap.objs.size f cdv)) → sp vs H Q E →
      ∃ t, PSs (cxOf (L2.CX P w) P w K mg base N qual (defScope st) f cdv A outer s H E) (defBody st) t ∧ t { nx := fun _ H' => Q .non H', rt := Q } (start N vs) H) : MetRD P w K mg base (k + 1) C m sp (dvs.drop j) := by
  obtain ⟨f, fd, F, me⟩ := D.ex
  obtain ⟨ds, d, b⟩ := F.binds1 n j hd hn hb
  exact ⟨f, fd, ps, ds, c, me, F.ok S len (hbody f), b, d⟩
def tMethXD (C : Addr) (m : Str) (sp : Sp) (dvs : List V) (E : L2.St → XK) (ta : TE) (t : TA) : TE := fun σ H Q => ta σ H fun x H1 => ∃ a dx fs, x = .ref a ∧ H1 a = some (.ins C dx fs) ∧ fs.lookup m = none ∧ t σ H1 fun vs H2 => sp ((x :: vs) ++ dvs) H2 Q (E σ)
section
variable {X : Cx} {k j : Nat} {C : Addr} {m : Str} {sp : Sp} {dvs : List V} {pos apos : Pos} {e o : Expr} {es : List Expr} {ta : TE} {t : TA} {W : WX}
theorem pe_mtd {pl : Sem Bool} (c : MetRD X.prog X.w X.K X.mg X.base k C m sp dvs) (tk : Takes X W) (hr : Room j X.A) (hk : k ≤ j) (he : PE X o ta) (ha : PA X (e :: es) t)
    (hst : starEach (e :: es) X.env = (false, eval e X.env) :: starEach es X.env := by rfl) (hpl : (backTo pos (starEach es X.env)).any (·.1) = false := by rfl)
    (ht : eval (.Call (.Attribute o m apos) (e :: es) [] pos) X.env = (do
      let ov ← eval o X.env
      standAt apos.atName
      let (f, first) ← holding [ov] (getMethod ov m pl)
      callWith pos f first (backTo pos (starEach (e :: es) X.env)) (backToKw pos (keywordEach [] X.env))) := by rfl) :
    PE X (.Call (.Attribute o m apos) (e :: es) [] pos) (tMethXD C m sp dvs (WE W) ta t) := by
  obtain ⟨f, fd, ps, ds, hc, hm, F, b, d⟩ := c.ex
  refine ⟨fun pins s σ H Q I h => ?_⟩
  refine PySem.W.methodCall_KW (pl := pl) (thn (he.run pins s σ H _ I h) fun u s1 ⟨x, H1, I1, rx, a, dx, fs, ex, ea, l, q⟩ => ?_) ht
  subst ex
  obtain rfl : u = Value.ref a := rx
  refine getmeth_ok I1 ea hc hm l ?_
  refine PySem.W.callWith_K (first := [.ref a]) (h₀ := X.base) I.ok.mod.kin hm.kp (thn (ha.run pos pins s1 σ H1 _ I1 q) fun us s2 ⟨vs, H2, I2, r, q2⟩ => ⟨I2.kIn, ?_⟩) hst hpl
  exact run_fnSD (us := .ref a :: us) (vs := .ref a :: vs) F (hr.mono hk) b d (passAt tk σ) I2 (.cons rfl r) q2
theorem pe_mtd0 {pl : Sem Bool} (c : MetRD X.prog X.w X.K X.mg X.base k C m sp dvs) (tk : Takes X W) (hr : Room j X.A) (hk : k ≤ j) (he : PE X o ta)
    (ht : eval (.Call (.Attribute o m apos) [] [] pos) X.env = (do
      let ov ← eval o X.env
      standAt apos.atName
      let (f, first) ← holding [ov] (getMethod ov m pl)
      callWith pos f first (backTo pos (starEach [] X.env)) (backToKw pos (keywordEach [] X.env))) := by rfl) :
    PE X (.Call (.Attribute o m apos) [] [] pos) (tMethXD C m sp dvs (WE W) ta tNil) := by
  obtain ⟨f, fd, ps, ds, hc, hm, F, b, d⟩ := c.ex
  refine ⟨fun pins s σ H Q I h => ?_⟩
  refine PySem.W.methodCall_KW (pl := pl) (thn (he.run pins s σ H _ I h) fun u s1 ⟨x, H1, I1, rx, a, dx, fs, ex, ea, l, q⟩ => ?_) ht
  subst ex
  obtain rfl : u = Value.ref a := rx
  refine getmeth_ok I1 ea hc hm l ?_
  exact PySem.W.callWith_K0 (first := [.ref a]) I1.kIn hm.kp (run_fnSD (us := [.ref a]) (vs := [.ref a]) F (hr.mono hk) b d (passAt tk σ) I1 (.cons rfl .nil) q)
end

/-! ### raising where nothing is handled, its context told; raising and calls while an exception is handled -/
section
variable {P : Program} {w : World} {K : PySem.W.Frag} {mg : Str → Option Value} {base : Heap}
theorem pmk_ownN {X : Cx} {C : Addr} {bmB : List Value} {B newId initId : String} {x m : Str} {j : Nat} {p p2 pos : Pos} (F : ExcBaseFacts B newId initId bmB) (hq : PySem.W.excIn X.K C bmB newId = true) (gC : X.mg x = some (.ref C)) (kC : PySem.W.keepIn X.K (.ref C) = true)
    (r : Raises X (.ref C)) (hg : Gl X x) (hdb : (x == ("__debug__" : Str)) = false := by decide) : L2N.PMk X (.Call (.Name x p) [.Constant (.str m) j p2] [] pos) (fun _ H Q => Q (.ref C) none H) := fun pins s σ H Q I h =>
  wpAny_Call_Name_kw (ld_glob I hg gC (PySem.W.callWith_K (h₀ := X.base) I.ok.mod.kin kC (thn ((pa_cons (pe_str (X := X) (x := m)) pa_nil).run pos pins s σ H (fun vs H1 => vs = [V.str m] ∧ H = H1) I ⟨rfl, rfl⟩) fun us s1 ⟨vs, H1, I1, r1, ev, eH⟩ => by
    subst ev eH
    refine ⟨I1.kIn, ?_⟩
    rcases r1 with _ | ⟨ru, rn⟩
    rcases rn with _ | _
    obtain ⟨_, _, _, _, _, _, _, _, _, _, _, _, _, _, _, _, mN, hC, hN, hni, T⟩ := exc_obj I1.kIn hq
    exact wpAny_call_exc_subT F T hC hN hni (fun h' e hm => L2N.mk_of I1 hm r h (I1.hok.gone hm.new)) (by show 1 ≤ sizeLine; rw [sizeLine_eq]; omega))) hdb)
/-- a method that may raise, cold; what it raises has no context -/
structure MetN (P : Program) (w : World) (K : PySem.W.Frag) (mg : Str → Option Value) (base : Heap) (k : Nat) (C : Addr) (m : Str) (sp : Sp) : Prop where
  ex : ∃ (f : Addr) (fd : FuncData) (ps : List Str), Cls K C ∧ Meth K C m f ∧ FnOk P w K mg base (L2N.CX P w) k f fd ps sp ∧ Binds K fd ps []
theorem metN_of {C : Addr} {m qual : Str} {st : Stmt} {N ps : List Str} {k : Nat} {sp : Sp} (c : Cls K C) (D : MetX K C m qual st ps) (S : FnScope N ps (defScope st)) (len : ∀ vs H Q E, sp vs H Q E → vs.length = ps.length)
    (hbody : ∀ (f : Addr) (cdv : Value) (A : Around) (outer : List Env) (s : Shared) (H : Hp) (vs : List V) (Q : VK) (E : XK), Room k (A.deeper (envOfC qual (defScope st) s.heap.objs.size f cdv)) → sp vs H Q E →
      ∃ t, PSs (cxOf (L2N.CX P w) P w K mg base N qual (defScope st) f cdv A outer s H E) (defBody st) t ∧ t { nx := fun _ H' => Q .non H', rt := Q } (start N vs) H) : MetN P w K mg base (k + 1) C m sp := by
  obtain ⟨f, fd, F, me, b⟩ := D.ex
  obtain ⟨oc, od, kV, doc, pm, an, cdv, ct, osl, rfl, lk, hcd⟩ := F.ex
  exact ⟨f, _, ps, c, me, fn_of lk hcd S len (hbody f cdv), .all b⟩
theorem MetN.weak {C : Addr} {m : Str} {k : Nat} {sp : Sp} (c : MetN P w K mg base k C m sp) : MetR P w K mg base k C m sp := by
  obtain ⟨f, fd, ps, hc, hm, F, b⟩ := c.ex
  refine ⟨f, fd, ps, hc, hm, ⟨F.len, fun A outer s H args us vs Q E hr e0 hb hv hsp => codeAny_mono (F.run A outer s H args us vs Q E hr e0 hb hv hsp) fun r s' q => ?_⟩, b⟩
  cases r with
  | ok fl =>
    cases fl <;> exact q
  | error e =>
    obtain ⟨a, B, H', cls, d, rfl, fl, more⟩ := q
    exact ⟨a, B, H', cls, d, rfl, L2H.flyingZ_imp (fun _ z => z.zc) fl, more⟩
theorem passAtN {X : Cx} {W : WX} (tk : L2N.Takes X W) (σ : L2.St) : PassesAt (L2N.CX X.prog X.w) X σ (WE W σ) := fun _ _ _ e s' I c => tk e s' (L2N.XE.of_call I (fun _ _ _ h => h) c)
section
variable {X : Cx} {k j : Nat} {C : Addr} {x m : Str} {sp : Sp} {p pos apos : Pos} {e o : Expr} {es : List Expr} {ta : TE} {t : TA} {W : WX}
theorem pe_mtn {pl : Sem Bool} (c : MetN X.prog X.w X.K X.mg X.base k C m sp) (tk : L2N.Takes X W) (hr : Room j X.A) (hk : k ≤ j) (he : PE X o ta) (ha : PA X (e :: es) t)
    (hst : starEach (e :: es) X.env = (false, eval e X.env) :: starEach es X.env := by rfl) (hpl : (backTo pos (starEach es X.env)).any (·.1) = false := by rfl)
    (ht : eval (.Call (.Attribute o m apos) (e :: es) [] pos) X.env = (do
      let ov ← eval o X.env
      standAt apos.atName
      let (f, first) ← holding [ov] (getMethod ov m pl)
      callWith pos f first (backTo pos (starEach (e :: es) X.env)) (backToKw pos (keywordEach [] X.env))) := by rfl) :
    PE X (.Call (.Attribute o m apos) (e :: es) [] pos) (tMethX C m sp (WE W) ta t) := by
  obtain ⟨f, fd, ps, hc, hm, F, b⟩ := c.ex
  refine ⟨fun pins s σ H Q I h => PySem.W.methodCall_KW (pl := pl) (thn (he.run pins s σ H _ I h) fun u s1 ⟨x, H1, I1, rx, a, dx, fs, ex, ea, l, q⟩ => ?_) ht⟩
  subst ex
  obtain rfl : u = Value.ref a := rx
  exact getmeth_ok I1 ea hc hm l (PySem.W.callWith_K (first := [.ref a]) (h₀ := X.base) I.ok.mod.kin hm.kp (thn (ha.run pos pins s1 σ H1 _ I1 q) fun us s2 ⟨vs, H2, I2, r, q2⟩ => ⟨I2.kIn, run_fnS (us := .ref a :: us) (vs := .ref a :: vs) F (hr.mono hk) b (passAtN tk σ) I2 (.cons rfl r) q2⟩) hst hpl)
theorem ps_raiseXN {j : Nat} {p2 p3 : Pos} (F : ExcF X.K C) (gC : X.mg x = some (.ref C)) (hc : X.calm = true) (tk : L2N.Takes X W) (hg : Gl X x) (hdb : (x == ("__debug__" : Str)) = false := by decide) :
    PS X (.Raise (some (.Call (.Name x p) [.Constant (.str m) j p2] [] p3)) none pos) (fun _ σ H => W (.ref C) none σ H) :=
  L2N.ps_raise hc tk (pmk_ownN PySem.F.excBase_ValueError F.xP gC F.kP (raises_own F.bP F.tP) hg hdb)
theorem ps_raiseXH {j : Nat} {p2 p3 : Pos} (F : ExcF X.K C) (gC : X.mg x = some (.ref C)) (hot : L2H.HotC X) (tk : Takes X W) (hg : Gl X x) (hdb : (x == ("__debug__" : Str)) = false := by decide) :
    PS X (.Raise (some (.Call (.Name x p) [.Constant (.str m) j p2] [] p3)) none pos) (fun _ σ H => W (.ref C) none σ H) :=
  L2H.ps_raiseH hot tk (pmk_ownN PySem.F.excBase_ValueError F.xP gC F.kP (raises_own F.bP F.tP) hg hdb)
theorem hot_tr {pn : List (Addr × Obj)} {xe : Value → Shared → Prop} (h : L2H.HotC X) (hq : ∀ q ∈ X.pn, q ∈ pn) : L2H.HotC (X.tr pn xe) := by
  obtain ⟨q, a, b⟩ := h
  exact ⟨q, a, hq q b⟩
theorem hot_suite {a : Addr} {oe : Obj} {cls : Value} {d : Option Addr} {pn : List (Addr × Obj)} (hz : L2N.Zn cls d oe) (hf : ∃ vs, oe.data = .fields vs) : L2H.HotC (X.suite a ((a, oe) :: pn)) := by
  obtain ⟨vs, e⟩ := hf
  exact ⟨(a, oe), ⟨rfl, vs, e, hz.2.2 vs e⟩, List.mem_cons_self⟩
end
/-- a method called while an exception is handled -/
structure MetH (P : Program) (w : World) (K : PySem.W.Frag) (mg : Str → Option Value) (base : Heap) (k : Nat) (C : Addr) (m : Str) (sp : Sp) : Prop where
  ex : ∃ (f : Addr) (fd : FuncData) (ps : List Str), Cls K C ∧ Meth K C m f ∧ L2H.FnH P w K mg base (L2.CX P w) k f fd ps sp ∧ Binds K fd ps []
theorem metH_of {C : Addr} {m qual : Str} {st : Stmt} {N ps : List Str} {k : Nat} {sp : Sp} (c : Cls K C) (D : MetX K C m qual st ps) (S : FnScope N ps (defScope st)) (len : ∀ vs H Q E, sp vs H Q E → vs.length = ps.length)
    (hbody : ∀ (f : Addr) (cdv : Value) (A : Around) (outer : List Env) (s : Shared) (H : Hp) (vs : List V) (Q : VK) (E : XK) (p : Addr × Obj), L2H.Hot1 A p → L2H.RoomH k (A.deeper (envOfC qual (defScope st) s.heap.objs.size f cdv)) → sp vs H Q E →
      ∃ t, PSs (L2H.cxH (L2.CX P w) P w K mg base N qual (defScope st) f cdv A outer s H E p) (defBody st) t ∧ t { nx := fun _ H' => Q .non H', rt := Q } (start N vs) H) : MetH P w K mg base (k + 1) C m sp := by
  obtain ⟨f, fd, F, me, b⟩ := D.ex
  obtain ⟨oc, od, kV, doc, pm, an, cdv, ct, osl, rfl, lk, hcd⟩ := F.ex
  exact ⟨f, _, ps, c, me, L2H.fn_ofH lk hcd S len (hbody f cdv), .all b⟩
/-- a def called while an exception is handled -/
structure CalH (P : Program) (w : World) (K : PySem.W.Frag) (mg : Str → Option Value) (base : Heap) (k : Nat) (x : Str) (sp : Sp) : Prop where
  ex : ∃ (f : Addr) (fd : FuncData) (ps : List Str), L2H.FnH P w K mg base L2.CX0 k f fd ps sp ∧ mg x = some (.ref f) ∧ PySem.W.keepIn K (.ref f) = true ∧ Binds K fd ps []
theorem calH_of {x : Str} {st : Stmt} {N ps : List Str} {k : Nat} {sp : Sp} (D : DefX K mg x st ps) (S : FnScope N ps (defScope st)) (len : ∀ vs H Q E, sp vs H Q E → vs.length = ps.length)
    (hbody : ∀ (f : Addr) (cdv : Value) (A : Around) (outer : List Env) (s : Shared) (H : Hp) (vs : List V) (Q : VK) (E : XK) (p : Addr × Obj), L2H.Hot1 A p → L2H.RoomH k (A.deeper (envOfC x (defScope st) s.heap.objs.size f cdv)) → sp vs H Q E →
      ∃ t, PSs (L2H.cxH L2.CX0 P w K mg base N x (defScope st) f cdv A outer s H E p).nox (defBody st) t ∧ t { nx := fun _ H' => Q .non H', rt := Q } (start N vs) H) : CalH P w K mg base (k + 1) x sp := by
  obtain ⟨f, fd, F, me, b⟩ := D.ex
  have kp := F.kp
  obtain ⟨oc, od, kV, doc, pm, an, cdv, ct, osl, rfl, lk, hcd⟩ := F.ex
  refine ⟨f, _, ps, L2H.fn_ofH lk hcd S len (fun A outer s H vs Q E p h1 hr hsp => ?_), me, kp, .all b⟩
  obtain ⟨t, g1, g2⟩ := hbody f cdv A outer s H vs Q E p h1 hr hsp
  exact ⟨t, g1.nox, g2⟩
section
variable {X : Cx} {k j : Nat} {C : Addr} {x m : Str} {sp : Sp} {p pos apos : Pos} {e o : Expr} {es : List Expr} {ta : TE} {t : TA} {W : WX}
theorem pe_mth {pl : Sem Bool} (c : MetH X.prog X.w X.K X.mg X.base k C m sp) (hot : L2H.HotC X) (tk : Takes X W) (hr : L2H.RoomH j X.A) (hk : k ≤ j) (he : PE X o ta) (ha : PA X (e :: es) t)
    (hst : starEach (e :: es) X.env = (false, eval e X.env) :: starEach es X.env := by rfl) (hpl : (backTo pos (starEach es X.env)).any (·.1) = false := by rfl)
    (ht : eval (.Call (.Attribute o m apos) (e :: es) [] pos) X.env = (do
      let ov ← eval o X.env
      standAt apos.atName
      let (f, first) ← holding [ov] (getMethod ov m pl)
      callWith pos f first (backTo pos (starEach (e :: es) X.env)) (backToKw pos (keywordEach [] X.env))) := by rfl) :
    PE X (.Call (.Attribute o m apos) (e :: es) [] pos) (L2H.tMethH C m sp (WE W) ta t) := by
  obtain ⟨f, fd, ps, hc, hm, F, b⟩ := c.ex
  exact L2H.pe_methH (pl := pl) he hc hm F (hr.mono hk) hot b (fun σ => passAt tk σ) ha hst hpl ht
theorem pe_cH (c : CalH X.prog X.w X.K X.mg X.base k x sp) (hot : L2H.HotC X) (hr : L2H.RoomH j X.A) (hk : k ≤ j) (hg : Gl X x) (ha : PA X (e :: es) t)
    (hdb : (x == ("__debug__" : Str)) = false := by decide) (he : starEach (e :: es) X.env = (false, eval e X.env) :: starEach es X.env := by rfl) (hpl : (backTo pos (starEach es X.env)).any (·.1) = false := by rfl) :
    PE X (.Call (.Name x p) (e :: es) [] pos) (tCallS sp (fun _ => L2.E0) t) := by
  obtain ⟨f, fd, ps, F, m, kp, b⟩ := c.ex
  exact L2H.pe_callH F (hr.mono hk) hot hg m kp b (fun σ _ _ _ _ _ _ z => False.elim z) ha hdb he hpl
end
end
theorem takesN0 {X : Cx} : L2N.Takes X (fun _ _ _ _ => False) := fun _ _ ⟨_, _, _, _, _, _, _, _, _, _, _, _, _, _, _, _, z⟩ => z.elim
theorem roomH_suite {X : Cx} {k : Nat} {a : Addr} {pn : List (Addr × Obj)} (h : Room k X.A) : L2H.RoomH k (X.suite a pn).A := ⟨h.dp, h.un⟩

section
variable {P : Program} {w : World} {K : PySem.W.Frag} {mg : Str → Option Value} {base : Heap}
theorem ps_imp {X : Cx} {st : Stmt} {t t' : TS} (h : PS X st t) (i : ∀ D σ H, t' D σ H → t D σ H) : PS X st t' := ⟨fun pins s σ H D I q => h.run pins s σ H D I (i D σ H q)⟩
section
variable {X : Cx} {C : Addr} {x : Str} {e : Expr} {es : List Expr} {te : TE} {ta : TA} {p p1 p2 pos : Pos}
/-- B.__init__(self, ..) of such a class B -/
theorem pe_beinit {pl : Sem Bool} (hg : Gl X x) (gC : X.mg x = some (.ref C)) (b1 : PySem.W.specialIn X.K (.ref C) "__getattribute__" = some (some (.builtin "type.__getattribute__"))) (b2 : PySem.W.readsIn X.K C (.type "type") = true)
    (b3 : PySem.W.findCls X.K (.ref C) (.type "type") "__init__" = some (.val (.builtin "ValueError.__init__"))) (ha : PA X (e :: es) ta) (hdb : (x == ("__debug__" : Str)) = false := by decide)
    (hc : eval (.Call (.Attribute (.Name x p1) "__init__" p2) (e :: es) [] pos) X.env = (do
      let ov ← eval (.Name x p1) X.env
      standAt p2.atName
      let (f, first) ← holding [ov] (getMethod ov "__init__" pl)
      callWith pos f first (backTo pos (starEach (e :: es) X.env)) (backToKw pos (keywordEach [] X.env))) := by rfl)
    (he : starEach (e :: es) X.env = (false, eval e X.env) :: starEach es X.env := by rfl) (hpl : (backTo pos (starEach es X.env)).any (·.1) = false := by rfl) :
    PE X (.Call (.Attribute (.Name x p1) "__init__" p2) (e :: es) [] pos) (tVeI X.K ta) := by
  refine ⟨fun pins s σ H Q I h => PySem.W.methodCall_KW (ld_glob I hg gC (PySem.W.method_cls I.kIn b1 (PySem.W.cls_value I.kIn b2 b3 (by decide +kernel) ?_)) hdb) hc⟩
  show wpAny _ _ (callWith pos (Value.builtin "ValueError.__init__") [] (backTo pos (starEach (e :: es) X.env)) []) _ _ _
  refine PyProof.Rows.callWith_method1 (thn (ha.run pos pins _ σ H _ (I.tok _) h) fun us s1 ⟨vs, H1, I1, r1, a, D, ws, ev, hl, T, ea, q⟩ => ?_) he hpl
  subst ev
  rcases r1 with _ | ⟨ra, rw'⟩
  obtain rfl := ra
  exact oinit_ok T I1 ea (by rw [← Paired.length rw', sizeLine_eq]; omega) fun s' J => ⟨.non, H1, J, rfl, q⟩
end
/-- C(e) cold, its context told -/
theorem pmk_oexN {X : Cx} {CX : CXT} {x : Str} {e : Expr} {es : List Expr} {ta : TA} {p pos : Pos} {C fI : Addr} {k : Nat} {fd : FuncData} {ps : List Str} {sp : Sp} (T : OexC X.K C) (iC : PySem.W.findIn X.K (.ref C) "__init__" = some (some (.ref fI))) (tI : PySem.W.typeIn X.K (.ref fI) = some (.type "function"))
    (F1 : FnOk X.prog X.w X.K X.mg X.base CX k fI fd ps sp) (hr : Room (k + 1) X.A) (hb : Binds X.K fd ps []) (hx : Passes CX X (fun _ _ _ => False)) (hg : Gl X x) (hm : X.mg x = some (.ref C)) (ha : PA X (e :: es) ta)
    (hdb : (x == ("__debug__" : Str)) = false := by decide) (he : starEach (e :: es) X.env = (false, eval e X.env) :: starEach es X.env := by rfl) (hpl : (backTo pos (starEach es X.env)).any (·.1) = false := by rfl) :
    L2N.PMk X (.Call (.Name x p) (e :: es) [] pos) (tMkO C sp [] ta) := by
  intro pins s σ H Q I h
  obtain ⟨_, _, _, _, bm, _, _, _, _, _, _, _, _, _, _, lC, rbm⟩ := T.cls
  refine wpAny_Call_Name_kw (ld_glob I hg hm (PySem.W.callWith_K (h₀ := X.base) I.ok.mod.kin T.kC (thn (ha.run pos pins s σ H _ I h) fun us s1 ⟨vs, H1, I1, r1, hz, q1⟩ => ⟨I1.kIn, ?_⟩) he hpl) hdb)
  obtain ⟨hp, g, dr, tk, os⟩ := s1
  have big : hp.objs.size ≤ hp.objs.size + 1 := Nat.le_succ _
  have hq := q1 (hp.objs.size + 1) (I1.hok.fresh big)
  rw [List.append_nil] at hq
  have keep : ∀ b o, hp.get? b = some o → ((hp.push (PySem.W.kdv_tup us)).push (PySem.HandSPX.excO C hp.objs.size)).get? b = some o := fun b o z => Heap.get?_push_of_some _ (Heap.get?_push_of_some _ z)
  have at1 : ((hp.push (PySem.W.kdv_tup us)).push (PySem.HandSPX.excO C hp.objs.size)).get? (hp.objs.size + 1) = some (PySem.HandSPX.excO C hp.objs.size) := by heap_get
  have I2 : Inv X pins σ (upd H1 (hp.objs.size + 1) (exo (hp.objs.size + 1) C none)) ⟨((hp.push (PySem.W.kdv_tup us)).push (PySem.HandSPX.excO C hp.objs.size)), g, dr, tk, os⟩ := I1.laid (t' := tk) (a := hp.objs.size + 1) (o := exo (hp.objs.size + 1) C none) (h' := ((hp.push (PySem.W.kdv_tup us)).push (PySem.HandSPX.excO C hp.objs.size))) keep big (exo_ok at1)
  have rv2 : Vals (V.ref (hp.objs.size + 1) :: vs) (Value.ref (hp.objs.size + 1) :: us) := .cons rfl r1
  have len2 : (Value.ref (hp.objs.size + 1) :: us ++ []).length = ps.length := by
    rw [List.append_nil, ← F1.len _ _ _ _ hq]
    exact rv2.length.symm
  have few : us.length ≤ sizeLine := by
    rw [← Paired.length r1, sizeLine_eq]
    omega
  have bnd := hb _ (Value.ref (hp.objs.size + 1) :: us) I2.kIn len2
  rw [List.append_nil] at bnd
  refine wpAny_call (PySem.HandSPX.call_own F.excBase_ValueError (fun Y => PySem.HandSPX.refsVE_contains Y bm rbm) (I1.kIn _ _ lC) (PySem.W.looks_findIn I1.kIn iC) (fun self => PySem.W.bind_fn I1.kIn self tI) few
    (codeAny_mono (F1.run _ X.stack _ _ ⟨Value.ref (hp.objs.size + 1) :: us, []⟩ (Value.ref (hp.objs.size + 1) :: us) _ _ (fun _ _ _ => False) (hr.make C us []) (I2.env0.make C us []) bnd rv2 hq) fun r sE done => ?_))
  rcases r with er | fl
  · exact hx pins σ _ _ er sE I2 done
  cases fl with
  | next => exact False.elim done
  | brk => exact False.elim done
  | cont => exact False.elim done
  | ret u =>
    obtain ⟨v, H2, os2, bare2, un2, hok2, rv, ev, d, fs, ea, ed, hd1, q2⟩ := done
    subst ev
    obtain ⟨h2, g2, d2, t2, os'⟩ := sE
    obtain ⟨t0, G, J, kG, ge, hoe, na⟩ := mk_end0 (d2 := d2) (t2 := t2) I1 big keep un2 hok2 os2 bare2 ea ed hd1
    exact ⟨rv, hp.objs.size + 1, _, _, ⟨G, g2, d2, t2, os'⟩, _, .ref C, some d, rfl, J, kG, ge, hoe, ⟨rfl, rfl, fun vs hv => by cases hv; rfl⟩, rfl, rfl, na, rfl, bare2, raises_own T.exC T.tyC, q2⟩
/-! ### the error's __init__, and raising it -/
def spExI (C : Addr) (fld : Str) : Sp := fun vs H Q _ => ∃ (a : Addr) (i : Int), vs = [.ref a, .int i] ∧ 0 ≤ i ∧ i < 1000000 ∧ H a = some (exo a C none) ∧ ∀ dx, H dx = none → dx ≠ a → Q .non (upd (upd H dx (exd dx [(fld, .int i)])) a (exo a C (some dx)))
/-- what raise C(e) asks -/
def tRzI (W : WX) (C : Addr) (fld : Str) (te : TE) : TS := fun _ σ H => te σ H fun v H1 => ∃ i : Int, v = .int i ∧ 0 ≤ i ∧ i < 1000000 ∧ ∀ dx, H1 dx = none → W (.ref C) (some dx) σ (upd H1 dx (.xd [(fld, .int i)]))
theorem rz_of {W : WX} {C : Addr} {fld : Str} {te : TE} (hte : ∀ σ H (Q Q' : VK), (∀ v H', Q v H' → Q' v H') → te σ H Q → te σ H Q') {D : Ends} {σ : L2.St} {H : Hp} (h : tRzI W C fld te D σ H) : tMkO C (spExI C fld) [] (tCons te tNil) σ H (fun cls d H' => W cls d σ H') := by
  refine hte σ H _ _ (fun v H1 q => ?_) h
  obtain ⟨i, rfl, h0, h1, q⟩ := q
  refine ⟨by show 1 ≤ 1000; decide, fun a na => ⟨a, i, rfl, h0, h1, upd_same, fun dx ndx hne => ?_⟩⟩
  have nd1 : H1 dx = none := by rwa [upd_ne hne] at ndx
  refine ⟨rfl, dx, _, upd_same, by rw [upd_ne hne]; exact upd_same, nd1, ?_⟩
  have e : upd (del (upd (upd (upd H1 a (exo a C none)) dx (exd dx [(fld, .int i)])) a (exo a C (some dx))) a) dx (.xd [(fld, .int i)]) = upd H1 dx (.xd [(fld, .int i)]) := by
    funext b
    by_cases c1 : b = dx
    · rw [c1, upd_same, upd_same]
    · rw [upd_ne c1, upd_ne c1]
      by_cases c2 : b = a
      · rw [c2, del_same, na]
      · rw [del_ne c2, upd_ne c2, upd_ne c1, upd_ne c2]
  rw [e]
  exact q dx nd1
section
variable {X : Cx} {x bx fld qual : Str} {st : Stmt} {ps : List Str} {C B : Addr} {e : Expr} {te : TE} {p p2 pos pos' : Pos} {W : WX}
theorem ps_raiseIN {j : Nat} (EI : ExcI X.K X.mg x bx fld qual st ps C B) (F : ∀ fI fd, L2.Fun X.K "__init__" qual st fI fd → FnOk X.prog X.w X.K X.mg X.base L2.CX0 1 fI fd ps (spExI C fld)) (hr : Room j X.A) (hj : 2 ≤ j) (hcl : X.calm = true) (tk : L2N.Takes X W) (hg : Gl X x) (he : PE X e te)
    (hte : ∀ σ H (Q Q' : VK), (∀ v H', Q v H' → Q' v H') → te σ H Q → te σ H Q') (hdb : (x == ("__debug__" : Str)) = false := by decide) (hst : starEach [e] X.env = (false, eval e X.env) :: starEach [] X.env := by rfl) (hpl : (backTo pos (starEach [] X.env)).any (·.1) = false := by rfl) :
    PS X (.Raise (some (.Call (.Name x p) [e] [] pos)) none pos') (tRzI W C fld te) := by
  obtain ⟨fI, fd, Fu, iC, tI, b⟩ := EI.ini
  exact ps_imp (L2N.ps_raise hcl tk (pmk_oexN EI.T iC tI (F fI fd Fu) (hr.mono hj) (.all b) (fun _ _ _ _ _ _ _ z => z.elim) hg EI.gC (pa_cons he pa_nil hst) hdb hst hpl)) fun D σ H q => rz_of hte q
theorem ps_raiseIH {j : Nat} (EI : ExcI X.K X.mg x bx fld qual st ps C B) (F : ∀ fI fd, L2.Fun X.K "__init__" qual st fI fd → L2H.FnH X.prog X.w X.K X.mg X.base L2.CX0 1 fI fd ps (spExI C fld)) (hr : L2H.RoomH j X.A) (hj : 2 ≤ j) (hot : L2H.HotC X) (tk : Takes X W) (hg : Gl X x) (he : PE X e te)
    (hte : ∀ σ H (Q Q' : VK), (∀ v H', Q v H' → Q' v H') → te σ H Q → te σ H Q') (hdb : (x == ("__debug__" : Str)) = false := by decide) (hst : starEach [e] X.env = (false, eval e X.env) :: starEach [] X.env := by rfl) (hpl : (backTo pos (starEach [] X.env)).any (·.1) = false := by rfl) :
    PS X (.Raise (some (.Call (.Name x p) [e] [] pos)) none pos') (tRzI W C fld te) := by
  obtain ⟨fI, fd, Fu, iC, tI, b⟩ := EI.ini
  exact ps_imp (L2H.ps_raiseH hot tk (L2H.pmk5_oexH EI.T iC tI (F fI fd Fu) (hr.mono hj) hot (.all b) (fun _ _ _ _ _ _ _ z => z.elim) hg EI.gC (pa_cons he pa_nil hst) hdb hst hpl).pmk) fun D σ H q => rz_of hte q
end
end

/-- a def that may raise, cold; what it raises has no context -/
structure CalN (P : Program) (w : World) (K : PySem.W.Frag) (mg : Str → Option Value) (base : Heap) (k : Nat) (x : Str) (sp : Sp) : Prop where
  ex : ∃ (f : Addr) (fd : FuncData) (ps : List Str), FnOk P w K mg base (L2N.CX P w) k f fd ps sp ∧ mg x = some (.ref f) ∧ PySem.W.keepIn K (.ref f) = true ∧ Binds K fd ps []
theorem calN_of {P : Program} {w : World} {K : PySem.W.Frag} {mg : Str → Option Value} {base : Heap} {x : Str} {st : Stmt} {N ps : List Str} {k : Nat} {sp : Sp} (D : DefX K mg x st ps) (S : FnScope N ps (defScope st)) (len : ∀ vs H Q E, sp vs H Q E → vs.length = ps.length)
    (hbody : ∀ (f : Addr) (cdv : Value) (A : Around) (outer : List Env) (s : Shared) (H : Hp) (vs : List V) (Q : VK) (E : XK), Room k (A.deeper (envOfC x (defScope st) s.heap.objs.size f cdv)) → sp vs H Q E →
      ∃ t, PSs (cxOf (L2N.CX P w) P w K mg base N x (defScope st) f cdv A outer s H E) (defBody st) t ∧ t { nx := fun _ H' => Q .non H', rt := Q } (start N vs) H) : CalN P w K mg base (k + 1) x sp := by
  obtain ⟨f, fd, F, m, b⟩ := D.ex
  have kp := F.kp
  obtain ⟨oc, od, kV, doc, pm, an, cdv, ct, osl, rfl, lk, hcd⟩ := F.ex
  exact ⟨f, _, ps, fn_of lk hcd S len (hbody f cdv), m, kp, .all b⟩
theorem CalN.weak {P : Program} {w : World} {K : PySem.W.Frag} {mg : Str → Option Value} {base : Heap} {x : Str} {k : Nat} {sp : Sp} (c : CalN P w K mg base k x sp) : CalX P w K mg base k x sp := by
  obtain ⟨f, fd, ps, F, m, kp, b⟩ := c.ex
  refine ⟨f, fd, ps, ⟨F.len, fun A outer s H args us vs Q E hr e0 hb hv hsp => codeAny_mono (F.run A outer s H args us vs Q E hr e0 hb hv hsp) fun r s' q => ?_⟩, m, kp, b⟩
  cases r with
  | ok fl =>
    cases fl <;> exact q
  | error e =>
    obtain ⟨a, B, H', cls, d, rfl, fl, more⟩ := q
    exact ⟨a, B, H', cls, d, rfl, L2H.flyingZ_imp (fun _ z => z.zc) fl, more⟩
/-- x(..) of such a def, within what takes W -/
theorem pe_cn {X : Cx} {k j : Nat} {x : Str} {sp : Sp} {W : WX} {t : TA} {e : Expr} {es : List Expr} {p pos : Pos} (c : CalN X.prog X.w X.K X.mg X.base k x sp) (tk : L2N.Takes X W) (hr : Room j X.A) (hk : k ≤ j) (hg : Gl X x) (ha : PA X (e :: es) t)
    (hdb : (x == ("__debug__" : Str)) = false := by decide) (he : starEach (e :: es) X.env = (false, eval e X.env) :: starEach es X.env := by rfl) (hpl : (backTo pos (starEach es X.env)).any (·.1) = false := by rfl) :
    PE X (.Call (.Name x p) (e :: es) [] pos) (tCallS sp (WE W) t) := by
  obtain ⟨f, fd, ps, F, m, kp, b⟩ := c.ex
  exact pe_callS F (hr.mono hk) hg m kp b (fun σ => passAtN tk σ) ha hdb he hpl

/-! ### try .. except X: (a suite that may raise) .. else -/
section
variable {X : Cx} {x : Str} {c : Value} {body more orelse : List Stmt} {st0 : Stmt} {np q0 q1 : Pos} {tb : WX → TS} {ts : Addr → Value → Option Addr → TS} {Wo : WX} {u : TS}
theorem ps_try_onlyXE (ho : PSs X orelse u) (hs : X.stack = X.env :: X.outer) (hf : X.env.frame = some X.env.locals) (hc : Names X x c) (hpa : ∀ hd : Option Value, PassesOwnAt (model X.prog X.w) (X.A.mark hd) X.A X.env X.xe) (tk : Takes X Wo)
    (hb : ∀ (W : WX) (pn : List (Addr × Obj)) (xe : Value → Shared → Prop), L2N.Takes (X.tr pn xe) W → PassesOwn (model X.prog X.w) X.A X.env xe → PSs (X.tr pn xe) body (tb W))
    (hsu : ∀ (a : Addr) (oe : Obj) (cls : Value) (d : Option Addr) (pn : List (Addr × Obj)), L2N.Zn cls d oe → (∃ vs, oe.data = .fields vs) → Takes (L2H.suiteX X a ((a, oe) :: pn)) Wo → L2H.HotC (L2H.suiteX X a ((a, oe) :: pn)) →
      PSs (L2H.suiteX X a ((a, oe) :: pn)) (st0 :: more) (ts a cls d)) :
    PS X (.Try body [.ExceptHandler (some (.Name x np)) none (st0 :: more) q1] orelse [] q0) (fun D σ H => tb (wOnly X.K c ts Wo D) { D with nx := u D } σ H) := by
  refine ⟨fun pins s0 σ H D I0 h0 => wpAny_Try_except ?_⟩
  have ok := I0.ok
  have frE : X.A.frames = some (X.env :: X.outer) := ok.frames.trans (congrArg some hs)
  let look : Value → Shared → Prop := fun e s₁ => wpAny (model X.prog X.w) X.A (noteFrame e X.env) (fun _ s₂ =>
    wpAny (model X.prog X.w) X.A (setFlight e none) (fun _ s₃ => wpAny (model X.prog X.w) X.A (handleBy e X.env
      [.ExceptHandler (some (.Name x np)) none (st0 :: more) q1]) (SP X pins D) X.xe s₃) X.xe s₂) X.xe s₁
  have hook : L2N.Takes (X.tr (X.pn ++ pins) look) (wOnly X.K c ts Wo D) := by
    rintro u1 sE ⟨a, B, sI, pins', σ1, H1, cls, d, rfl, J', nb, up, sky, na, os, ag, b, hbb, yes, no⟩
    have J : Inv X pins σ1 H1 sI := J'.ofTry ok
    have sky1 : Sky B (X.env :: X.outer) a (L2N.Zn cls d) X.env.locals sE.heap := hs ▸ sky
    refine L2N.Sky.land L2N.Zn.steady frE hf sky1 fun hA flA upA => ?_
    have JA : Inv X pins σ1 H1 { sE with heap := hA } := J.landed nb flA.1 (up.trans upA) os ag
    obtain ⟨oA, vA, gA, zA, dA⟩ := flA.there
    have offFrames : a ∉ frs (X.env :: X.outer) := fun hm => by
      obtain ⟨_, o', e', hnf⟩ := flA.2.2.1.mem hm
      cases gA.symm.trans e'
      exact hnf _ dA
    have offLoc : a ≠ X.env.locals := fun z => offFrames (List.mem_filterMap.mpr ⟨X.env, List.mem_cons_self, z ▸ hf⟩)
    have offFs : a ∉ X.fs := fun hm => (List.mem_filterMap.mp hm).elim fun e1 ⟨p1, p2⟩ => offFrames (List.mem_filterMap.mpr ⟨e1, List.mem_cons_of_mem _ p1, p2⟩)
    have SA := JA.suite gA dA na offLoc offFs
    have lookT : PySem.W.Looks (model X.prog X.w) hA (typeOf (.ref a)) cls := fun _ _ _ _ kk qq => wpAny_typeOf_ref (kk _ _ gA) (zA.1.symm ▸ qq)
    have exM := PySem.W.exm_one (M := model X.prog X.w) JA.kIn lookT hbb
    have named : ∀ {Q : Value → Shared → Prop} {E : Value → Shared → Prop}, Q c { sE with heap := hA } →
        wpAny (model X.prog X.w) (X.A.mark (some (.ref a))) (eval (.Name x np) X.env) Q E { sE with heap := hA } := fun qq => by
      rcases hc with ⟨g1, g2, g3 | ⟨g3, g4, g5⟩⟩
      · exact ld_glob (X := X.suite a ((a, oA) :: (X.pn ++ pins))) SA g1 g3 qq g2
      · exact ld_blt (X := X.suite a ((a, oA) :: (X.pn ++ pins))) SA g1 g3 g4 qq g5 g2
    refine wpAny_handleBy_cons (codeAny_handlers_test (named (exM.here ?_))) (fun z => nomatch z)
    cases b with
    | true =>
      refine codeAny_handlers_suite (HandSPX.lands_againZ flA fun hB flB upB => ?_)
      have JB : Inv X pins σ1 H1 { sE with heap := hB } := J.landed nb flB.1 ((up.trans upA).trans upB) os ag
      obtain ⟨oB, vB, gB, zB, dB⟩ := flB.there
      have tkS : Takes (L2H.suiteX X a ((a, oB) :: (X.pn ++ pins))) Wo := fun u2 s2 ⟨a2, B2, sI2, _, σ2, H2, cls2, d2, e2, I2, more2⟩ => tk u2 s2 ⟨a2, B2, sI2, pins, σ2, H2, cls2, d2, e2, L2H.unsuiteX I2 ok, more2⟩
      have hot : L2H.HotC (L2H.suiteX X a ((a, oB) :: (X.pn ++ pins))) := ⟨(a, oB), ⟨rfl, vB, dB, zB.2.2 vB dB⟩, List.mem_cons_self⟩
      refine wpAny_mono ((hsu a oB cls d (X.pn ++ pins) zB ⟨_, dB⟩ tkS hot).run [] _ _ H1 _ (L2H.suiteX_of (JB.suite gB dB na offLoc offFs)) (yes rfl a na)) (fun fl sF hh => ?_) (fun e6 s6 z => hpa (some (.ref a)) e6 s6 z)
      cases fl with
      | next => exact hh.elim fun _ ⟨_, T, qq⟩ => ⟨_, _, L2H.unsuiteX T ok, qq⟩
      | brk => exact hh.elim fun _ ⟨_, T, qq⟩ => ⟨_, _, L2H.unsuiteX T ok, qq⟩
      | cont => exact hh.elim fun _ ⟨_, T, qq⟩ => ⟨_, _, L2H.unsuiteX T ok, qq⟩
      | ret u => exact hh.elim fun _ ⟨_, _, T, rr, qq⟩ => ⟨_, _, _, L2H.unsuiteX T ok, rr, qq⟩
    | false =>
      have flZ : HandSPX.FlyingZ B (X.env :: X.outer) a (Zc cls d) hA := L2H.flyingZ_imp (fun _ z => z.zc) flA
      obtain ⟨_, _, _, oe, vs, tbk, _, _, he, _, hd, h1, _⟩ := id flZ
      show wpAny _ X.A (handleBy (.ref a) X.env []) _ _ _
      refine wpAny_handleBy_nil ?_
      have away : wpAny (model X.prog X.w) X.A (setFlight (.ref a) X.env.frame) (fun _ sG => wpAny (model X.prog X.w) X.A (throw (.ref a) : Sem Flow) (SP X pins D) X.xe sG) X.xe { sE with heap := hA } := by
        rw [hf]
        exact HandSPX.setFlight_upZ flZ fun hB heldB upB => wpAny_throw (tk _ _ ⟨a, B, sI, pins, σ1, H1, cls, d, rfl, J, nb, (up.trans upA).trans upB, .inr (.inr (hs.symm ▸ heldB)), na, os, ag, no rfl⟩)
      unfold PySem.passOn
      refine wpAny_bind (wpAny_field he hd h1 ?_)
      rw [if_neg (show ¬ ((Value.ref tbk == Value.none) = true) by simp)]
      first
        | exact wpAny_bind (wpAny_pure (wpAny_bind away))
        | exact wpAny_bind away
  refine wpAny_mono ((hb _ _ look hook PassesOwn.looking).run [] s0 σ H { D with nx := u D } (I0.toTry _) h0) (fun fl sE hh => ?_) (fun e sE he => he)
  cases fl with
  | next => exact hh.elim fun _ ⟨_, T, qq⟩ => ho.run pins sE _ _ D (T.ofTry ok) qq
  | brk => exact hh.elim fun _ ⟨_, T, qq⟩ => ⟨_, _, T.ofTry ok, qq⟩
  | cont => exact hh.elim fun _ ⟨_, T, qq⟩ => ⟨_, _, T.ofTry ok, qq⟩
  | ret u => exact hh.elim fun _ ⟨_, _, T, rr, qq⟩ => ⟨_, _, _, T.ofTry ok, rr, qq⟩
end

/-! ### numbers and words drawn -/
section
variable {P : Program} {w : World} {K : PySem.W.Frag} {mg : Str → Option Value} {base : Heap}
def spDraw : Sp := fun vs H Q _ => ∃ (c k m : Int), vs = [.int c, .int k, .int m] ∧ 0 ≤ k ∧ k < 1000000 ∧ 0 < m ∧ ∀ (z : Int) (H' : Hp), 0 ≤ z → z < m → Same H H' → Q (.int z) H'
theorem prime_pos : ∀ i : Nat, i < 16 → ∃ z : Int, 0 < z ∧ ([.int 1000003, .int 1000033, .int 1000037, .int 1000039, .int 1000081, .int 1000099, .int 1000117, .int 1000121, .int 1000133, .int 1000151, .int 1000159, .int 1000171, .int 1000183, .int 1000187, .int 1000193, .int 1000199] : List V)[i]? = some (V.int z)
  | 0, _ => ⟨_, by decide, rfl⟩
  | 1, _ => ⟨_, by decide, rfl⟩
  | 2, _ => ⟨_, by decide, rfl⟩
  | 3, _ => ⟨_, by decide, rfl⟩
  | 4, _ => ⟨_, by decide, rfl⟩
  | 5, _ => ⟨_, by decide, rfl⟩
  | 6, _ => ⟨_, by decide, rfl⟩
  | 7, _ => ⟨_, by decide, rfl⟩
  | 8, _ => ⟨_, by decide, rfl⟩
  | 9, _ => ⟨_, by decide, rfl⟩
  | 10, _ => ⟨_, by decide, rfl⟩
  | 11, _ => ⟨_, by decide, rfl⟩
  | 12, _ => ⟨_, by decide, rfl⟩
  | 13, _ => ⟨_, by decide, rfl⟩
  | 14, _ => ⟨_, by decide, rfl⟩
  | 15, _ => ⟨_, by decide, rfl⟩
  | n + 16, h => absurd h (by omega)
theorem ok_draw {cc : Addr} (T : Txt K mg cc) : Cal P w K mg base 1 "_law_draw" spDraw [] := by
  have Z := T.Z
  refine cal_of T.d__law_draw sc__law_draw (fun vs H Q E h => ?_) (fun f cdv A outer s H vs Q E hr h => ?_)
  · obtain ⟨c, k, m, rfl, _⟩ := h
    rfl
  obtain ⟨c, k, m, rfl, k0, k1, m0, q⟩ := h
  refine ⟨_, (pss_cons (ps_set (i := 3) sc__law_draw.nd rfl (Or.inl rfl) (pe_tup (pa_cons pe_int (pa_cons pe_int (pa_cons pe_int (pa_cons pe_int (pa_cons pe_int (pa_cons pe_int (pa_cons pe_int (pa_cons pe_int (pa_cons pe_int (pa_cons pe_int (pa_cons pe_int (pa_cons pe_int (pa_cons pe_int (pa_cons pe_int (pa_cons pe_int (pa_cons pe_int pa_nil))))))))))))))))))
  (pss_one (ps_ret (pe_op op_mod (pe_op op_mod (pe_op op_add (pe_op op_mul (pv 0) pe_int) (pe_op op_mul (pv 1) pe_int)) (pe_ix ix_tup (pv 3) (pe_op op_mod (pv 1) pe_int) (fun _ _ => rfl))) (pv 2))))), ?_⟩
  refine ⟨by show 16 ≤ sizeLine; decide, fun p hp => ?_⟩
  obtain ⟨i, hi⟩ := Int.eq_ofNat_of_zero_le (Int.emod_nonneg k (show (16 : Int) ≠ 0 by decide))
  have hi16 : i < 16 := by
    have := Int.emod_lt_of_pos k (show (0 : Int) < 16 by decide)
    omega
  obtain ⟨z, hz, hzi⟩ := prime_pos i hi16
  refine ⟨_, rfl, _, _, rfl, rfl, .inr ⟨by decide, by decide⟩, _, rfl, _, _, rfl, rfl, .inr ⟨by decide, by decide⟩, _, _, rfl, rfl, _, rfl, _, rfl, _, 16, rfl, rfl, (by show (0 : Int) < 16; decide), p, _, _, V.int z, rfl, rfl, SqT.of upd_same, by rw [hi]; exact atI_nat hzi, ?_⟩
  refine ⟨_, _, rfl, rfl, hz, _, rfl, _, _, rfl, rfl, m0, ?_⟩
  exact q _ _ (Int.emod_nonneg _ (by omega)) (Int.emod_lt_of_pos _ m0) (same_upd hp)
end

/-! ### heaps where one instance may change -/
structure ExtO (p : Addr) (H H' : Hp) : Prop where
  keep : ∀ a o, a ≠ p → H a = some o → (∀ kvs, o ≠ .dT kvs) → H' a = some o
  grow : ∀ a kvs, H a = some (.dT kvs) → ∃ more, H' a = some (.dT (kvs ++ more))
  gr : Gr H H'
theorem Ext.o {p : Addr} {H H' : Hp} (e : Ext H H') : ExtO p H H' := ⟨fun a o _ h n => e.keep a o h n, e.grow, e.gr⟩
theorem ExtO.trans {p : Addr} {H H1 H2 : Hp} (a : ExtO p H H1) (b : ExtO p H1 H2) : ExtO p H H2 := by
  refine ⟨fun x o q e n => b.keep x o q (a.keep x o q e n) n, fun x kvs e => ?_, a.gr.trans b.gr⟩
  obtain ⟨m1, e1⟩ := a.grow x kvs e
  obtain ⟨m2, e2⟩ := b.grow x _ e1
  exact ⟨m1 ++ m2, by rw [e2, List.append_assoc]⟩
theorem ExtO.put {p C dx : Addr} {H : Hp} {fs : List (Str × V)} {o : HO} (h : H p = some (.ins C dx fs)) : ExtO p H (upd H p o) := by
  refine ⟨fun a u q e _ => by rw [upd_ne q]; exact e, fun a kvs e => ⟨[], ?_⟩, (Kp.ins h).gr⟩
  rw [List.append_nil, upd_ne]
  · exact e
  · rintro rfl
    rw [h] at e
    cases e
theorem ExtO.lst {p a : Addr} {H H' : Hp} {xs : List V} (e : ExtO p H H') (q : a ≠ p) (h : H a = some (.lst xs)) : H' a = some (.lst xs) := e.keep _ _ q h fun _ z => nomatch z
theorem ExtO.ins {p a C dx : Addr} {H H' : Hp} {fs : List (Str × V)} (e : ExtO p H H') (q : a ≠ p) (h : H a = some (.ins C dx fs)) : H' a = some (.ins C dx fs) := e.keep _ _ q h fun _ z => nomatch z
/-- the instance was made behind H -/
theorem ExtO.ext {p : Addr} {H H1 H' : Hp} (e : ExtO p H1 H') (x : Ext H H1) (hp : H p = none) : Ext H H' := by
  refine ⟨fun a o h n => e.keep a o (ne_of_none h hp) (x.keep a o h n) n, fun a kvs h => ?_⟩
  obtain ⟨m1, e1⟩ := x.grow a kvs h
  obtain ⟨m2, e2⟩ := e.grow a _ e1
  exact ⟨m1 ++ m2, by rw [e2, List.append_assoc]⟩

/-! ### sorted(pairs of an int and a text), by ints that tell them apart -/
namespace KvS
open PySem PyProof.Rows Srt SrtO
section
variable {prog : Program} {w : World} {A : Around} {s : Shared} {E : Value → Shared → Prop}
def IsKv (h : Heap) (v : Value) (x : Int) (y : Str) : Prop := ∃ a o t u n, v = .ref a ∧ h.get? a = some o ∧ o.cls = .type "tuple" ∧ o.data = .seq #[.int x t, .str y u] n
theorem IsKv.keeps {h h' : Heap} {v : Value} {x : Int} {y : Str} (p : IsKv h v x y) (k : ∀ b o, h.get? b = some o → o.cls = .type "tuple" → h'.get? b = some o) : IsKv h' v x y := by
  obtain ⟨a, o, t, u, n, e, ho, hc, hd⟩ := p
  exact ⟨a, o, t, u, n, e, k _ _ ho hc, hc, hd⟩
theorem kv_cmp {vs : List Value} {k : Value → Int} {f : Value → Str} (hp : ∀ v ∈ vs, IsKv s.heap v (k v) (f v)) (hi : ∀ v ∈ vs, ∀ u ∈ vs, k v = k u → f v = f u) : Cmp prog w A s (tuples' true) (fun p => p.1 ∈ vs) (lt2 fun v u => decide (k v < k u)) := by
  intro p q hm hm'
  have h1 := hp _ hm
  have h2 := hp _ hm'
  have h3 := hi _ hm _ hm'
  show wpAny (model prog w) A (keyLt' (tuples' true) p.1 q.1) (fun r s' => s' = s ∧ r = decide (k p.1 < k q.1)) (fun _ _ => False) s
  generalize k p.1 = x at h1 h3 ⊢
  generalize f p.1 = y at h1 h3 ⊢
  generalize k q.1 = x' at h2 h3 ⊢
  generalize f q.1 = y' at h2 h3 ⊢
  obtain ⟨a, o, t, u, n, e, ho, hc, hd⟩ := h1
  obtain ⟨a', o', t', u', n', e', ho', hc', hd'⟩ := h2
  rw [e, e']
  refine PySem.W.kat_lt ho hd ho' hd' ?_
  show PySem.W.KatLex prog w A true (decide (2 < 2)) _ [(.int x t, .int x' t'), (.str y u, .str y' u')] 0 s
  refine PySem.W.kat_cons (SeqAt.EqAt.int_int x t x' t' prog w _ _ ?_)
  refine PySem.W.kat_go (fun e1 => ?_) (fun e1 => ?_)
  · have ex : x = x' := by simpa using e1
    refine PySem.W.kat_yes (PySem.W.kat_cons (SeqAt.EqAt.str_str y u y' u' prog w _ _ ?_))
    refine PySem.W.kat_go (fun e2 => ?_) (fun e2 => ?_)
    · exact PySem.W.kat_yes (PySem.W.kat_nil ⟨rfl, (decide_eq_false (by rw [ex]; exact Int.lt_irrefl _)).symm⟩)
    · rw [h3 ex] at e2
      simp at e2
  · exact PySem.W.kat_no (oneLt_int ⟨rfl, rfl⟩)
theorem firsts_kv {h : Heap} : ∀ {vs : List Value}, (∀ v ∈ vs, ∃ x y, IsKv h v x y) → ∃ fs : List Value, PySem.W.KatTups h vs fs ∧ fs.length = vs.length ∧ ∀ f ∈ fs, ∃ x t, f = Value.int x t
  | [], _ => ⟨[], PySem.W.KatTups.nil, rfl, fun _ hm => by simp at hm⟩
  | v :: vs, hp => by
    obtain ⟨fs, h1, h2, h3⟩ := firsts_kv (vs := vs) fun v' hm => hp v' (List.mem_cons_of_mem _ hm)
    obtain ⟨x, y, a, o, t, u, n, e, ho, hc, hd⟩ := hp v (List.mem_cons_self ..)
    subst e
    refine ⟨.int x t :: fs, PySem.W.KatTups.cons ho hc hd rfl h1, by rw [List.length_cons, List.length_cons, h2], fun f hm => ?_⟩
    rcases List.mem_cons.mp hm with rfl | hm
    · exact ⟨x, t, rfl⟩
    · exact h3 f hm
theorem kv_sortable {a : Addr} {vs : List Value} {k : Value → Int} {f : Value → Str} (h0 : 0 < vs.length) (hp : ∀ v ∈ vs, IsKv s.heap v (k v) (f v)) (hi : ∀ v ∈ vs, ∀ u ∈ vs, k v = k u → f v = f u) (ha : ∀ o, s.heap.get? a = some o → o.cls ≠ .type "tuple") : SortableO prog w A s a vs fun v u => decide (k v < k u) := by
  intro h' keep
  have hp' : ∀ v ∈ vs, IsKv h' v (k v) (f v) := fun v hm => (hp v hm).keeps fun b o e c => keep b o (fun z => by subst z; exact ha o e c) e
  obtain ⟨fs, h1, h2, h3⟩ := firsts_kv fun v hm => ⟨_, _, hp' v hm⟩
  refine ⟨tuples' true, fun Q E hq => ?_, kv_cmp hp' hi⟩
  refine PySem.W.kat_kind (T := .type "int") h1 (by omega) (fun f hm => ?_) (by rfl) ?_
  · obtain ⟨x, t, rfl⟩ := h3 f hm
    exact PySem.W.Looks.now
  · have e : (Value.type "int" != Value.type "tuple") = true := by first | decide +kernel | rfl | decide
    rw [e]
    exact hq
theorem swo_key (k : Value → Int) : Swo fun v u => decide (k v < k u) := by
  refine ⟨fun x y h => ?_, fun x y z h1 h2 => ?_⟩
  · exact decide_eq_false (Int.not_lt.mpr (Int.le_of_lt (of_decide_eq_true h)))
  · have a := of_decide_eq_false h1
    have b := of_decide_eq_false h2
    exact decide_eq_false (by omega)
theorem sorted_kv {l : Addr} {vs : List Value} {k : Value → Int} {f : Value → Str} {Q : Value → Shared → Prop} (hl : s.heap.IsList l vs.toArray) (hz : vs.length ≤ sizeLine) (hp : ∀ v ∈ vs, IsKv s.heap v (k v) (f v)) (hi : ∀ v ∈ vs, ∀ u ∈ vs, k v = k u → f v = f u)
    (h : ∀ (h' : Heap) (d : Addr) (out : List Value), Srtd (fun v u => decide (k v < k u)) out → Stb (fun v u => decide (k v < k u)) out vs → (∀ b o, s.heap.get? b = some o → h'.get? b = some o) → s.heap.objs.size ≤ d → (∃ n, h'.get? d = some (seqObj "list" out.toArray n)) → Q (.ref d) { s with heap := h' }) :
    wpAny (model prog w) A (call (.builtin "sorted") [.ref l]) Q E s := by
  refine sorted_ord (swo_key k) hl hz (fun h2 h₁ a ha kk => ?_) fun out hs hb => ?_
  · refine kv_sortable (s := { s with heap := h₁ }) (by omega) (fun v hm => (hp v hm).keeps fun b o e _ => (kk b o e).2) hi fun o e => ?_
    have e' : some o = some (seqObj "list" vs.toArray 0) := e.symm.trans ha
    cases e'
    intro c
    exact absurd (Value.type.inj c) (by decide)
  · exact h _ _ out hs hb (fun b o e => sortedAll_old e) (Nat.le_succ _) (sortedAll_at s.heap vs out.toArray)
end
end KvS
section
variable {X : Cx}
/-- sorted(xs), pairs of an int and a text, no two of one int with unlike texts: a new list of the same pairs, by rising ints -/
def rSortKv (K : PySem.W.Frag) : List V → Hp → VK → Prop := fun vs H Q => ∃ (a : Addr) (xs : List V) (k : V → Int) (f : V → Str), vs = [V.ref a] ∧ SqL K H a xs ∧ (∀ x ∈ xs, ∃ t, x = V.ref t ∧ H t = some (.tup [.int (k x), .str (f x)])) ∧ (∀ x ∈ xs, ∀ y ∈ xs, k x = k y → f x = f y) ∧
  ∀ ys p, ys.Perm xs → ys.Pairwise (fun x y => k x ≤ k y) → H p = none → Q (.ref p) (upd H p (.lst ys))
theorem cr_sortedKv : CallR X (.builtin "sorted") (rSortKv X.K) := by
  intro pins s σ H vs us Q I r h
  obtain ⟨a, xs, k, f, rfl, hs, hx, hi, q⟩ := h
  obtain ⟨its, rv, hl, hz⟩ := I.list hs
  obtain ⟨u, rfl, ru⟩ := vals1 r
  obtain rfl : u = Value.ref a := ru
  obtain ⟨e1, e2⟩ := refs_back rv fun x m => by
    obtain ⟨t, e, _⟩ := hx x m
    exact ⟨t, e⟩
  have mem : ∀ v ∈ its, backV v ∈ xs := fun v hv => by rw [e1]; exact List.mem_map.mpr ⟨_, hv, rfl⟩
  refine KvS.sorted_kv (k := fun v => k (backV v)) (f := fun v => f (backV v)) hl.isList (by rw [← rv.length]; exact hz) (fun v hv => ?_) (fun v hv u hu e => hi _ (mem v hv) _ (mem u hu) e) fun h' d out hs' hb hk hd hn => ?_
  · obtain ⟨t, rfl⟩ := e2 v hv
    obtain ⟨t', e, ht⟩ := hx _ (mem _ hv)
    have et : t = t' := V.ref.inj e
    subst et
    obtain ⟨_, its2, r2, o, ho, hc, n, hd⟩ := I.hok _ _ ht
    obtain ⟨u1, u2, rfl, ri, rj⟩ := vals2 r2
    obtain ⟨t1, rfl⟩ := ri
    obtain ⟨t2, rfl⟩ := rj
    exact ⟨t, o, t1, t2, n, rfl, ho, hc, hd⟩
  · have hp := hb.perm
    have h3 : ∀ u ∈ out, ∃ a, u = Value.ref a := fun u hu => e2 u (hp.mem_iff.mp hu)
    obtain ⟨n, hn⟩ := hn
    have hlen : (out.map backV).length ≤ sizeLine := by
      rw [List.length_map, hp.length_eq, ← rv.length]
      exact hz
    refine ⟨.ref d, upd H d (.lst (out.map backV)), I.laid (t' := s.toks) (fun b o e => hk b o e) hd ⟨hlen, out, n, vals_back h3, hn⟩, rfl, q _ _ ?_ ?_ (I.hok.fresh hd)⟩
    · rw [e1]
      exact hp.map backV
    · refine List.pairwise_map.mpr (hs'.imp fun {x y} h => ?_)
      exact Int.not_lt.mp (of_decide_eq_false (p := k (backV y) < k (backV x)) h)
end

/-! ### the parts of a table -/
structure KvL (H : Hp) (vs : List V) (rows : List (Int × Str)) : Prop where
  len : vs.length = rows.length
  at_ : ∀ (j : Nat) (v : V) (e : Int × Str), vs[j]? = some v → rows[j]? = some e → ∃ q, v = .ref q ∧ H q = some (.tup [.int e.1, .str e.2]) ∧ txtOk e.2 = true
theorem KvL.gr {H H' : Hp} {vs : List V} {rows : List (Int × Str)} (h : KvL H vs rows) (x : Gr H H') : KvL H' vs rows := by
  refine ⟨h.len, fun j v e a b => ?_⟩
  obtain ⟨q, h1, h2, h3⟩ := h.at_ j v e a b
  exact ⟨q, h1, x.keep _ _ h2 True.intro (fun _ z => nomatch z), h3⟩
theorem KvL.nil {H : Hp} : KvL H [] [] := ⟨rfl, fun j v e a _ => by simp at a⟩
theorem KvL.snoc {H : Hp} {vs : List V} {rows : List (Int × Str)} {q : Addr} {e : Int × Str} (h : KvL H vs rows) (hq : H q = some (.tup [.int e.1, .str e.2])) (hx : txtOk e.2 = true) : KvL H (vs ++ [.ref q]) (rows ++ [e]) := by
  have hl := h.len
  refine ⟨by rw [List.length_append, List.length_append, hl]; rfl, fun i v t a b => ?_⟩
  by_cases c : i < vs.length
  · rw [List.getElem?_append_left c] at a
    rw [List.getElem?_append_left (by omega)] at b
    exact h.at_ i v t a b
  · rw [List.getElem?_append_right (by omega)] at a b
    rw [← hl] at b
    cases hj : i - vs.length with
    | zero =>
      rw [hj] at a b
      cases a
      cases b
      exact ⟨q, rfl, hq, hx⟩
    | succ j =>
      rw [hj] at a
      simp at a
def bitK (l : Nat) (b : Int) (e : Int × Str) : Bool := decide (e.1 / 2 ^ l % 2 = b)
def partT : Nat → List (Int × Str) → Tm
  | _, [] => nonT
  | _, [e] => .sl "row" (.int e.1) (.str e.2)
  | 0, _ :: _ :: _ => nonT
  | l + 1, a :: b :: r => .sl "fork" (partT l ((a :: b :: r).filter (bitK l 0))) (partT l ((a :: b :: r).filter (bitK l 1)))
theorem partT_nil (l : Nat) : partT l [] = nonT := by cases l <;> rfl
theorem partT_one (l : Nat) (e : Int × Str) : partT l [e] = .sl "row" (.int e.1) (.str e.2) := by cases l <;> rfl
theorem partT_more {l : Nat} {rows : List (Int × Str)} (h : 2 ≤ rows.length) : partT (l + 1) rows = .sl "fork" (partT l (rows.filter (bitK l 0))) (partT l (rows.filter (bitK l 1))) := by
  match rows, h with
  | a :: b :: r, _ => rfl
def RowsOk (l : Nat) (rows : List (Int × Str)) : Prop := (∀ e ∈ rows, 0 ≤ e.1) ∧ rows.Pairwise fun a b => a.1 % 2 ^ l ≠ b.1 % 2 ^ l
theorem RowsOk.zero {rows : List (Int × Str)} (h : RowsOk 0 rows) : rows.length ≤ 1 := by
  match rows, h with
  | [], _ => exact Nat.zero_le _
  | [_], _ => exact Nat.le_refl _
  | a :: b :: r, ⟨_, h⟩ =>
    have := (List.pairwise_cons.mp h).1 b List.mem_cons_self
    simp at this
theorem bit_mod (a : Int) (l : Nat) : a % 2 ^ (l + 1) = a % 2 ^ l + 2 ^ l * (a / 2 ^ l % 2) := by
  have hM : (0 : Int) < 2 ^ l := Int.pow_pos (by decide)
  rw [Int.pow_succ]
  generalize (2 : Int) ^ l = M at hM ⊢
  have h1 := Int.emod_nonneg a (show M ≠ 0 by omega)
  have h2 := Int.emod_lt_of_pos a hM
  have h3 := Int.mul_ediv_add_emod a M
  have h4 := Int.mul_ediv_add_emod (a / M) 2
  have h5 : a / M % 2 = 0 ∨ a / M % 2 = 1 := by omega
  have e : a = M * 2 * (a / M / 2) + (a % M + M * (a / M % 2)) := by
    rw [Int.mul_assoc, Int.add_comm (a % M), ← Int.add_assoc, ← Int.mul_add, h4, h3]
  have lo : 0 ≤ a % M + M * (a / M % 2) := by
    rcases h5 with h | h <;> rw [h] <;> omega
  have hi : a % M + M * (a / M % 2) < M * 2 := by
    rcases h5 with h | h <;> rw [h] <;> omega
  have := Int.emod_eq_of_lt lo hi
  rw [← this]
  conv => lhs; rw [e]
  rw [Int.add_comm, Int.add_mul_emod_self_left]
theorem RowsOk.part {l : Nat} {b : Int} {rows : List (Int × Str)} (h : RowsOk (l + 1) rows) : RowsOk l (rows.filter (bitK l b)) := by
  refine ⟨fun e he => h.1 e (List.mem_filter.mp he).1, ?_⟩
  rw [List.pairwise_filter]
  refine h.2.imp fun {x y} hxy hx hy e => hxy ?_
  rw [bit_mod, bit_mod, e, of_decide_eq_true hx, of_decide_eq_true hy]
theorem partT_dep : ∀ (l : Nat) (rows : List (Int × Str)), (partT l rows).dep ≤ l + 1
  | l, [] => by rw [partT_nil]; show max 0 0 + 1 ≤ _; omega
  | l, [e] => by rw [partT_one]; show max 0 0 + 1 ≤ _; omega
  | 0, _ :: _ :: _ => by show max 0 0 + 1 ≤ _; omega
  | l + 1, a :: b :: r => by
    have h1 := partT_dep l ((a :: b :: r).filter (bitK l 0))
    have h2 := partT_dep l ((a :: b :: r).filter (bitK l 1))
    show max _ _ + 1 ≤ _
    omega
/-- how many tellings -/
def costP (l n : Nat) : Nat := if n = 0 then 1 else n * (2 * l + 1)
theorem costP_split {l a b n : Nat} (h : a + b = n) (hn : 2 ≤ n) : costP l a + costP l b + 1 ≤ costP (l + 1) n := by
  subst h
  have e : (a + b) * (2 * (l + 1) + 1) = a * (2 * l + 1) + b * (2 * l + 1) + 2 * (a + b) := by
    rw [show 2 * (l + 1) + 1 = (2 * l + 1) + 2 by omega, Nat.mul_add, Nat.add_mul, Nat.mul_comm (a + b) 2]
  unfold costP
  rw [if_neg (show ¬ a + b = 0 by omega), e]
  by_cases ha : a = 0
  · subst ha
    rw [if_pos rfl, if_neg (by omega), Nat.zero_mul]
    omega
  · rw [if_neg ha]
    by_cases hb : b = 0
    · subst hb
      rw [if_pos rfl, Nat.zero_mul]
      omega
    · rw [if_neg hb]
      omega
theorem filter_split {rows : List (Int × Str)} (l : Nat) : (rows.filter (bitK l 0)).length + (rows.filter (bitK l 1)).length = rows.length := by
  induction rows with
  | nil => rfl
  | cons e r ih =>
    rw [List.filter_cons, List.filter_cons, List.length_cons]
    have h1 := Int.emod_nonneg (e.1 / 2 ^ l) (show (2 : Int) ≠ 0 by decide)
    have h2 := Int.emod_lt_of_pos (e.1 / 2 ^ l) (show (0 : Int) < 2 by decide)
    have h3 : e.1 / 2 ^ l % 2 = 0 ∨ e.1 / 2 ^ l % 2 = 1 := by omega
    rcases h3 with h | h
    · rw [show bitK l 0 e = true from decide_eq_true h, show bitK l 1 e = false from decide_eq_false (by omega)]
      simp
      omega
    · rw [show bitK l 0 e = false from decide_eq_false (by omega), show bitK l 1 e = true from decide_eq_true h]
      simp
      omega
theorem take_filter {α : Type} (p : α → Bool) (l : List α) {i : Nat} {x : α} (h : l[i]? = some x) : (l.take (i + 1)).filter p = (l.take i).filter p ++ (if p x = true then [x] else []) := by
  rw [List.take_succ, h, List.filter_append]
  congr 1
  show [x].filter p = _
  rw [List.filter_cons]
  rfl

/-! ### figures -/
theorem txt_of_tl {x : Str} (h : ∀ c ∈ TL.tl x, c < 0x110000) : txtOk x = true := by
  show x.cps.all (· < 0x110000) = true
  rw [Array.all_eq_true']
  intro c hc
  exact decide_eq_true (h c (by rw [← Array.mem_toList_iff] at hc; exact hc))
theorem txt_num (n : Nat) : txtOk (Str.ofString (toString ((n : Nat) : Int))) = true := by
  refine txt_of_tl fun c hc => ?_
  rw [TL.tl_num] at hc
  have := TL.numL_digits n c hc
  omega
theorem log_small {z : Int} (h0 : 0 ≤ z) (h : z < 2 ^ 64) : z.natAbs.log2 < 1920 := by
  obtain ⟨n, rfl⟩ := Int.eq_ofNat_of_zero_le h0
  have h1 : n < 2 ^ 64 := by omega
  rw [Int.natAbs_natCast]
  by_cases c : n = 0
  · subst c; decide
  · have := (Nat.log2_lt c).mpr h1
    omega
theorem cut_ints (ks : List Int) (lo hi : Option Int) : ∃ ks' : List Int, cutV (ks.map V.int) lo hi = ks'.map V.int ∧ (∀ k ∈ ks', k ∈ ks) ∧ ks'.length ≤ ks.length := by
  unfold cutV
  rw [List.length_map, ← List.map_drop, ← List.map_take]
  refine ⟨_, rfl, fun k hk => List.mem_of_mem_drop (List.mem_of_mem_take hk), ?_⟩
  rw [List.length_take, List.length_drop]
  omega

/-! ### the program's seals and tops -/
section
variable {P : Program} {w : World} {K : PySem.W.Frag} {mg : Str → Option Value} {base : Heap} {Fam : Sys → Prop}
def spNone (Fam : Sys → Prop) : Sp := fun vs H Q _ => ∃ (S : Sys) (r : Nat), Fam S ∧ vs = [.ref S.f] ∧ S.ok H (r + 1) ∧ ∀ v H', Ext H H' → S.ok H' r → S.den H' v nonT → Q v H'
theorem ok_none_seal {cc : Addr} (T : Txt K mg cc) (A : SlA P w K mg base Fam) : Cal P w K mg base 2 "none_seal" (spNone Fam) [] := by
  refine cal_of T.d_none_seal sc_none_seal (fun vs H Q E h => ?_) (fun f cdv A' outer s H vs Q E hr h => ?_)
  · obtain ⟨S, r, _, rfl, _⟩ := h
    rfl
  obtain ⟨S, r, hF, rfl, hok, q⟩ := h
  have G := A.good hF
  refine ⟨_, (pss_one (ps_ret (pe_sl (i := 0) A.held hr (by omega) rfl (by first | exact Or.inl rfl | exact Or.inr (Or.inl rfl) | exact Or.inr (Or.inr rfl)) (pa_cons pe_str (pa_cons pe_int (pa_cons pe_int pa_nil)))))), ?_⟩
  exact ⟨S, _, hF, rfl, hok, r, "none", .int 0, .int 0, _, _, rfl, by decide +kernel, hok, G.int 0 hok, G.int 0 hok, fun v H' e ok d => q v H' e ok d⟩
def spPair (Fam : Sys → Prop) : Sp := fun vs H Q _ => ∃ (S : Sys) (va vb : V) (a b : Tm) (r : Nat), Fam S ∧ vs = [.ref S.f, va, vb] ∧ S.ok H (r + 1) ∧ S.den H va a ∧ S.den H vb b ∧ ∀ v H', Ext H H' → S.ok H' r → S.den H' v (pairT a b) → Q v H'
theorem ok_pair_seal {cc : Addr} (T : Txt K mg cc) (A : SlA P w K mg base Fam) : Cal P w K mg base 2 "pair_seal" (spPair Fam) [] := by
  refine cal_of T.d_pair_seal sc_pair_seal (fun vs H Q E h => ?_) (fun f cdv A' outer s H vs Q E hr h => ?_)
  · obtain ⟨S, va, vb, a, b, r, _, rfl, _⟩ := h
    rfl
  obtain ⟨S, va, vb, a, b, r, hF, rfl, hok, ha, hb, q⟩ := h
  refine ⟨_, (pss_one (ps_ret (pe_sl (i := 0) A.held hr (by omega) rfl (by first | exact Or.inl rfl | exact Or.inr (Or.inl rfl) | exact Or.inr (Or.inr rfl)) (pa_cons pe_str (pa_cons (pv 1) (pa_cons (pv 2) pa_nil)))))), ?_⟩
  exact ⟨S, _, hF, rfl, hok, _, rfl, _, rfl, r, "pair", a, b, _, _, rfl, by decide +kernel, hok, ha, hb, fun v H' e ok d => q v H' e ok d⟩
end

section
variable {P : Program} {w : World} {K : PySem.W.Frag} {mg : Str → Option Value} {base : Heap} {Fam : Sys → Prop}
theorem ok_split {cc : Addr} (T : Txt K mg cc) : Cal P w K mg base 1 "split" spSplit [] := by
  refine cal_of T.d_split sc_split (fun vs H Q E h => ?_) (fun f cdv A outer s H vs Q E hr h => ?_)
  · obtain ⟨n, rfl, _⟩ := h
    rfl
  obtain ⟨n, rfl, h2, hl, q⟩ := h
  refine ⟨_, (pss_one (ps_ret (pe_op op_shl pe_int (pe_op op_sub (pe_bits (pe_op op_sub (pv 0) pe_int)) pe_int)))), ?_⟩
  have h0 : n - 1 ≠ 0 := by omega
  have lg : (n - 1).log2 ≤ n.log2 := by
    refine (Nat.le_log2 (by omega)).mpr ?_
    have := Nat.log2_self_le h0
    omega
  have e1 : ((Builtin.Int.intBits ((n : Int) - 1) : Nat) : Int) - 1 = (((n - 1).log2 : Nat) : Int) := by
    have e2 : (n : Int) - 1 = ((n - 1 : Nat) : Int) := by omega
    rw [e2]
    unfold Builtin.Int.intBits
    have e3 : (((n - 1 : Nat) : Int) == 0) = false := by
      rw [beq_eq_false_iff_ne]
      omega
    rw [e3]
    show ((((n - 1 : Nat) : Int).natAbs.log2 + 1 : Nat) : Int) - 1 = _
    rw [Int.natAbs_natCast]
    omega
  refine ⟨_, rfl, _, 1, rfl, rfl, (n : Int) - 1, rfl, _, 1, rfl, rfl, 1, _, rfl, rfl, ?_, ?_⟩
  · rw [e1]
    exact ⟨by omega, by omega, by decide⟩
  · rw [e1]
    show Q (.int (1 * 2 ^ ((((n - 1).log2 : Nat) : Int)).toNat)) H
    rw [Int.toNat_natCast, Int.one_mul, ← pow_cast]
    exact q
theorem ok_top_of1 {cc : Addr} {k : Nat} (T : Txt K mg cc) (A : SlA P w K mg base Fam) (C_top_of : Cal P w K mg base (k + 3) "top_of" (spTop K Fam k) []) : Cal P w K mg base (k + 4) "top_of" (spTop K Fam (k + 1)) [] := by
  have Z := T.Z
  have C_split := ok_split (P := P) (w := w) (base := base) T
  have C_none_seal := ok_none_seal T A
  have C_pair_seal := ok_pair_seal T A
  refine cal_of T.d_top_of sc_top_of (fun vs H Q E h => ?_) (fun f cdv A' outer s H vs Q E hr h => ?_)
  · obtain ⟨S, a, xs, ts, r, _, rfl, _⟩ := h
    rfl
  obtain ⟨S, a, xs, ts, r, hF, rfl, hS, hD, _, hk, hl, hok, q⟩ := h
  have hlen := hD.len
  have G := A.good hF
  refine ⟨_, (pss_cons (ps_if (pt_cmpR op_eq (pe_callB call_len_seq rfl Z.len PySem.boot_len (pa_cons (pv 1) pa_nil)) pe_int (nomark _)) (pss_one (ps_ret (pe_c C_none_seal hr (by omega) rfl (pa_cons (pv 0) pa_nil)))) pss_nil)
  (pss_cons (ps_if (pt_cmpR op_eq (pe_callB call_len_seq rfl Z.len PySem.boot_len (pa_cons (pv 1) pa_nil)) pe_int (nomark _)) (pss_one (ps_ret (pe_ix ix_list (pv 1) pe_int (fun _ _ => rfl)))) pss_nil)
  (pss_cons (ps_set (i := 2) sc_top_of.nd rfl (Or.inl rfl) (pe_c C_split hr (by omega) rfl (pa_cons (pe_callB call_len_seq rfl Z.len PySem.boot_len (pa_cons (pv 1) pa_nil)) pa_nil)))
  (pss_one (ps_ret (pe_c C_pair_seal hr (by omega) rfl (pa_cons (pv 0) (pa_cons (pe_c C_top_of hr (by omega) rfl (pa_cons (pv 0) (pa_cons (pe_slice sl_list (pv 1) po_none (po_some (pv 2))) pa_nil))) (pa_cons (pe_c C_top_of hr (by omega) rfl (pa_cons (pv 0) (pa_cons (pe_slice sl_list (pv 1) (po_some (pv 2)) po_none) pa_nil))) pa_nil))))))))), ?_⟩
  -- no leaf
  refine ⟨_, rfl, a, _, rfl, .inl hS, rfl, _, rfl, ite2 (fun c => ?_) (fun c => ?_)⟩
  · have c' : (xs.length : Int) = 0 := V.int.inj (of_decide_eq_true c)
    have e : ts = [] := List.eq_nil_of_length_eq_zero (by omega)
    subst e
    refine ⟨_, rfl, S, r, hF, rfl, hok, fun v H' e ok d => q v H' e ok ?_⟩
    rw [topT_nil]
    exact d
  have n0 : xs.length ≠ 0 := fun z => c (decide_eq_true (by rw [z]; rfl))
  -- one
  refine ⟨_, rfl, a, _, rfl, .inl hS, rfl, _, rfl, ite2 (fun c => ?_) (fun c => ?_)⟩
  · have c' : (xs.length : Int) = 1 := V.int.inj (of_decide_eq_true c)
    obtain ⟨v, hv, dv⟩ := atI_den hD (i := 0) (Int.le_refl 0) (by omega)
    refine ⟨_, rfl, a, xs, 0, v, rfl, rfl, hS, hv, q v H (Ext.refl H) ?_ ?_⟩
    · refine G.less hok ?_
      omega
    · rw [topT_single (by omega)]
      exact dv
  have n1 : xs.length ≠ 1 := fun z => c (decide_eq_true (by rw [z]; rfl))
  -- more
  have h2 : 2 ≤ ts.length := by omega
  have hsl := splitN_lt h2
  have hsp := splitN_pos ts.length
  have hk1 : ts.length ≤ 2 ^ k := hk
  obtain ⟨k', rfl⟩ : ∃ k', k = k' + 1 := by
    cases k with
    | zero => simp at hk1; omega
    | succ k' => exact ⟨k', rfl⟩
  obtain ⟨b1, b2⟩ := splitN_le_pow h2 hk1
  have hcs := costT_split h2
  have lg := Nat.log2_le_self ts.length
  refine ⟨_, rfl, a, _, rfl, .inl hS, ts.length, by rw [hlen] <;> rfl, h2, by omega, ?_⟩
  refine ⟨_, rfl, ?_⟩
  -- the first part
  refine ⟨_, rfl, _, rfl, _, rfl, ((splitN ts.length : Nat) : Int), rfl, a, _, rfl, hS, fun p hp => ?_⟩
  rw [cut_to]
  have x1 := Ext.new (o := .lst (xs.take (splitN ts.length))) hp
  have k1 := Kp.new (o := .lst (xs.take (splitN ts.length))) hp
  refine ⟨S, p, _, ts.take (splitN ts.length), r + 1 + costT (ts.length - splitN ts.length), hF, rfl, SqL.of upd_same, (hD.take _).mono G k1.gr, by omega, ?_, ?_, ?_, fun v1 H1 x2 ok1 d1 => ?_⟩
  · rw [List.length_take]
    show _ ≤ 2 ^ k'
    omega
  · rw [List.length_take]
    omega
  · rw [List.length_take, Nat.min_eq_left (by omega)]
    exact G.less (G.keep k1 hok) (by omega)
  -- the rest
  have xx := x1.trans x2
  refine ⟨_, rfl, _, rfl, _, rfl, ((splitN ts.length : Nat) : Int), rfl, a, _, rfl, xx.seq hS, fun p2 hp2 => ?_⟩
  rw [cut_from]
  have x3 := Ext.new (o := .lst (xs.drop (splitN ts.length))) hp2
  have k3 := Kp.new (o := .lst (xs.drop (splitN ts.length))) hp2
  refine ⟨S, p2, _, ts.drop (splitN ts.length), r + 1, hF, rfl, SqL.of upd_same, ((hD.drop _).mono G xx.gr).mono G k3.gr, by omega, ?_, ?_, ?_, fun v2 H2 x4 ok2 d2 => ?_⟩
  · rw [List.length_drop]
    show _ ≤ 2 ^ k'
    omega
  · rw [List.length_drop]
    omega
  · rw [List.length_drop]
    exact G.keep k3 ok1
  refine ⟨S, _, _, topT (ts.take (splitN ts.length)), topT (ts.drop (splitN ts.length)), r, hF, rfl, ok2, G.mono (x3.trans x4).gr d1, d2, fun v H' x5 ok3 d3 => ?_⟩
  refine q v H' (((xx.trans x3).trans x4).trans x5) ok3 ?_
  rw [topT_more h2]
  exact d3
theorem ok_top_of {cc : Addr} (T : Txt K mg cc) (A : SlA P w K mg base Fam) : ∀ k : Nat, Cal P w K mg base (k + 3) "top_of" (spTop K Fam k) []
  | 0 => by
    obtain ⟨f, fd, ps, ds, F, m, kp, b, v⟩ := (cal_no (P := P) (w := w) (base := base) T.d_top_of 3).ex
    exact ⟨f, fd, ps, ds, F.imp fun vs H Q E h => by obtain ⟨_, _, _, _, _, _, _, _, _, z, _⟩ := h; exact absurd rfl z, m, kp, b, v⟩
  | k + 1 => ok_top_of1 T A (ok_top_of T A k)
end

/-! ### the program's other seals -/
section
variable {P : Program} {w : World} {K : PySem.W.Frag} {mg : Str → Option Value} {base : Heap} {Fam : Sys → Prop}
def spMark (m : Str) (Fam : Sys → Prop) : Sp := fun vs H Q _ => ∃ (S : Sys) (va vb : V) (a b : Tm) (r : Nat), Fam S ∧ vs = [.ref S.f, va, vb] ∧ S.ok H (r + 1) ∧ S.den H va a ∧ S.den H vb b ∧ ∀ v H', Ext H H' → S.ok H' r → S.den H' v (.sl m a b) → Q v H'
theorem ok_leaf_seal {cc : Addr} (T : Txt K mg cc) (A : SlA P w K mg base Fam) : Cal P w K mg base 2 "leaf_seal" (spMark "leaf" Fam) [] := by
  refine cal_of T.d_leaf_seal sc_leaf_seal (fun vs H Q E h => ?_) (fun f cdv A' outer s H vs Q E hr h => ?_)
  · obtain ⟨S, va, vb, a, b, r, _, rfl, _⟩ := h
    rfl
  obtain ⟨S, va, vb, a, b, r, hF, rfl, hok, ha, hb, q⟩ := h
  refine ⟨_, (pss_one (ps_ret (pe_sl (i := 0) A.held hr (by omega) rfl (by first | exact Or.inl rfl | exact Or.inr (Or.inl rfl) | exact Or.inr (Or.inr rfl)) (pa_cons pe_str (pa_cons (pv 1) (pa_cons (pv 2) pa_nil)))))), ?_⟩
  exact ⟨S, _, hF, rfl, hok, _, rfl, _, rfl, r, "leaf", a, b, _, _, rfl, by decide +kernel, hok, ha, hb, fun v H' e ok d => q v H' e ok d⟩
theorem ok_book_seal {cc : Addr} (T : Txt K mg cc) (A : SlA P w K mg base Fam) : Cal P w K mg base 2 "book_seal" (spMark "book" Fam) [] := by
  refine cal_of T.d_book_seal sc_book_seal (fun vs H Q E h => ?_) (fun f cdv A' outer s H vs Q E hr h => ?_)
  · obtain ⟨S, va, vb, a, b, r, _, rfl, _⟩ := h
    rfl
  obtain ⟨S, va, vb, a, b, r, hF, rfl, hok, ha, hb, q⟩ := h
  refine ⟨_, (pss_one (ps_ret (pe_sl (i := 0) A.held hr (by omega) rfl (by first | exact Or.inl rfl | exact Or.inr (Or.inl rfl) | exact Or.inr (Or.inr rfl)) (pa_cons pe_str (pa_cons (pv 1) (pa_cons (pv 2) pa_nil)))))), ?_⟩
  exact ⟨S, _, hF, rfl, hok, _, rfl, _, rfl, r, "book", a, b, _, _, rfl, by decide +kernel, hok, ha, hb, fun v H' e ok d => q v H' e ok d⟩
end

section
variable {P : Program} {w : World} {K : PySem.W.Frag} {mg : Str → Option Value} {base : Heap} {Fam : Sys → Prop}
def spParted (K : PySem.W.Frag) : Sp := fun vs H Q _ => ∃ (a : Addr) (xs : List V) (rows : List (Int × Str)) (l : Nat), vs = [.ref a, .int (l : Int)] ∧ SqL K H a xs ∧ KvL H xs rows ∧ (∀ e ∈ rows, 0 ≤ e.1) ∧ rows.length ≤ 1000 ∧
  ∀ q p1 p2 ys zs H', Ext H H' → Kp H H' → H p1 = none → H p2 = none → H' q = some (.tup [.ref p1, .ref p2]) → H' p1 = some (.lst ys) → H' p2 = some (.lst zs) → KvL H' ys (rows.filter (bitK l 0)) → KvL H' zs (rows.filter (bitK l 1)) → Q (.ref q) H'
theorem ok_parted {cc : Addr} (T : Txt K mg cc) : Cal P w K mg base 1 "parted" (spParted K) [] := by
  have Z := T.Z
  refine cal_of T.d_parted sc_parted (fun vs H Q E h => ?_) (fun f cdv A' outer s H vs Q E hr h => ?_)
  · obtain ⟨a, xs, rows, l, rfl, _⟩ := h
    rfl
  obtain ⟨a, xs, rows, l, rfl, hS, hk, h0, hl, q⟩ := h
  have hxl := hk.len
  have e16 : sizeLine = 16777216 := sizeLine_eq
  refine ⟨_, (pss_cons (ps_setLc (i := 2) (own := [("row", 4)]) (g := gName 4) (tt := _) rfl sc_parted.nd rfl rfl (sw_true rfl rfl rfl (by decide +kernel)) (pi_list (pv 0)) (blkOk_by (N := N_parted) (sc := defScope s_parted) (by decide +kernel)) (fun _ _ _ _ _ => (pg_name (i := 4) sc_parted.nd rfl (Or.inl rfl))) (fun _ _ _ _ _ => (pts_one (pt_cmpR op_eq (pe_op op_odd (pe_op op_shrN (pe_ix (r := rIxT K) ix_tup (pv 4) pe_int (fun _ _ => rfl)) (pv 1)) pe_int) pe_int (nomark _)))) (fun _ _ _ _ _ => (pv 4)))
  (pss_cons (ps_setLc (i := 3) (own := [("row", 4)]) (g := gName 4) (tt := _) rfl sc_parted.nd rfl rfl (sw_true rfl rfl rfl (by decide +kernel)) (pi_list (pv 0)) (blkOk_by (N := N_parted) (sc := defScope s_parted) (by decide +kernel)) (fun _ _ _ _ _ => (pg_name (i := 4) sc_parted.nd rfl (Or.inl rfl))) (fun _ _ _ _ _ => (pts_one (pt_cmpR op_eq (pe_op op_odd (pe_op op_shrN (pe_ix (r := rIxT K) ix_tup (pv 4) pe_int (fun _ _ => rfl)) (pv 1)) pe_int) pe_int (nomark _)))) (fun _ _ _ _ _ => (pv 4)))
  (pss_one (ps_ret (pe_tup (pa_cons (pv 2) (pa_cons (pv 3) pa_nil))))))), ?_⟩
  refine ⟨_, rfl, a, rfl, ⟨_, hS⟩, fun D nD => ?_⟩
  refine lc_list (K := K) (a := a) (xs := xs) (fun i H' => ∃ ys, Ext H H' ∧ Kp H H' ∧ H' D = some (.lst ys) ∧ KvL H' ys ((rows.take i).filter (bitK l 0))) ⟨[], Ext.new nD, Kp.new nD, upd_same, KvL.nil⟩ (fun i H' _ ⟨_, x, _⟩ => x.seq hS) ?_ ?_
  · rintro i y H' hi ⟨ys, x, k, hD, hy⟩
    have hlt := (List.getElem?_eq_some_iff.mp hi).1
    have hri : rows[i]? = some (rows[i]'(by omega)) := List.getElem?_eq_getElem _
    obtain ⟨qe, rfl, hqe, hqx⟩ := (hk.gr x.gr).at_ i y _ hi hri
    have h0e := h0 _ (List.getElem_mem (show i < rows.length by omega))
    generalize rows[i]'(by omega) = e at hri hqe hqx h0e
    obtain ⟨m, hm⟩ := Int.eq_ofNat_of_zero_le (Int.ediv_nonneg h0e (Int.le_of_lt (show (0 : Int) < 2 ^ l from Int.pow_pos (by decide))))
    refine ⟨rfl, _, rfl, qe, _, 0, _, rfl, rfl, SqT.of hqe, rfl, _, rfl, _, l, rfl, rfl, m, by rw [hm], rfl, rfl, _, rfl, ite2 (fun c => ?_) (fun c => ?_)⟩
    · have c' : ((m % 2 : Nat) : Int) = 0 := V.int.inj (of_decide_eq_true c)
      have hb : bitK l 0 e = true := decide_eq_true (by rw [hm]; omega)
      refine ⟨_, rfl, ys, hD, ?_, ys ++ [.ref qe], x.mut nD, k.trans (Kp.lst hD), upd_same, ?_⟩
      · have := hy.len
        have := List.length_filter_le (bitK l 0) (rows.take i)
        rw [List.length_take] at this
        omega
      · rw [take_filter _ _ hri, hb]
        exact (hy.gr (Kp.lst hD).gr).snoc ((Kp.lst hD) _ _ hqe True.intro) hqx
    · have c' : ¬ ((m % 2 : Nat) : Int) = 0 := fun z => c (decide_eq_true (by rw [z]))
      have hb : bitK l 0 e = false := decide_eq_false (by rw [hm]; omega)
      refine ⟨ys, x, k, hD, ?_⟩
      rw [take_filter _ _ hri, hb]
      simpa using hy
  rintro H1 ⟨ys, x1, k1, hD1, hy1⟩
  rw [hxl, List.take_length] at hy1
  refine ⟨_, rfl, a, rfl, ⟨_, x1.seq hS⟩, fun D2 nD2 => ?_⟩
  refine lc_list (K := K) (a := a) (xs := xs) (fun i H' => ∃ zs, Ext H1 H' ∧ Kp H1 H' ∧ H' D2 = some (.lst zs) ∧ KvL H' zs ((rows.take i).filter (bitK l 1))) ⟨[], Ext.new nD2, Kp.new nD2, upd_same, KvL.nil⟩ (fun i H' _ ⟨_, x, _⟩ => (x1.trans x).seq hS) ?_ ?_
  · rintro i y H' hi ⟨zs, x, k, hD, hy⟩
    have hlt := (List.getElem?_eq_some_iff.mp hi).1
    have hri : rows[i]? = some (rows[i]'(by omega)) := List.getElem?_eq_getElem _
    obtain ⟨qe, rfl, hqe, hqx⟩ := (hk.gr (x1.trans x).gr).at_ i y _ hi hri
    have h0e := h0 _ (List.getElem_mem (show i < rows.length by omega))
    generalize rows[i]'(by omega) = e at hri hqe hqx h0e
    obtain ⟨m, hm⟩ := Int.eq_ofNat_of_zero_le (Int.ediv_nonneg h0e (Int.le_of_lt (show (0 : Int) < 2 ^ l from Int.pow_pos (by decide))))
    refine ⟨rfl, _, rfl, qe, _, 0, _, rfl, rfl, SqT.of hqe, rfl, _, rfl, _, l, rfl, rfl, m, by rw [hm], rfl, rfl, _, rfl, ite2 (fun c => ?_) (fun c => ?_)⟩
    · have c' : ((m % 2 : Nat) : Int) = 1 := V.int.inj (of_decide_eq_true c)
      have hb : bitK l 1 e = true := decide_eq_true (by rw [hm]; omega)
      refine ⟨_, rfl, zs, hD, ?_, zs ++ [.ref qe], x.mut nD2, k.trans (Kp.lst hD), upd_same, ?_⟩
      · have := hy.len
        have := List.length_filter_le (bitK l 1) (rows.take i)
        rw [List.length_take] at this
        omega
      · rw [take_filter _ _ hri, hb]
        exact (hy.gr (Kp.lst hD).gr).snoc ((Kp.lst hD) _ _ hqe True.intro) hqx
    · have c' : ¬ ((m % 2 : Nat) : Int) = 1 := fun z => c (decide_eq_true (by rw [z]))
      have hb : bitK l 1 e = false := decide_eq_false (by rw [hm]; omega)
      refine ⟨zs, x, k, hD, ?_⟩
      rw [take_filter _ _ hri, hb]
      simpa using hy
  rintro H2 ⟨zs, x2, k2, hD2, hy2⟩
  rw [hxl, List.take_length] at hy2
  refine ⟨_, rfl, _, rfl, by show 2 ≤ sizeLine; decide, fun p np => ?_⟩
  have u := Ext.new (o := .tup [.ref D, .ref D2]) np
  have ku := Kp.new (o := .tup [.ref D, .ref D2]) np
  exact q p D D2 ys zs _ ((x1.trans x2).trans u) ((k1.trans k2).trans ku) nD (x1.free nD2) upd_same ((x2.trans u).lst hD1) (u.lst hD2) (hy1.gr (x2.trans u).gr) (hy2.gr u.gr)
def spPart (K : PySem.W.Frag) (Fam : Sys → Prop) (k : Nat) : Sp := fun vs H Q _ => ∃ (S : Sys) (a : Addr) (xs : List V) (rows : List (Int × Str)) (l r : Nat), Fam S ∧ vs = [.ref S.f, .ref a, .int (l : Int)] ∧ SqL K H a xs ∧ KvL H xs rows ∧ RowsOk l rows ∧ rows.length ≤ 1000 ∧ (l < k ∧ l ≤ 20) ∧ S.ok H (r + costP l rows.length) ∧
  ∀ v H', Ext H H' → S.ok H' r → S.den H' v (partT l rows) → Q v H'
theorem ok_part1 {cc : Addr} {k : Nat} (T : Txt K mg cc) (A : SlA P w K mg base Fam) (C_none_seal : Cal P w K mg base 2 "none_seal" (spNone Fam) []) (C_parted : Cal P w K mg base 1 "parted" (spParted K) []) (C_part_top : Cal P w K mg base (k + 3) "part_top" (spPart K Fam k) []) : Cal P w K mg base (k + 4) "part_top" (spPart K Fam (k + 1)) [] := by
  have Z := T.Z
  refine cal_of T.d_part_top sc_part_top (fun vs H Q E h => ?_) (fun f cdv A' outer s H vs Q E hr h => ?_)
  · obtain ⟨S, a, xs, rows, l, r, _, rfl, _⟩ := h
    rfl
  obtain ⟨S, a, xs, rows, l, r, hF, rfl, hS, hk, hro, hl, hlk, hok, q⟩ := h
  have G := A.good hF
  have hxl := hk.len
  refine ⟨_, (pss_cons (ps_if (pt_cmpR op_eq (pe_callB call_len_seq rfl Z.len PySem.boot_len (pa_cons (pv 1) pa_nil)) pe_int (nomark _)) (pss_one (ps_ret (pe_c C_none_seal hr (by omega) rfl (pa_cons (pv 0) pa_nil)))) pss_nil)
  (pss_cons (ps_if (pt_cmpR op_eq (pe_callB call_len_seq rfl Z.len PySem.boot_len (pa_cons (pv 1) pa_nil)) pe_int (nomark _)) (pss_one (ps_ret (pe_sl (i := 0) A.held hr (by omega) rfl (by first | exact Or.inl rfl | exact Or.inr (Or.inl rfl) | exact Or.inr (Or.inr rfl)) (pa_cons pe_str (pa_cons (pe_ix ix_tup (pe_ix ix_list (pv 1) pe_int (fun _ _ => rfl)) pe_int (fun _ _ => rfl)) (pa_cons (pe_ix ix_tup (pe_ix ix_list (pv 1) pe_int (fun _ _ => rfl)) pe_int (fun _ _ => rfl)) pa_nil)))))) pss_nil)
  (pss_cons (ps_set (i := 3) sc_part_top.nd rfl (Or.inl rfl) (pe_c C_parted hr (by omega) rfl (pa_cons (pv 1) (pa_cons (pe_op op_sub (pv 2) pe_int) pa_nil))))
  (pss_one (ps_ret (pe_sl (i := 0) A.held hr (by omega) rfl (by first | exact Or.inl rfl | exact Or.inr (Or.inl rfl) | exact Or.inr (Or.inr rfl)) (pa_cons pe_str (pa_cons (pe_c C_part_top hr (by omega) rfl (pa_cons (pv 0) (pa_cons (pe_ix ix_tup (pv 3) pe_int (fun _ _ => rfl)) (pa_cons (pe_op op_sub (pv 2) pe_int) pa_nil)))) (pa_cons (pe_c C_part_top hr (by omega) rfl (pa_cons (pv 0) (pa_cons (pe_ix ix_tup (pv 3) pe_int (fun _ _ => rfl)) (pa_cons (pe_op op_sub (pv 2) pe_int) pa_nil)))) pa_nil))))))))), ?_⟩
  refine ⟨_, rfl, a, xs, rfl, .inl hS, rfl, _, rfl, ite2 (fun c => ?_) (fun c => ?_)⟩
  · have c' : (xs.length : Int) = 0 := V.int.inj (of_decide_eq_true c)
    have e : rows = [] := List.eq_nil_of_length_eq_zero (by omega)
    subst e
    refine ⟨_, rfl, S, r, hF, rfl, hok, fun v H' x ok d => q v H' x ok ?_⟩
    rw [partT_nil]
    exact d
  have n0 : xs.length ≠ 0 := fun z => c (decide_eq_true (by rw [z] <;> rfl))
  have cpos : costP l rows.length = rows.length * (2 * l + 1) := if_neg (by omega)
  refine ⟨_, rfl, a, xs, rfl, .inl hS, rfl, _, rfl, ite2 (fun c => ?_) (fun c => ?_)⟩
  · have c' : (xs.length : Int) = 1 := V.int.inj (of_decide_eq_true c)
    match rows, hk, hxl, q, cpos, hok with
    | [e], hk, hxl, q, cpos, hok =>
      obtain ⟨v0, hv0⟩ : ∃ v0, xs[0]? = some v0 := ⟨xs[0]'(by omega), List.getElem?_eq_getElem _⟩
      obtain ⟨qe, rfl, hqe, hqx⟩ := hk.at_ 0 v0 e hv0 rfl
      have h1 : 1 ≤ costP l ([e] : List (Int × Str)).length := by rw [cpos]; show 1 ≤ 1 * _; omega
      refine ⟨S, _, hF, rfl, hok, _, rfl, a, xs, 0, _, rfl, rfl, hS, atI_nat hv0, qe, _, 0, _, rfl, rfl, SqT.of hqe, rfl, _, rfl, a, xs, 0, _, rfl, rfl, hS, atI_nat hv0, qe, _, 1, _, rfl, rfl, SqT.of hqe, rfl, r, "row", .int e.1, .str e.2, _, _, rfl, by decide +kernel, G.less hok (by omega), G.int _ hok, G.str _ hok hqx, fun v H' x ok d => q v H' x ok ?_⟩
      rw [partT_one]
      exact d
    | [], _, hxl, _, _, _ => exact absurd hxl n0
    | _ :: _ :: _, _, hxl, _, _, _ => simp at hxl; omega
  have n1 : xs.length ≠ 1 := fun z => c (decide_eq_true (by rw [z] <;> rfl))
  have h2 : 2 ≤ rows.length := by omega
  obtain ⟨l', rfl⟩ : ∃ l', l = l' + 1 := by
    cases l with
    | zero => have := hro.zero; omega
    | succ l' => exact ⟨l', rfl⟩
  have el : ((l' + 1 : Nat) : Int) - 1 = (l' : Int) := by omega
  have hsp := filter_split (rows := rows) l'
  have hcs := costP_split (l := l') hsp h2
  refine ⟨_, rfl, _, rfl, _, 1, rfl, rfl, a, xs, rows, l', by rw [← el]; rfl, hS, hk, hro.1, hl, fun qb p1 p2 ys zs H1 x1 k1 _ _ hqb hp1 hp2 hy hz => ?_⟩
  have ok1 := G.keep k1 hok
  have lf1 := List.length_filter_le (bitK l' 0) rows
  have lf2 := List.length_filter_le (bitK l' 1) rows
  refine ⟨S, _, hF, rfl, ok1, _, rfl, _, rfl, qb, _, 0, .ref p1, rfl, rfl, SqT.of hqb, rfl, _, rfl, _, 1, rfl, rfl, S, p1, ys, rows.filter (bitK l' 0), l', r + 1 + costP l' (rows.filter (bitK l' 1)).length, hF, by rw [← el]; rfl, SqL.of hp1, hy, hro.part, by omega, by omega, G.less ok1 (by omega), fun v1 H2 x2 ok2 d1 => ?_⟩
  refine ⟨_, rfl, _, rfl, qb, _, 1, .ref p2, rfl, rfl, SqT.of (x2.tup hqb), rfl, _, rfl, _, 1, rfl, rfl, S, p2, zs, rows.filter (bitK l' 1), l', r + 1, hF, by rw [← el]; rfl, SqL.of (x2.lst hp2), hz.gr x2.gr, hro.part, by omega, by omega, G.less ok2 (by omega), fun v2 H3 x3 ok3 d2 => ?_⟩
  refine ⟨r, "fork", _, _, v1, v2, rfl, by decide +kernel, ok3, G.mono x3.gr d1, d2, fun v H4 x4 ok4 d4 => q v H4 (((x1.trans x2).trans x3).trans x4) ok4 ?_⟩
  rw [partT_more h2]
  exact d4
theorem ok_part {cc : Addr} (T : Txt K mg cc) (A : SlA P w K mg base Fam) (C_none_seal : Cal P w K mg base 2 "none_seal" (spNone Fam) []) (C_parted : Cal P w K mg base 1 "parted" (spParted K) []) : ∀ k : Nat, Cal P w K mg base (k + 3) "part_top" (spPart K Fam k) []
  | 0 => by
    obtain ⟨f, fd, ps, ds, F, m, kp, b, v⟩ := (cal_no (P := P) (w := w) (base := base) T.d_part_top 3).ex
    exact ⟨f, fd, ps, ds, F.imp fun vs H Q E h => by obtain ⟨_, _, _, _, _, _, _, _, _, _, _, _, z, _⟩ := h; exact absurd z.1 (Nat.not_lt_zero _), m, kp, b, v⟩
  | k + 1 => ok_part1 T A C_none_seal C_parted (ok_part T A C_none_seal C_parted k)
end

/-! ### a table: its dict as a row of pairs -/
def convT (kvs : List (Int × Str)) : List (Key × V) := kvs.map fun e => ((Sum.inl e.1 : Key), V.str e.2)
def putI (kvs : List (Int × Str)) (k : Int) (x : Str) : List (Int × Str) := if (kvs.any fun e => decide (e.1 = k)) = true then kvs.map (fun e => if e.1 = k then (e.1, x) else e) else kvs ++ [(k, x)]
def popI (kvs : List (Int × Str)) (k : Int) : List (Int × Str) := kvs.filter fun e => decide (e.1 ≠ k)
def getI (kvs : List (Int × Str)) (k : Int) : Option Str := (kvs.find? fun e => decide (e.1 = k)).map (·.2)
theorem inl_iff (a k : Int) : ((Sum.inl a : Key) = Sum.inl k) ↔ a = k := ⟨Sum.inl.inj, fun h => by rw [h]⟩
theorem conv_put (kvs : List (Int × Str)) (k : Int) (x : Str) : putK (convT kvs) (.inl k) (.str x) = convT (putI kvs k x) := by
  unfold putK putI convT
  rw [List.any_map]
  have e : ((fun kv : Key × V => decide (kv.1 = (Sum.inl k : Key))) ∘ fun e : Int × Str => ((Sum.inl e.1 : Key), V.str e.2)) = fun e : Int × Str => decide (e.1 = k) := by
    funext e
    exact decide_eq_decide.mpr (inl_iff _ _)
  rw [e]
  by_cases h : (kvs.any fun e => decide (e.1 = k)) = true
  · rw [if_pos h, if_pos h, List.map_map, List.map_map]
    refine List.map_congr_left fun e _ => ?_
    show (if (Sum.inl e.1 : Key) = Sum.inl k then _ else _) = _
    by_cases q : e.1 = k
    · rw [if_pos (by rw [q])]
      show _ = (fun e : Int × Str => ((Sum.inl e.1 : Key), V.str e.2)) (if e.1 = k then (e.1, x) else e)
      rw [if_pos q]
    · rw [if_neg (fun z => q (Sum.inl.inj z))]
      show _ = (fun e : Int × Str => ((Sum.inl e.1 : Key), V.str e.2)) (if e.1 = k then (e.1, x) else e)
      rw [if_neg q]
  · rw [if_neg h, if_neg h, List.map_append]
    rfl
theorem conv_pop (kvs : List (Int × Str)) (k : Int) : dropK (convT kvs) (.inl k) = convT (popI kvs k) := by
  unfold dropK popI convT
  rw [List.filter_map]
  congr 1
  refine List.filter_congr fun e _ => ?_
  exact decide_eq_decide.mpr (not_congr (inl_iff _ _))
theorem conv_get (kvs : List (Int × Str)) (k : Int) : valV (convT kvs) (.inl k) = (getI kvs k).map V.str := by
  unfold valV getI convT
  rw [List.find?_map]
  have e : ((fun kv : Key × V => decide (kv.1 = (Sum.inl k : Key))) ∘ fun e : Int × Str => ((Sum.inl e.1 : Key), V.str e.2)) = fun e : Int × Str => decide (e.1 = k) := by
    funext e
    exact decide_eq_decide.mpr (inl_iff _ _)
  rw [e, Option.map_map, Option.map_map]
  rfl
def tbF (f : Addr) (depth : Int) (d : Addr) : List (Str × V) := [("seal", .ref f), ("depth", .int depth), ("held", .ref d)]
theorem tbF_seal (f : Addr) (n : Int) (d : Addr) : (tbF f n d).lookup ("seal" : Str) = some (.ref f) := by kernel_rfl
theorem tbF_depth (f : Addr) (n : Int) (d : Addr) : (tbF f n d).lookup ("depth" : Str) = some (.int n) := by kernel_rfl
theorem tbF_held (f : Addr) (n : Int) (d : Addr) : (tbF f n d).lookup ("held" : Str) = some (.ref d) := by kernel_rfl
theorem tbF_mk (f : Addr) (n : Int) (d : Addr) : putF "held" (.ref d) (putF "depth" (.int n) (putF "seal" (.ref f) [])) = tbF f n d := by kernel_rfl
theorem tbF_no (f : Addr) (n : Int) (d : Addr) : (tbF f n d).lookup ("asked" : Str) = none ∧ (tbF f n d).lookup ("put" : Str) = none ∧ (tbF f n d).lookup ("cut" : Str) = none ∧ (tbF f n d).lookup ("value" : Str) = none ∧ (tbF f n d).lookup ("rows" : Str) = none ∧ (tbF f n d).lookup ("head" : Str) = none ∧ (tbF f n d).lookup ("way" : Str) = none ∧ (tbF f n d).lookup ("twin" : Str) = none :=
  ⟨by kernel_rfl, by kernel_rfl, by kernel_rfl, by kernel_rfl, by kernel_rfl, by kernel_rfl, by kernel_rfl, by kernel_rfl⟩
section
variable {P : Program} {w : World} {K : PySem.W.Frag} {mg : Str → Option Value} {base : Heap} {C : Addr}
def spAsked (mg : Str → Option Value) (C : Addr) : Sp := fun vs H Q E => ∃ (f p dx d : Addr) (l : Nat) (k : Int), vs = [.ref p, .int k] ∧ H p = some (.ins C dx (tbF f (l : Int) d)) ∧ l ≤ 1000 ∧
  (0 ≤ k ∧ k < 2 ^ l → Q .non H) ∧ (¬ (0 ≤ k ∧ k < 2 ^ l) → ∀ D, mg "NoPlace" = some (.ref D) → E (.ref D) none H)
theorem ok_askedN {cc : Addr} (T : Txt K mg cc) (KT : K_Table K mg C) : MetN P w K mg base 1 C "asked" (spAsked mg C) := by
  obtain ⟨C_NoPlace, g_NoPlace, F_NoPlace⟩ := T.x_NoPlace.ex
  refine metN_of KT.cl KT.m_asked sc_Table_asked (fun vs H Q E h => ?_) (fun f cdv A' outer s H vs Q E hr h => ?_)
  · obtain ⟨f, p, dx, d, l, k, rfl, _⟩ := h
    rfl
  obtain ⟨f, p, dx, d, l, k, rfl, hp, hl, q1, q2⟩ := h
  refine ⟨_, (pss_one (ps_if (pt_not (pt_chain op_le op_lt pe_int (pv 1) (pe_op op_oneShl pe_int (pe_fld (pv 0) rfl)))) (pss_one (ps_raiseXN F_NoPlace g_NoPlace rfl (L2N.takes_of rfl rfl rfl rfl) rfl)) pss_nil)), ?_⟩
  refine ⟨_, rfl, _, _, rfl, rfl, _, rfl, ite2 (fun c => ?_) (fun c => ?_)⟩
  · have c' : (0 : Int) ≤ k := of_decide_eq_true c
    refine ⟨_, rfl, p, C, dx, _, _, rfl, hp, KT.cl, KT.n_depth, tbF_depth _ _ _, l, rfl, rfl, by omega, _, _, rfl, rfl, _, rfl, ?_⟩
    by_cases c2 : k < 2 ^ l
    · rw [decide_eq_true c2]
      exact iteF (q1 ⟨c', c2⟩)
    · rw [decide_eq_false c2]
      exact iteT (q2 (fun z => c2 z.2) _ g_NoPlace)
  · have c' : ¬ (0 : Int) ≤ k := of_decide_eq_false (Bool.eq_false_iff.mpr c)
    exact ⟨_, rfl, iteT (q2 (fun z => c' z.1) _ g_NoPlace)⟩
theorem ok_asked {cc : Addr} (T : Txt K mg cc) (KT : K_Table K mg C) : MetR P w K mg base 1 C "asked" (spAsked mg C) := (ok_askedN T KT).weak
theorem ExtO.dict {d : Addr} {H : Hp} {kvs : List (Key × V)} {o : HO} (h : H d = some (.dK kvs)) : ExtO d H (upd H d o) := by
  refine ⟨fun a u q e _ => by rw [upd_ne q]; exact e, fun a ks e => ⟨[], ?_⟩, (Kp.dK h).gr⟩
  rw [List.append_nil, upd_ne]
  · exact e
  · rintro rfl
    rw [h] at e
    cases e
structure TbAt (C : Addr) (f : Addr) (H : Hp) (p d : Addr) (l : Nat) (kvs : List (Int × Str)) : Prop where
  at_ : ∃ dx, H p = some (.ins C dx (tbF f (l : Int) d))
  held : H d = some (.dK (convT kvs))
  small : kvs.length ≤ 1000 ∧ l ≤ 1000
def spPut (mg : Str → Option Value) (C : Addr) : Sp := fun vs H Q E => ∃ (f p d : Addr) (l : Nat) (kvs : List (Int × Str)) (k : Int) (x : Str), vs = [.ref p, .int k, .str x] ∧ TbAt C f H p d l kvs ∧
  (0 ≤ k ∧ k < 2 ^ l → Q .non (upd H d (.dK (convT (putI kvs k x))))) ∧ (¬ (0 ≤ k ∧ k < 2 ^ l) → ∀ D, mg "NoPlace" = some (.ref D) → E (.ref D) none H)
theorem ok_putN {cc : Addr} (T : Txt K mg cc) (KT : K_Table K mg C) : MetN P w K mg base 2 C "put" (spPut mg C) := by
  have M_asked := ok_askedN (P := P) (w := w) (base := base) T KT
  refine metN_of KT.cl KT.m_put sc_Table_put (fun vs H Q E h => ?_) (fun f cdv A' outer s H vs Q E hr h => ?_)
  · obtain ⟨f, p, d, l, kvs, k, x, rfl, _⟩ := h
    rfl
  obtain ⟨f', p, d, l, kvs, k, x, rfl, ⟨⟨dx, hp⟩, hd, hz, hl⟩, q1, q2⟩ := h
  have hu := hu_of hr
  refine ⟨_, (pss_cons (ps_expr (pe_mtn M_asked (L2N.takes_of rfl rfl rfl rfl) hr (by omega) (pv 0) (pa_cons (pv 1) pa_nil)))
  (pss_one (ps_dput hu (pe_fld (pv 0) rfl) (pv 1) (pv 2) rfl))), ?_⟩
  refine ⟨_, rfl, p, dx, _, rfl, hp, (tbF_no _ _ _).1, _, rfl, f', p, dx, d, l, k, rfl, hp, hl, fun hk => ?_, fun hk D hD => q2 hk D hD⟩
  refine ⟨_, rfl, _, rfl, p, C, dx, _, _, rfl, hp, KT.cl, KT.n_held, tbF_held _ _ _, _, rfl, d, _, rfl, DPut.k (k := .inl k) hd (by unfold convT; rw [List.length_map, sizeLine_eq]; omega), ?_⟩
  rw [conv_put]
  exact q1 hk
theorem ok_put {cc : Addr} (T : Txt K mg cc) (KT : K_Table K mg C) : MetR P w K mg base 2 C "put" (spPut mg C) := (ok_putN T KT).weak
def spValue (mg : Str → Option Value) (C : Addr) : Sp := fun vs H Q E => ∃ (f p d : Addr) (l : Nat) (kvs : List (Int × Str)) (k : Int), vs = [.ref p, .int k] ∧ TbAt C f H p d l kvs ∧
  (0 ≤ k ∧ k < 2 ^ l → Q (((getI kvs k).map V.str).getD .non) H) ∧ (¬ (0 ≤ k ∧ k < 2 ^ l) → ∀ D, mg "NoPlace" = some (.ref D) → E (.ref D) none H)
theorem ok_value {cc : Addr} (T : Txt K mg cc) (KT : K_Table K mg C) : MetR P w K mg base 2 C "value" (spValue mg C) := by
  have M_asked := ok_asked (P := P) (w := w) (base := base) T KT
  refine metR_of KT.cl KT.m_value sc_Table_value (fun vs H Q E h => ?_) (fun f cdv A' outer s H vs Q E hr h => ?_)
  · obtain ⟨f, p, d, l, kvs, k, rfl, _⟩ := h
    rfl
  obtain ⟨f', p, d, l, kvs, k, rfl, ⟨⟨dx, hp⟩, hd, hz, hl⟩, q1, q2⟩ := h
  have hu := hu_of hr
  refine ⟨_, (pss_cons (ps_expr (pe_mtx M_asked (takes_of rfl rfl rfl rfl) hr (by omega) (pv 0) (pa_cons (pv 1) pa_nil)))
  (pss_one (ps_ret (pe_dget1 hu (pe_fld (pv 0) rfl) (pv 1) ⟨rfl, rfl, rfl, rfl⟩)))), ?_⟩
  refine ⟨_, rfl, p, dx, _, rfl, hp, (tbF_no _ _ _).1, _, rfl, f', p, dx, d, l, k, rfl, hp, hl, fun hk => ?_, fun hk D hD => q2 hk D hD⟩
  refine ⟨_, rfl, p, C, dx, _, _, rfl, hp, KT.cl, KT.n_held, tbF_held _ _ _, d, rfl, .inl ⟨_, .inl hd⟩, _, rfl, _, DGet.k (k := .inl k) hd, ?_⟩
  rw [conv_get]
  exact q1 hk
end

section
variable {P : Program} {w : World} {K : PySem.W.Frag} {mg : Str → Option Value} {base : Heap} {C : Addr}
def spCut (mg : Str → Option Value) (C : Addr) : Sp := fun vs H Q E => ∃ (f p d : Addr) (l : Nat) (kvs : List (Int × Str)) (k : Int), vs = [.ref p, .int k] ∧ TbAt C f H p d l kvs ∧
  (0 ≤ k ∧ k < 2 ^ l ∧ (getI kvs k).isSome = true → Q .non (upd H d (.dK (convT (popI kvs k))))) ∧ (¬ (0 ≤ k ∧ k < 2 ^ l ∧ (getI kvs k).isSome = true) → ∀ D, mg "NoPlace" = some (.ref D) → E (.ref D) none H)
theorem ok_cutN {cc : Addr} (T : Txt K mg cc) (KT : K_Table K mg C) : MetN P w K mg base 2 C "cut" (spCut mg C) := by
  obtain ⟨C_NoPlace, g_NoPlace, F_NoPlace⟩ := T.x_NoPlace.ex
  have M_asked := ok_askedN (P := P) (w := w) (base := base) T KT
  refine metN_of KT.cl KT.m_cut sc_Table_cut (fun vs H Q E h => ?_) (fun f cdv A' outer s H vs Q E hr h => ?_)
  · obtain ⟨f, p, d, l, kvs, k, rfl, _⟩ := h
    rfl
  obtain ⟨f', p, d, l, kvs, k, rfl, ⟨⟨dx, hp⟩, hd, hz, hl⟩, q1, q2⟩ := h
  have hu := hu_of hr
  refine ⟨_, (pss_cons (ps_expr (pe_mtn M_asked (L2N.takes_of rfl rfl rfl rfl) hr (by omega) (pv 0) (pa_cons (pv 1) pa_nil)))
  (pss_cons (ps_if (pt_cmp (pc_dnotin hu (pv 1) (pe_fld (pv 0) rfl))) (pss_one (ps_raiseXN F_NoPlace g_NoPlace rfl (L2N.takes_of rfl rfl rfl rfl) rfl)) pss_nil)
  (pss_one (ps_expr (pe_dpop1 (pe_fld (pv 0) rfl) (pv 1) ⟨rfl, rfl, rfl, rfl⟩))))), ?_⟩
  refine ⟨_, rfl, p, dx, _, rfl, hp, (tbF_no _ _ _).1, _, rfl, f', p, dx, d, l, k, rfl, hp, hl, fun hk => ?_, fun hk D hD => q2 (fun z => hk ⟨z.1, z.2.1⟩) D hD⟩
  refine ⟨_, rfl, _, rfl, p, C, dx, _, _, rfl, hp, KT.cl, KT.n_held, tbF_held _ _ _, d, _, rfl, DGet.k (k := .inl k) hd, _, rfl, ?_⟩
  have hg := conv_get kvs k
  cases hgi : getI kvs k with
  | none =>
    rw [hgi] at hg
    rw [hg]
    exact iteT (q2 (fun z => by have := z.2.2; rw [hgi] at this; cases this) _ g_NoPlace)
  | some x =>
    rw [hgi] at hg
    rw [hg]
    refine iteF ?_
    refine ⟨_, rfl, p, C, dx, _, _, rfl, hp, KT.cl, KT.n_held, tbF_held _ _ _, d, rfl, .inl ⟨_, .inl hd⟩, _, rfl, _, .inl k, .str x, hd, rfl, hg, ?_⟩
    rw [conv_pop]
    exact q1 ⟨hk.1, hk.2, by rw [hgi]; rfl⟩
theorem ok_cut {cc : Addr} (T : Txt K mg cc) (KT : K_Table K mg C) : MetR P w K mg base 2 C "cut" (spCut mg C) := (ok_cutN T KT).weak
end

section
variable {P : Program} {w : World} {K : PySem.W.Frag} {mg : Str → Option Value} {base : Heap} {C : Addr}
def kOf (H : Hp) : V → Int
  | .ref t => match H t with
    | some (.tup [.int i, .str _]) => i
    | _ => 0
  | _ => 0
def fOf (H : Hp) : V → Str
  | .ref t => match H t with
    | some (.tup [.int _, .str x]) => x
    | _ => ""
  | _ => ""
theorem kOf_at {H : Hp} {t : Addr} {i : Int} {x : Str} (h : H t = some (.tup [.int i, .str x])) : kOf H (.ref t) = i ∧ fOf H (.ref t) = x := by
  unfold kOf fOf
  simp only [h]
  exact ⟨trivial, trivial⟩
theorem nodup_key {kvs : List (Int × Str)} (h : (kvs.map (·.1)).Nodup) {a b : Int × Str} (ha : a ∈ kvs) (hb : b ∈ kvs) (e : a.1 = b.1) : a = b := by
  induction kvs with
  | nil => cases ha
  | cons c r ih =>
    rw [List.map_cons, List.nodup_cons] at h
    rcases List.mem_cons.mp ha with rfl | ha'
    · rcases List.mem_cons.mp hb with rfl | hb'
      · rfl
      · exact absurd (List.mem_map.mpr ⟨b, hb', e.symm⟩) h.1
    · rcases List.mem_cons.mp hb with rfl | hb'
      · exact absurd (List.mem_map.mpr ⟨a, ha', e⟩) h.1
      · exact ih h.2 ha' hb'
def spRows (C : Addr) : Sp := fun vs H Q _ => ∃ (f p d : Addr) (l : Nat) (kvs : List (Int × Str)), vs = [.ref p] ∧ TbAt C f H p d l kvs ∧ (kvs.map (·.1)).Nodup ∧ (∀ e ∈ kvs, txtOk e.2 = true) ∧
  ∀ q ys rows H', Ext H H' → Kp H H' → H q = none → H' q = some (.lst ys) → KvL H' ys rows → rows.Perm kvs → rows.Pairwise (fun a b => a.1 ≤ b.1) → Q (.ref q) H'
theorem ok_rows {cc : Addr} (T : Txt K mg cc) (KT : K_Table K mg C) : Met P w K mg base 1 C "rows" (spRows C) [] := by
  have Z := T.Z
  refine met_of KT.cl KT.m_rows sc_Table_rows (fun vs H Q E h => ?_) (fun f cdv A' outer s H vs Q E hr h => ?_)
  · obtain ⟨f, p, d, l, kvs, rfl, _⟩ := h
    rfl
  obtain ⟨f', p, d, l, kvs, rfl, ⟨⟨dx, hp⟩, hd, hz, hl⟩, hnd, htx, q⟩ := h
  have e16 : sizeLine = 16777216 := sizeLine_eq
  refine ⟨_, (pss_one (ps_ret (pe_callB cr_sortedKv rfl Z.sorted (by decide +kernel) (pa_cons (pe_lock (pe_lc (own := [("key", 1), ("text", 2)]) (g := gTup K 2 (gCons (gName 1) (gCons (gName 2) gNil))) (tt := tYes) rfl sc_Table_rows.nd (pi_items (pe_fld (pv 0) rfl)) (blkOk_by (N := N_Table_rows) (sc := defScope s_Table_rows) (by decide +kernel)) (fun _ _ _ _ _ => (pg_tup rfl (pgs_cons (pg_name (i := 1) sc_Table_rows.nd rfl (Or.inl rfl)) (pgs_cons (pg_name (i := 2) sc_Table_rows.nd rfl (Or.inl rfl)) pgs_nil)))) (fun _ _ _ _ _ => pts_nil) (fun _ _ _ _ _ => (pe_tup (pa_cons (pv 1) (pa_cons (pv 2) pa_nil)))))) pa_nil)))), ?_⟩
  refine ⟨d, _, hd, True.intro, fun od => ?_⟩
  have ndp : p ≠ d := fun z => by rw [z, hd] at hp; cases hp
  refine ⟨_, rfl, p, C, dx, _, _, rfl, by rw [upd_ne ndp]; exact hp, KT.cl, KT.n_held, tbF_held _ _ _, d, od, convT kvs, rfl, upd_same, fun D nD => ?_⟩
  have lc : (convT kvs).length = kvs.length := by unfold convT; rw [List.length_map]
  have x0 := ExtO.dict (o := .frz od (.dK (convT kvs))) hd
  have k0 := Kp.dK (o := .frz od (.dK (convT kvs))) hd
  have hd0 : upd H d (.frz od (.dK (convT kvs))) d = some (.frz od (.dK (convT kvs))) := upd_same
  generalize upd H d (.frz od (.dK (convT kvs))) = H0 at x0 k0 hd0 nD ⊢
  have nDd : D ≠ d := fun z => by rw [z, hd0] at nD; cases nD
  have nDH : H D = none := by
    cases e : H D with
    | none => rfl
    | some o =>
      by_cases n : ∃ ks, o = .dT ks
      · obtain ⟨ks, rfl⟩ := n
        obtain ⟨m, e1⟩ := x0.grow D ks e
        rw [e1] at nD
        cases nD
      · rw [x0.keep D o nDd e fun ks z => n ⟨ks, z⟩] at nD
        cases nD
  refine lc_it walk_items (fun i H' => ∃ acc, H' d = some (.frz od (.dK (convT kvs))) ∧ Ext H0 H' ∧ Kp H0 H' ∧ H' D = some (.lst acc) ∧ KvL H' acc (kvs.take i)) ⟨[], by rw [upd_ne nDd.symm]; exact hd0, Ext.new nD, Kp.new nD, upd_same, KvL.nil⟩ (fun i H' _ ⟨_, h, _⟩ => h) ?_ ?_
  · rintro i x H1 H2 hi ⟨acc, h1, x1, k1, hD, hk⟩ ⟨t, kx, vx, rfl, nt, rfl, e1, e2⟩
    rw [lc] at hi
    obtain ⟨e, he⟩ : ∃ e, kvs[i]? = some e := ⟨kvs[i], List.getElem?_eq_getElem hi⟩
    have hc : (convT kvs)[i]? = some ((Sum.inl e.1 : Key), V.str e.2) := by unfold convT; rw [List.getElem?_map, he]; rfl
    have e1' : (convT kvs)[i]?.map (fun kv => kV kv.1) = some kx := e1
    have e2' : (convT kvs)[i]?.map Prod.snd = some vx := e2
    rw [hc] at e1' e2'
    have ek : V.int e.1 = kx := Option.some.inj e1'
    have ev : V.str e.2 = vx := Option.some.inj e2'
    subst ek ev
    have hex : txtOk e.2 = true := htx e (List.mem_of_getElem? he)
    have u1 := Ext.new (o := .tup [.int e.1, .str e.2]) nt
    have j1 := Kp.new (o := .tup [.int e.1, .str e.2]) nt
    refine ⟨t, _, rfl, SqT.of upd_same, rfl, _, _, rfl, _, _, rfl, rfl, rfl, _, rfl, _, rfl, by show 2 ≤ sizeLine; decide, fun q2 nq2 => ?_⟩
    have u2 := u1.trans (Ext.new (o := .tup [.int e.1, .str e.2]) nq2)
    have j2 := j1.trans (Kp.new (o := .tup [.int e.1, .str e.2]) nq2)
    have hD2 := u2.lst hD
    have hd2 := u2.frz h1
    have hal := hk.len
    rw [List.length_take] at hal
    have j3 := j2.trans (Kp.lst (o := .lst (acc ++ [.ref q2])) hD2)
    refine ⟨acc, hD2, by omega, acc ++ [.ref q2], by rw [upd_ne nDd.symm]; exact hd2, (x1.trans u2).mut nD, k1.trans j3, upd_same, ?_⟩
    have et : kvs.take (i + 1) = kvs.take i ++ [e] := by rw [List.take_succ, he]; rfl
    rw [et]
    exact (hk.gr j3.gr).snoc ((Kp.lst hD2) _ _ (by exact upd_same) True.intro) hex
  rintro H1 ⟨acc, h1, x1, k1, hD, hk⟩
  rw [lc, List.take_length] at hk
  refine ⟨h1, ?_⟩
  have hD3 : upd H1 d (.dK (convT kvs)) D = some (.lst acc) := by rw [upd_ne nDd]; exact hD
  have x3 : Ext H (upd H1 d (.dK (convT kvs))) := by
    refine ⟨fun a o ha n => ?_, fun a ks ha => ?_⟩
    · by_cases e : a = d
      · subst e
        rw [hd] at ha
        cases ha
        exact upd_same
      · rw [upd_ne e]
        exact x1.keep a o (x0.keep a o e ha n) n
    · have e : a ≠ d := fun z => by rw [z, hd] at ha; cases ha
      obtain ⟨m1, e1⟩ := x0.grow a ks ha
      obtain ⟨m2, e2⟩ := x1.grow a _ e1
      exact ⟨m1 ++ m2, by rw [upd_ne e, e2, List.append_assoc]⟩
  have k3 : Kp H (upd H1 d (.dK (convT kvs))) := fun a o ha st => by
    by_cases e : a = d
    · subst e
      rw [hd] at ha
      cases ha
      exact st.elim
    · rw [upd_ne e]
      exact k1 a o (k0 a o ha st) st
  have hk3 : KvL (upd H1 d (.dK (convT kvs))) acc kvs := by
    refine ⟨hk.len, fun j v e a b => ?_⟩
    obtain ⟨q', g1, g2, g3⟩ := hk.at_ j v e a b
    refine ⟨q', g1, ?_, g3⟩
    rw [upd_ne]
    · exact g2
    · rintro rfl
      rw [h1] at g2
      cases g2
  have nD3 := nDH
  generalize upd H1 d (.dK (convT kvs)) = H3 at hD3 x3 k3 hk3 ⊢
  have hal := hk3.len
  have mem : ∀ x ∈ acc, ∃ t e, x = .ref t ∧ H3 t = some (.tup [.int e.1, .str e.2]) ∧ e ∈ kvs ∧ kOf H3 x = e.1 ∧ fOf H3 x = e.2 := fun x hx => by
    obtain ⟨j, hj⟩ := List.getElem?_of_mem hx
    have hjl := (List.getElem?_eq_some_iff.mp hj).1
    have he : kvs[j]? = some (kvs[j]'(by omega)) := List.getElem?_eq_getElem _
    obtain ⟨t, rfl, ht, _⟩ := hk3.at_ j x _ hj he
    exact ⟨t, _, rfl, ht, List.mem_of_getElem? he, (kOf_at ht).1, (kOf_at ht).2⟩
  have mapk : acc.map (fun x => (kOf H3 x, fOf H3 x)) = kvs := by
    apply List.ext_getElem?
    intro j
    rw [List.getElem?_map]
    cases hj : acc[j]? with
    | none =>
      have := List.getElem?_eq_none_iff.mp hj
      rw [List.getElem?_eq_none (by omega)]
      rfl
    | some x =>
      have hjl := (List.getElem?_eq_some_iff.mp hj).1
      have he : kvs[j]? = some (kvs[j]'(by omega)) := List.getElem?_eq_getElem _
      obtain ⟨t, rfl, ht, _⟩ := hk3.at_ j x _ hj he
      rw [he]
      show some (kOf H3 (.ref t), fOf H3 (.ref t)) = _
      rw [(kOf_at ht).1, (kOf_at ht).2]
  refine ⟨D, acc, kOf H3, fOf H3, rfl, SqL.of hD3, fun x hx => ?_, fun x hx y hy e => ?_, fun ys p2 perm pw np => ?_⟩
  · obtain ⟨t, e, h1, h2, _, h4, h5⟩ := mem x hx
    exact ⟨t, h1, by rw [h4, h5]; exact h2⟩
  · obtain ⟨t, e1, _, _, h3, h4, h5⟩ := mem x hx
    obtain ⟨t', e2, _, _, g3, g4, g5⟩ := mem y hy
    rw [h4, g4] at e
    have := nodup_key hnd h3 g3 e
    rw [h5, g5, this]
  · have u := Ext.new (o := .lst ys) np
    refine q p2 ys (ys.map fun x => (kOf H3 x, fOf H3 x)) _ (x3.trans u) (k3.trans (Kp.new np)) (x3.free np) upd_same ⟨by rw [List.length_map], fun j v e a b => ?_⟩ ?_ ?_
    · rw [List.getElem?_map, a] at b
      obtain ⟨t, e', h1, h2, h3, h4, h5⟩ := mem v (perm.mem_iff.mp (List.mem_of_getElem? a))
      have eb := Option.some.inj b
      subst eb
      refine ⟨t, h1, u.tup ?_, ?_⟩
      · show H3 t = some (.tup [.int (kOf H3 v), .str (fOf H3 v)])
        rw [h4, h5]
        exact h2
      · show txtOk (fOf H3 v) = true
        rw [h5]
        exact htx _ h3
    · have := perm.map fun x => (kOf H3 x, fOf H3 x)
      rwa [mapk] at this
    · exact List.pairwise_map.mpr pw
end

section
variable {P : Program} {w : World} {K : PySem.W.Frag} {mg : Str → Option Value} {base : Heap} {Fam : Sys → Prop} {C : Addr}
structure TbOk (l : Nat) (kvs : List (Int × Str)) : Prop where
  nd : (kvs.map (·.1)).Nodup
  rg : ∀ e ∈ kvs, 0 ≤ e.1 ∧ e.1 < 2 ^ l
  tx : ∀ e ∈ kvs, txtOk e.2 = true
theorem rows_ok {l : Nat} {kvs rows : List (Int × Str)} (h : TbOk l kvs) (p : rows.Perm kvs) : RowsOk l rows := by
  have nd : (rows.map (·.1)).Nodup := (p.map (·.1)).nodup_iff.mpr h.nd
  have rg : ∀ e ∈ rows, 0 ≤ e.1 ∧ e.1 < 2 ^ l := fun e he => h.rg e (p.mem_iff.mp he)
  refine ⟨fun e he => (rg e he).1, ?_⟩
  have pw : rows.Pairwise fun a b => a.1 ≠ b.1 := List.pairwise_map.mp nd
  refine List.Pairwise.imp_of_mem (fun {a b} ha hb hab => ?_) pw
  rw [Int.emod_eq_of_lt (rg a ha).1 (rg a ha).2, Int.emod_eq_of_lt (rg b hb).1 (rg b hb).2]
  exact hab
def spTInit (C : Addr) (Fam : Sys → Prop) : Sp := fun vs H Q _ => ∃ (S : Sys) (p dx : Addr) (l : Nat) (r : Nat), Fam S ∧ vs = [.ref p, .ref S.f, .int (l : Int)] ∧ H p = some (.ins C dx []) ∧ l ≤ 1000 ∧ S.ok H r ∧ ∀ H' d, ExtO p H H' → Kp H H' → H d = none → S.ok H' r → TbAt C S.f H' p d l [] → Q .non H'
theorem tinit_body (A : SlA P w K mg base Fam) (KT : K_Table K mg C) : ∀ (f : Addr) (cdv : Value) (A' : Around) (outer : List Env) (s : Shared) (H : Hp) (vs : List V) (Q : VK) (E : XK), Room 0 (A'.deeper (envOfC "Table.__init__" (defScope s_Table___init__) s.heap.objs.size f cdv)) → spTInit C Fam vs H Q E →
      ∃ t, PSs (cxOf L2.CX0 P w K mg base N_Table___init__ "Table.__init__" (defScope s_Table___init__) f cdv A' outer s H E).nox (defBody s_Table___init__) t ∧ t { nx := fun _ H' => Q .non H', rt := Q } (start N_Table___init__ vs) H := by
  intro f cdv A' outer s H vs Q E hr h
  obtain ⟨S, p, dx, l, r, hF, rfl, hp, hl, hok, q⟩ := h
  have G := A.good hF
  refine ⟨_, (pss_cons (ps_fld (pv 0) (pv 1) rfl)
  (pss_cons (ps_fld (pv 0) (pv 2) rfl)
  (pss_one (ps_fld (pv 0) pe_dnewK rfl)))), ?_⟩
  refine ⟨_, rfl, _, rfl, p, C, dx, _, rfl, hp, KT.cl, KT.n_seal, by show 0 < 1000; decide, ?_⟩
  have x1 := ExtO.put (o := .ins C dx (putF "seal" (.ref S.f) [])) hp
  have k1 := Kp.ins (o := .ins C dx (putF "seal" (.ref S.f) [])) hp
  have h1 : upd H p (.ins C dx (putF "seal" (.ref S.f) [])) p = some (.ins C dx (putF "seal" (.ref S.f) [])) := upd_same
  have n1 : ∀ d, upd H p (.ins C dx (putF "seal" (.ref S.f) [])) d = none → H d = none := fun d h => by
    by_cases e : d = p
    · rw [e, upd_same] at h; cases h
    · rwa [upd_ne e] at h
  generalize upd H p (.ins C dx (putF "seal" (.ref S.f) [])) = H1 at x1 k1 h1 n1 ⊢
  refine ⟨_, rfl, _, rfl, p, C, dx, _, rfl, h1, KT.cl, KT.n_depth, by show 1 < 1000; decide, ?_⟩
  have x2 := x1.trans (ExtO.put (o := .ins C dx (putF "depth" (.int (l : Int)) (putF "seal" (.ref S.f) []))) h1)
  have k2 := k1.trans (Kp.ins (o := .ins C dx (putF "depth" (.int (l : Int)) (putF "seal" (.ref S.f) []))) h1)
  have h2 : upd H1 p (.ins C dx (putF "depth" (.int (l : Int)) (putF "seal" (.ref S.f) []))) p = some (.ins C dx (putF "depth" (.int (l : Int)) (putF "seal" (.ref S.f) []))) := upd_same
  have n2 : ∀ d, upd H1 p (.ins C dx (putF "depth" (.int (l : Int)) (putF "seal" (.ref S.f) []))) d = none → H d = none := fun d h => by
    by_cases e : d = p
    · rw [e, upd_same] at h; cases h
    · rw [upd_ne e] at h; exact n1 d h
  generalize upd H1 p (.ins C dx (putF "depth" (.int (l : Int)) (putF "seal" (.ref S.f) []))) = H2 at x2 k2 h2 n2 ⊢
  refine fun d nd => ?_
  have npd : p ≠ d := ne_of_none h2 nd
  have x3 := x2.trans (Ext.new (o := .dK []) nd).o
  have k3 := k2.trans (Kp.new (o := .dK []) nd)
  have h3 : upd H2 d (.dK []) p = some (.ins C dx (putF "depth" (.int (l : Int)) (putF "seal" (.ref S.f) []))) := by rw [upd_ne npd]; exact h2
  refine ⟨_, rfl, p, C, dx, _, rfl, h3, KT.cl, KT.n_held, by show 2 < 1000; decide, ?_⟩
  refine q _ d (x3.trans (ExtO.put h3)) (k3.trans (Kp.ins h3)) (n2 d nd) (G.keep (k3.trans (Kp.ins h3)) hok) ⟨⟨dx, by rw [upd_same, tbF_mk]⟩, by rw [upd_ne npd.symm]; exact upd_same, by decide, hl⟩
theorem ok_tinit (A : SlA P w K mg base Fam) (KT : K_Table K mg C) : Mak P w K mg base 1 "Table" C (spTInit C Fam) [] :=
  mak_ofD 3 1 KT.mgC KT.made (by simp) rfl (fun T kV doc pm an cdv ct us its hu hi => match us, its, hu, hi with | [_, _, _], [_], _, _ => ⟨_, rfl, rfl⟩) sc_Table___init__ (fun vs H Q E h => by obtain ⟨S, p, dx, l, r, _, rfl, _⟩ := h; rfl) (tinit_body A KT)
theorem ok_tinit8 (A : SlA P w K mg base Fam) (KT : K_Table K mg C) : Mak P w K mg base 1 "Table" C (spTInit C Fam) [.int 8] :=
  mak_ofD 2 0 KT.mgC KT.made (by simp) rfl (fun T kV doc pm an cdv ct us its hu hi => match us, its, hu, hi with | [_, _], [_], _, _ => ⟨_, rfl, rfl⟩) sc_Table___init__ (fun vs H Q E h => by obtain ⟨S, p, dx, l, r, _, rfl, _⟩ := h; rfl) (tinit_body A KT)
end

section
variable {P : Program} {w : World} {K : PySem.W.Frag} {mg : Str → Option Value} {base : Heap} {Fam : Sys → Prop} {C : Addr}
theorem ok_table_seal {cc : Addr} (T : Txt K mg cc) (A : SlA P w K mg base Fam) : Cal P w K mg base 2 "table_seal" (spMark "table" Fam) [] := by
  refine cal_of T.d_table_seal sc_table_seal (fun vs H Q E h => ?_) (fun f cdv A' outer s H vs Q E hr h => ?_)
  · obtain ⟨S, va, vb, a, b, r, _, rfl, _⟩ := h
    rfl
  obtain ⟨S, va, vb, a, b, r, hF, rfl, hok, ha, hb, q⟩ := h
  refine ⟨_, (pss_one (ps_ret (pe_sl (i := 0) A.held hr (by omega) rfl (by first | exact Or.inl rfl | exact Or.inr (Or.inl rfl) | exact Or.inr (Or.inr rfl)) (pa_cons pe_str (pa_cons (pv 1) (pa_cons (pv 2) pa_nil)))))), ?_⟩
  exact ⟨S, _, hF, rfl, hok, _, rfl, _, rfl, r, "table", a, b, _, _, rfl, by decide +kernel, hok, ha, hb, fun v H' e ok d => q v H' e ok d⟩
def spTHead (C : Addr) (Fam : Sys → Prop) : Sp := fun vs H Q _ => ∃ (S : Sys) (p d : Addr) (l : Nat) (kvs : List (Int × Str)) (r : Nat), Fam S ∧ vs = [.ref p] ∧ TbAt C S.f H p d l kvs ∧ TbOk l kvs ∧ l ≤ 20 ∧ S.ok H (r + 1 + costP l kvs.length) ∧
  ∀ v rows H', Ext H H' → S.ok H' r → rows.Perm kvs → rows.Pairwise (fun a b => a.1 ≤ b.1) → S.den H' v (.sl "table" (.int (l : Int)) (partT l rows)) → Q v H'
theorem ok_thead {cc : Addr} (T : Txt K mg cc) (A : SlA P w K mg base Fam) (KT : K_Table K mg C) : Met P w K mg base 25 C "head" (spTHead C Fam) [] := by
  have C_table_seal := ok_table_seal T A
  have C_part_top := ok_part T A (ok_none_seal T A) (ok_parted T) 21
  have M_rows := ok_rows (P := P) (w := w) (base := base) T KT
  refine met_of KT.cl KT.m_head sc_Table_head (fun vs H Q E h => ?_) (fun f cdv A' outer s H vs Q E hr h => ?_)
  · obtain ⟨S, p, d, l, kvs, r, _, rfl, _⟩ := h
    rfl
  obtain ⟨S, p, d, l, kvs, r, hF, rfl, ⟨⟨dx, hp⟩, hd, hz, hl'⟩, hk, hl, hok, q⟩ := h
  have G := A.good hF
  refine ⟨_, (pss_one (ps_ret (pe_c C_table_seal hr (by omega) rfl (pa_cons (pe_fld (pv 0) rfl) (pa_cons (pe_fld (pv 0) rfl) (pa_cons (pe_c C_part_top hr (by omega) rfl (pa_cons (pe_fld (pv 0) rfl) (pa_cons (pe_mt0 M_rows hr (by omega) (pv 0)) (pa_cons (pe_fld (pv 0) rfl) pa_nil)))) pa_nil)))))), ?_⟩
  refine ⟨_, rfl, p, C, dx, _, _, rfl, hp, KT.cl, KT.n_seal, tbF_seal _ _ _, _, rfl, p, C, dx, _, _, rfl, hp, KT.cl, KT.n_depth, tbF_depth _ _ _, _, rfl, p, C, dx, _, _, rfl, hp, KT.cl, KT.n_seal, tbF_seal _ _ _, ?_⟩
  refine ⟨_, rfl, p, dx, _, rfl, hp, (tbF_no _ _ _).2.2.2.2.1, S.f, p, d, l, kvs, rfl, ⟨⟨dx, hp⟩, hd, hz, hl'⟩, hk.nd, hk.tx, fun qr ys rows H1 x1 k1 nq hqr hrows perm pw => ?_⟩
  refine ⟨_, rfl, p, C, dx, _, _, rfl, x1.ins hp, KT.cl, KT.n_depth, tbF_depth _ _ _, S, qr, ys, rows, l, r + 1, hF, rfl, SqL.of hqr, hrows, rows_ok hk perm, by rw [perm.length_eq]; omega, by omega, by rw [perm.length_eq]; exact G.keep k1 hok, fun v H2 x2 ok2 d2 => ?_⟩
  exact ⟨S, .int (l : Int), v, .int (l : Int), partT l rows, r, hF, rfl, ok2, G.int _ ok2, d2, fun u H3 x3 ok3 d3 => q u rows H3 ((x1.trans x2).trans x3) ok3 perm pw d3⟩
end

/-! ### rows of a key and a text, by rising keys: one and the same for the same pairs -/
theorem kv_uniq : ∀ {a b : List (Int × Str)}, a.Perm b → a.Pairwise (fun x y => x.1 < y.1) → b.Pairwise (fun x y => x.1 < y.1) → a = b
  | [], b, p, _, _ => (List.nil_perm.mp p).symm
  | x :: a, [], p, _, _ => absurd (List.perm_nil.mp p) (List.cons_ne_nil _ _)
  | x :: a, y :: b, p, ha, hb => by
    have e : x = y := by
      rcases List.mem_cons.mp (p.mem_iff.mp (List.mem_cons_self ..)) with h | h
      · exact h
      · rcases List.mem_cons.mp (p.mem_iff.mpr (List.mem_cons_self ..)) with g | g
        · exact g.symm
        · have h1 := (List.pairwise_cons.mp hb).1 x h
          have h2 := (List.pairwise_cons.mp ha).1 y g
          omega
    subst e
    rw [kv_uniq (List.Perm.cons_inv p) (List.pairwise_cons.mp ha).2 (List.pairwise_cons.mp hb).2]
theorem kv_strict {a : List (Int × Str)} (hn : (a.map (·.1)).Nodup) (h : a.Pairwise fun x y => x.1 ≤ y.1) : a.Pairwise fun x y => x.1 < y.1 := by
  have pw : a.Pairwise fun x y => x.1 ≠ y.1 := List.pairwise_map.mp hn
  refine (h.and pw).imp fun {x y} h => ?_
  have h1 := h.1
  have h2 := h.2
  omega
theorem kv_same {a b kvs : List (Int × Str)} (hn : (kvs.map (·.1)).Nodup) (pa : a.Perm kvs) (pb : b.Perm kvs) (ha : a.Pairwise fun x y => x.1 ≤ y.1) (hb : b.Pairwise fun x y => x.1 ≤ y.1) : a = b :=
  kv_uniq (pa.trans pb.symm) (kv_strict ((pa.map (·.1)).nodup_iff.mpr hn) ha) (kv_strict ((pb.map (·.1)).nodup_iff.mpr hn) hb)
/-! ### what the deeds do to the pairs -/
theorem tbok_put {l : Nat} {kvs : List (Int × Str)} {k : Int} {x : Str} (h : TbOk l kvs) (h0 : 0 ≤ k) (h1 : k < 2 ^ l) (hx : txtOk x = true) : TbOk l (putI kvs k x) := by
  unfold putI
  by_cases c : (kvs.any fun e => decide (e.1 = k)) = true
  · rw [if_pos c]
    have em : (kvs.map fun e => if e.1 = k then (e.1, x) else e).map (·.1) = kvs.map (·.1) := by
      rw [List.map_map]
      refine List.map_congr_left fun e _ => ?_
      show (if e.1 = k then (e.1, x) else e).1 = e.1
      by_cases q : e.1 = k
      · rw [if_pos q]
      · rw [if_neg q]
    refine ⟨by rw [em]; exact h.nd, fun e he => ?_, fun e he => ?_⟩
    · obtain ⟨e', he', rfl⟩ := List.mem_map.mp he
      by_cases q : e'.1 = k
      · rw [if_pos q]
        exact h.rg e' he'
      · rw [if_neg q]
        exact h.rg e' he'
    · obtain ⟨e', he', rfl⟩ := List.mem_map.mp he
      by_cases q : e'.1 = k
      · rw [if_pos q]
        exact hx
      · rw [if_neg q]
        exact h.tx e' he'
  · rw [if_neg c]
    refine ⟨?_, fun e he => ?_, fun e he => ?_⟩
    · rw [List.map_append, List.nodup_append]
      refine ⟨h.nd, List.pairwise_singleton _ _, fun a ha b hb => ?_⟩
      have hb' : b = k := List.mem_singleton.mp hb
      subst hb'
      obtain ⟨e, he, rfl⟩ := List.mem_map.mp ha
      exact fun q => c (List.any_eq_true.mpr ⟨e, he, decide_eq_true q⟩)
    · rcases List.mem_append.mp he with he | he
      · exact h.rg e he
      · rw [List.mem_singleton.mp he]
        exact ⟨h0, h1⟩
    · rcases List.mem_append.mp he with he | he
      · exact h.tx e he
      · rw [List.mem_singleton.mp he]
        exact hx
theorem tbok_pop {l : Nat} {kvs : List (Int × Str)} {k : Int} (h : TbOk l kvs) : TbOk l (popI kvs k) := by
  unfold popI
  exact ⟨h.nd.sublist (List.Sublist.map _ List.filter_sublist), fun e he => h.rg e (List.mem_filter.mp he).1, fun e he => h.tx e (List.mem_filter.mp he).1⟩
theorem put_length (kvs : List (Int × Str)) (k : Int) (x : Str) : (putI kvs k x).length ≤ kvs.length + 1 := by
  unfold putI
  split
  · rw [List.length_map]; omega
  · rw [List.length_append]; exact Nat.le_refl _
theorem pop_length (kvs : List (Int × Str)) (k : Int) : (popI kvs k).length ≤ kvs.length := by
  unfold popI
  exact List.length_filter_le _ _

theorem kp_same {H H' : Hp} (h : Same H H') : Kp H H' := fun a o e _ => h a o e
theorem TbAt.ext {C f : Addr} {l : Nat} {H H' : Hp} {p d : Addr} {kvs : List (Int × Str)} (h : TbAt C f H p d l kvs) (x : Ext H H') : TbAt C f H' p d l kvs := by
  obtain ⟨⟨dx, a⟩, b, c⟩ := h
  exact ⟨⟨dx, x.ins a⟩, x.dK b, c⟩
theorem costP_le {l n : Nat} (hl : l ≤ 16) (hn : n ≤ 63) : costP l n ≤ 2079 := by
  unfold costP
  split
  · omega
  · have h := Nat.mul_le_mul hn (show 2 * l + 1 ≤ 33 by omega)
    omega

/-! ### rows by their keys -/
theorem getI_of : ∀ {kvs : List (Int × Str)} {e : Int × Str}, (kvs.map (·.1)).Nodup → e ∈ kvs → getI kvs e.1 = some e.2
  | [], _, _, h => nomatch h
  | x :: kvs, e, hn, h => by
    rw [List.map_cons, List.nodup_cons] at hn
    unfold getI
    rw [List.find?_cons]
    rcases List.mem_cons.mp h with rfl | h
    · rw [decide_eq_true rfl]
      rfl
    · have ne : ¬ x.1 = e.1 := fun z => hn.1 (by rw [z]; exact List.mem_map_of_mem h)
      rw [decide_eq_false ne]
      exact getI_of hn.2 h
/-- the pairs by the row of their keys -/
theorem keys_rows {kvs : List (Int × Str)} {ks : List Int} (hn : (kvs.map (·.1)).Nodup) (pm : ks.Perm (kvs.map (·.1))) : (ks.map fun x => (x, (getI kvs x).getD "")).Perm kvs := by
  have h := pm.map fun x => (x, (getI kvs x).getD "")
  refine h.trans (List.Perm.of_eq ?_)
  rw [List.map_map]
  refine (List.map_congr_left fun e he => ?_).trans (List.map_id _)
  show (e.1, (getI kvs e.1).getD "") = e
  rw [getI_of hn he]
  rfl
theorem getI_mem : ∀ {kvs : List (Int × Str)} {x : Int}, x ∈ kvs.map (·.1) → ∃ t, getI kvs x = some t ∧ (x, t) ∈ kvs := by
  intro kvs x h
  unfold getI
  cases hf : kvs.find? fun e => decide (e.1 = x) with
  | none =>
    obtain ⟨e, he, rfl⟩ := List.mem_map.mp h
    exact absurd (List.find?_eq_none.mp hf e he) (by simp)
  | some e =>
    have h1 := List.mem_of_find?_eq_some hf
    have h2 : e.1 = x := by have := List.find?_some hf; simpa using this
    subst h2
    exact ⟨e.2, rfl, h1⟩

section
variable {P : Program} {w : World} {K : PySem.W.Frag} {mg : Str → Option Value} {base : Heap} {C B : Addr}
theorem row_len {i : Int} (h0 : 0 ≤ i) (h1 : i < 1000000) : (Str.ofString (toString i)).length ≤ 6 := by
  obtain ⟨n, rfl⟩ := Int.eq_ofNat_of_zero_le h0
  rw [TL.len_tl, TL.tl_num]
  exact TL.numL_len (by decide) (by omega)
theorem ok_brinit {cc : Addr} (T : Txt K mg cc) (EI : ExcI K mg "BadRow" "BookError" "row" "BadRow.__init__" s_BadRow___init__ ["self", "row"] C B) (fI : Addr) (fd : FuncData) (F : L2.Fun K "__init__" "BadRow.__init__" s_BadRow___init__ fI fd) :
    FnOk P w K mg base L2.CX0 1 fI fd ["self", "row"] (spExI C "row") := by
  have Z := T.Z
  refine F.ok sc_BadRow___init__ (fun vs H Q E h => ?_) (fun cdv A' outer s H vs Q E hr h => ?_)
  · obtain ⟨a, i, rfl, _⟩ := h
    rfl
  obtain ⟨a, i, rfl, h0, h1, ha, q⟩ := h
  have ll := row_len h0 h1
  refine ⟨_, (pss_cons (ps_expr (pe_beinit rfl EI.gB EI.b1 EI.b2 EI.b3 (pa_cons (pv 0) (pa_cons (pe_op op_add_str (pe_op op_add_str pe_str (pe_callTy call_str_int rfl Z.str (by decide +kernel) (pa_cons (pv 1) pa_nil))) pe_str) pa_nil))))
  (pss_one (ps_ost (pv 0) (pv 1)))), ?_⟩
  have e4 : (Str.ofString "row ").length = 4 := by decide +kernel
  have e16 : (Str.ofString " cannot be read").length = 15 := by decide +kernel
  have l1 : (Str.ofString "row " ++ Str.ofString (toString i)).length ≤ 10 := by
    rw [TL.len_tl, TL.tl_append, List.length_append, ← TL.len_tl, ← TL.len_tl]
    omega
  refine ⟨_, rfl, _, rfl, _, rfl, log_small h0 (by omega), _, _, rfl, rfl, small (by omega), _, _, rfl, rfl, small (by omega), a, C, _, rfl, (by show 1 ≤ 1000; decide), EI.T, ha, ?_⟩
  exact ⟨_, rfl, _, rfl, a, C, rfl, EI.T, EI.no, .inl ⟨ha, fun dx n ne => q dx n ne⟩⟩
theorem ok_brinitH {cc : Addr} (T : Txt K mg cc) (EI : ExcI K mg "BadRow" "BookError" "row" "BadRow.__init__" s_BadRow___init__ ["self", "row"] C B) (fI : Addr) (fd : FuncData) (F : L2.Fun K "__init__" "BadRow.__init__" s_BadRow___init__ fI fd) :
    L2H.FnH P w K mg base L2.CX0 1 fI fd ["self", "row"] (spExI C "row") := by
  have Z := T.Z
  obtain ⟨oc, od, kV, doc, pm, an, cdv, ct, osl, rfl, lk, hcd⟩ := F.ex
  refine L2H.fn_ofH lk hcd sc_BadRow___init__ (fun vs H Q E h => ?_) (fun A' outer s H vs Q E pr hot hr h => ?_)
  · obtain ⟨a, i, rfl, _⟩ := h
    rfl
  obtain ⟨a, i, rfl, h0, h1, ha, q⟩ := h
  have ll := row_len h0 h1
  refine ⟨_, PSs.nox (pss_cons (ps_expr (pe_beinit rfl EI.gB EI.b1 EI.b2 EI.b3 (pa_cons (pv 0) (pa_cons (pe_op op_add_str (pe_op op_add_str pe_str (pe_callTy call_str_int rfl Z.str (by decide +kernel) (pa_cons (pv 1) pa_nil))) pe_str) pa_nil))))
  (pss_one (ps_ost (pv 0) (pv 1)))), ?_⟩
  have e4 : (Str.ofString "row ").length = 4 := by decide +kernel
  have e16 : (Str.ofString " cannot be read").length = 15 := by decide +kernel
  have l1 : (Str.ofString "row " ++ Str.ofString (toString i)).length ≤ 10 := by
    rw [TL.len_tl, TL.tl_append, List.length_append, ← TL.len_tl, ← TL.len_tl]
    omega
  refine ⟨_, rfl, _, rfl, _, rfl, log_small h0 (by omega), _, _, rfl, rfl, small (by omega), _, _, rfl, rfl, small (by omega), a, C, _, rfl, (by show 1 ≤ 1000; decide), EI.T, ha, ?_⟩
  exact ⟨_, rfl, _, rfl, a, C, rfl, EI.T, EI.no, .inl ⟨ha, fun dx n ne => q dx n ne⟩⟩
end

/-! ### what a row says -/
open SX (S S_len S_inj S_cat)
def lsp (l : List Nat) : List Nat := l.dropWhile (· == 32)
def rsp (l : List Nat) : List Nat := (l.reverse.dropWhile (· == 32)).reverse
def wrd (l : List Nat) : List Nat := l.takeWhile (· != 32)
def rst (l : List Nat) : List Nat := (l.dropWhile (· != 32)).drop 1
def digs (l : List Nat) : Bool := !l.isEmpty && l.all fun c => decide (48 ≤ c) && decide (c ≤ 57)
def keyL (l : List Nat) (d : Nat) : Int := if digs l = true ∧ l.length ≤ 9 ∧ NumText.digitsVal l < 2 ^ d then (NumText.digitsVal l : Int) else -1
inductive Act where
  | put (k : Int) (t : List Nat)
  | cut (k : Int)
def putW : List Nat := [112, 117, 116]
def cutW : List Nat := [99, 117, 116]
def readL (l : List Nat) (d : Nat) : Option (Option Act) :=
  if lsp l = [] ∨ (lsp l).head? = some 35 then some none
  else if wrd (lsp l) = putW then
    if 0 ≤ keyL (wrd (rst (lsp l))) d ∧ 32 ∈ rst (lsp l) then some (some (.put (keyL (wrd (rst (lsp l))) d) (rst (rst (lsp l))))) else none
  else if wrd (lsp l) = cutW then
    if 0 ≤ keyL (rsp (rst (lsp l))) d then some (some (.cut (keyL (rsp (rst (lsp l))) d))) else none
  else none
def AscL (l : List Nat) : Prop := ∀ c ∈ l, c < 128
theorem AscL.sub {l m : List Nat} (h : AscL l) (hs : ∀ c ∈ m, c ∈ l) : AscL m := fun c hc => h c (hs c hc)
theorem dw_mem {p : Nat → Bool} : ∀ {l : List Nat} {c : Nat}, c ∈ l.dropWhile p → c ∈ l
  | a :: l, c, h => by
    rw [List.dropWhile_cons] at h
    split at h
    · exact List.mem_cons_of_mem _ (dw_mem h)
    · exact h
theorem tw_mem {p : Nat → Bool} : ∀ {l : List Nat} {c : Nat}, c ∈ l.takeWhile p → c ∈ l
  | a :: l, c, h => by
    rw [List.takeWhile_cons] at h
    split at h
    · rcases List.mem_cons.mp h with rfl | h
      · exact List.mem_cons_self
      · exact List.mem_cons_of_mem _ (tw_mem h)
    · cases h
theorem lsp_mem {l : List Nat} {c : Nat} (h : c ∈ lsp l) : c ∈ l := dw_mem h
theorem rsp_mem {l : List Nat} {c : Nat} (h : c ∈ rsp l) : c ∈ l := by
  have := dw_mem (List.mem_reverse.mp h)
  exact List.mem_reverse.mp this
theorem wrd_mem {l : List Nat} {c : Nat} (h : c ∈ wrd l) : c ∈ l := tw_mem h
theorem rst_mem {l : List Nat} {c : Nat} (h : c ∈ rst l) : c ∈ l := dw_mem (List.mem_of_mem_drop h)
theorem dw_len {p : Nat → Bool} : ∀ (l : List Nat), (l.dropWhile p).length ≤ l.length
  | [] => Nat.le_refl _
  | a :: l => by
    rw [List.dropWhile_cons]
    split
    · exact Nat.le_succ_of_le (dw_len l)
    · exact Nat.le_refl _
theorem tw_len {p : Nat → Bool} : ∀ (l : List Nat), (l.takeWhile p).length ≤ l.length
  | [] => Nat.le_refl _
  | a :: l => by
    rw [List.takeWhile_cons]
    split
    · exact Nat.succ_le_succ (tw_len l)
    · exact Nat.zero_le _
theorem lsp_len (l : List Nat) : (lsp l).length ≤ l.length := dw_len l
theorem wrd_len (l : List Nat) : (wrd l).length ≤ l.length := tw_len l
theorem rst_len (l : List Nat) : (rst l).length ≤ l.length := by
  unfold rst
  rw [List.length_drop]
  have := dw_len (p := (· != 32)) l
  omega
theorem rsp_len (l : List Nat) : (rsp l).length ≤ l.length := by
  unfold rsp
  rw [List.length_reverse]
  have := dw_len (p := (· == 32)) l.reverse
  rw [List.length_reverse] at this
  exact this
theorem drop_tw {p : Nat → Bool} : ∀ l : List Nat, l.drop (l.takeWhile p).length = l.dropWhile p
  | [] => rfl
  | a :: l => by
    rw [List.takeWhile_cons, List.dropWhile_cons]
    by_cases h : p a = true
    · rw [if_pos h, if_pos h]
      exact drop_tw l
    · rw [if_neg h, if_neg h]
      rfl
theorem only32 : (S [32]).cps.contains = fun c => c == 32 := by
  funext c
  by_cases h : c = 32
  · subst h; decide +kernel
  · have e : (c == 32) = false := beq_eq_false_iff_ne.mpr h
    rw [e]
    simp [S, h]
theorem lstrip_S (l : List Nat) : Txt.lstripChars (S l) (S [32]) = S (lsp l) := by
  unfold Txt.lstripChars
  rw [stripBy_eq, only32]
  refine TL.ext_tl ?_
  rw [TL.tl_strSub]
  show (l.drop _).take _ = lsp l
  unfold stripLo stripHi
  rw [if_pos rfl, if_neg (by decide)]
  show (l.drop (l.takeWhile (· == 32)).length).take ((S l).length - (l.takeWhile (· == 32)).length) = lsp l
  rw [drop_tw, S_len, List.take_of_length_le]
  · rfl
  · have := congrArg List.length (drop_tw (p := (· == 32)) l)
    rw [List.length_drop] at this
    omega
theorem rstrip_S (l : List Nat) : Txt.rstripChars (S l) (S [32]) = S (rsp l) := by
  unfold Txt.rstripChars
  rw [stripBy_eq, only32]
  refine TL.ext_tl ?_
  rw [TL.tl_strSub]
  rw [show stripLo (fun c => c == 32) false (S l) = 0 from rfl, show stripHi (fun c => c == 32) true (S l) 0 = (S l).length - ((l.drop 0).reverse.takeWhile (· == 32)).length from rfl]
  show (l.drop 0).take ((S l).length - (((l.drop 0).reverse.takeWhile (· == 32)).length) - 0) = rsp l
  rw [List.drop_zero, Nat.sub_zero, S_len]
  have e : l = (l.reverse.dropWhile (· == 32)).reverse ++ (l.reverse.takeWhile (· == 32)).reverse := by
    rw [← List.reverse_append, List.takeWhile_append_dropWhile, List.reverse_reverse]
  have el := congrArg List.length e
  rw [List.length_append, List.length_reverse, List.length_reverse] at el
  have ek : l.length - (l.reverse.takeWhile (· == 32)).length = (rsp l).length := by
    unfold rsp
    rw [List.length_reverse]
    omega
  rw [ek]
  exact (congrArg (List.take (rsp l).length) e).trans (List.take_left' rfl)
theorem split32 {l : List Nat} (h : 32 ∈ l) : l = wrd l ++ (32 :: rst l) := by
  induction l with
  | nil => cases h
  | cons a l ih =>
    unfold wrd rst
    by_cases c : a = 32
    · subst c
      rfl
    · have e : (a != 32) = true := bne_iff_ne.mpr c
      rw [List.takeWhile_cons, List.dropWhile_cons, if_pos e, if_pos e]
      rcases List.mem_cons.mp h with h | h
      · exact absurd h.symm c
      · show a :: l = a :: (wrd l ++ (32 :: rst l))
        rw [← ih h]
theorem wrd_no (l : List Nat) : 32 ∉ wrd l := by
  induction l with
  | nil => exact fun h => nomatch h
  | cons a l ih =>
    unfold wrd
    rw [List.takeWhile_cons]
    by_cases c : a = 32
    · subst c
      exact fun h => nomatch h
    · have e : (a != 32) = true := bne_iff_ne.mpr c
      rw [if_pos e]
      intro h
      rcases List.mem_cons.mp h with h | h
      · exact c h.symm
      · exact ih h
theorem wrd_all {l : List Nat} (h : 32 ∉ l) : wrd l = l ∧ rst l = [] := by
  induction l with
  | nil => exact ⟨rfl, rfl⟩
  | cons a l ih =>
    have c : a ≠ 32 := fun z => h (by rw [z]; exact List.mem_cons_self)
    have e : (a != 32) = true := bne_iff_ne.mpr c
    obtain ⟨h1, h2⟩ := ih fun z => h (List.mem_cons_of_mem _ z)
    unfold wrd rst
    rw [List.takeWhile_cons, List.dropWhile_cons, if_pos e, if_pos e]
    exact ⟨congrArg (a :: ·) h1, h2⟩
theorem part_S (l : List Nat) : Txt.partition (S l) (S [32]) = (S (wrd l), (if 32 ∈ l then S [32] else S []), S (rst l)) := by
  by_cases h : 32 ∈ l
  · rw [if_pos h]
    refine SX.partition_some (by simp) ?_
    conv => lhs; rw [split32 h]
    exact SX.par_head (sep := []) (rst l) (wrd_no l)
  · rw [if_neg h]
    obtain ⟨h1, h2⟩ := wrd_all h
    rw [h1, h2]
    exact SX.partition_none (by simp) (SX.par_head_none (sep := []) h)
theorem hash_S (l : List Nat) : Txt.startswith (S l) (S [35]) = decide (l.head? = some 35) := by
  cases l with
  | nil => rfl
  | cons a l =>
    unfold Txt.startswith Builtin.Str.subAt
    by_cases h : a = 35
    · subst h
      simp [S, Str.length]
    · simp [S, Str.length, h]
theorem dig128 : ∀ c, c < 128 → Unicode.isDigit c = (decide (48 ≤ c) && decide (c ≤ 57)) := by decide +kernel
theorem digit_S {l : List Nat} (h : AscL l) : Txt.isdigit (S l) = digs l := by
  unfold Txt.isdigit digs
  have e : (S l).cps.all Unicode.isDigit = l.all fun c => decide (48 ≤ c) && decide (c ≤ 57) := by
    show (List.toArray l).all Unicode.isDigit = _
    rw [List.all_toArray]
    induction l with
    | nil => rfl
    | cons a l ih =>
      rw [List.all_cons, List.all_cons, ih (h.sub fun c hc => List.mem_cons_of_mem _ hc)]
      congr 1
      exact dig128 a (h a List.mem_cons_self)
  rw [e]
  cases l <;> simp [S_len]
theorem int_of {l : List Nat} (h : digs l = true) (hl : l.length ≤ 4300) : intText? (S l) = some ((NumText.digitsVal l : Nat) : Int) := by
  unfold digs at h
  rw [Bool.and_eq_true] at h
  exact SX.int_S h.2 (fun z => by rw [z] at h; exact absurd h.1 (by decide)) hl

section
variable {P : Program} {w : World} {K : PySem.W.Frag} {mg : Str → Option Value} {base : Heap} {C B : Addr}
theorem te_int {i : Int} : ∀ (σ : L2.St) (H : Hp) (Q Q' : VK), (∀ v H', Q v H' → Q' v H') → tC (.int i) σ H Q → tC (.int i) σ H Q' := fun _ _ _ _ h q => h _ _ q
theorem te_var {i : Nat} : ∀ (σ : L2.St) (H : Hp) (Q Q' : VK), (∀ v H', Q v H' → Q' v H') → tVar i σ H Q → tVar i σ H Q' := fun _ _ _ _ h ⟨v, e, q⟩ => ⟨v, e, h _ _ q⟩
def spKeyOf : Sp := fun vs H Q _ => ∃ (l : List Nat) (d : Nat), vs = [.str (S l), .int (d : Int)] ∧ AscL l ∧ l.length ≤ 100000 ∧ d ≤ 1000 ∧ Q (.int (keyL l d)) H
theorem ok_key_of {cc : Addr} (T : Txt K mg cc) : Cal P w K mg base 1 "key_of" spKeyOf [] := by
  have Z := T.Z
  refine cal_of T.d_key_of sc_key_of (fun vs H Q E h => ?_) (fun f cdv A' outer s H vs Q E hr h => ?_)
  · obtain ⟨l, d, rfl, _⟩ := h
    rfl
  obtain ⟨l, d, rfl, ha, hl, hd, q⟩ := h
  have e16 : sizeLine = 16777216 := sizeLine_eq
  refine ⟨_, (pss_cons (ps_if (PW.pt (pw_or (pt_not (pt_val (pe_m0 PySem.F.slot_str_isdigit PySem.F.type_str_isdigit mt_isdigit (pv 0)))) (pw_or1 (pt_cmpR op_gt (pe_callB call_len_str rfl Z.len PySem.boot_len (pa_cons (pv 0) pa_nil)) pe_int (nomark _))))) (pss_one (ps_ret (pe_un un_neg pe_int))) pss_nil)
  (pss_cons (ps_set (i := 2) sc_key_of.nd rfl (Or.inl rfl) (pe_callTy call_int_str rfl Z.int (by decide +kernel) (pa_cons (pv 0) pa_nil)))
  (pss_cons (ps_if (pt_cmpR op_ge (pv 2) (pe_op op_oneShl pe_int (pv 1)) (nomark _)) (pss_one (ps_ret (pe_un un_neg pe_int))) pss_nil)
  (pss_one (ps_ret (pv 2)))))), ?_⟩
  refine ⟨_, rfl, ⟨_, rfl⟩, _, rfl, rfl, True.intro, _, rfl, ?_⟩
  rw [digit_S ha]
  cases hdg : digs l with
  | false =>
    rw [show keyL l d = -1 from if_neg (fun h => by rw [hdg] at h; cases h.1)] at q
    exact iteT (iteT ⟨_, rfl, q⟩)
  | true =>
    refine iteF ⟨_, rfl, _, rfl, by rw [S_len]; omega, _, _, rfl, rfl, _, rfl, ?_⟩
    rw [S_len]
    by_cases h9 : l.length ≤ 9
    · rw [decide_eq_false (show ¬ (9 : Int) < (l.length : Int) by omega)]
      refine iteF ⟨_, rfl, _, _, rfl, int_of hdg (by omega), by rw [S_len]; omega, ?_⟩
      refine ⟨_, rfl, _, rfl, d, rfl, rfl, by omega, _, _, rfl, rfl, _, rfl, ?_⟩
      have e2 : ((2 ^ d : Nat) : Int) = 2 ^ d := by rw [Int.natCast_pow]; rfl
      by_cases hk : NumText.digitsVal l < 2 ^ d
      · rw [show keyL l d = (NumText.digitsVal l : Int) from if_pos ⟨hdg, h9, hk⟩] at q
        rw [decide_eq_false (show ¬ (2 : Int) ^ d ≤ ((NumText.digitsVal l : Nat) : Int) by omega)]
        exact iteF ⟨_, rfl, q⟩
      · rw [show keyL l d = -1 from if_neg (fun h => hk h.2.2)] at q
        rw [decide_eq_true (show (2 : Int) ^ d ≤ ((NumText.digitsVal l : Nat) : Int) by omega)]
        exact iteT ⟨_, rfl, q⟩
    · rw [show keyL l d = -1 from if_neg (fun h => h9 h.2.1)] at q
      rw [decide_eq_true (show (9 : Int) < (l.length : Int) by omega)]
      exact iteT ⟨_, rfl, q⟩
/-- what a row says, as a value -/
def actV : Act → List V
  | .put k t => [.str "put", .int k, .str (S t)]
  | .cut k => [.str "cut", .int k]
def spReadRow (mg : Str → Option Value) : Sp := fun vs H Q E => ∃ (l : List Nat) (d : Nat), vs = [.str (S l), .int (d : Int)] ∧ AscL l ∧ l.length ≤ 100000 ∧ d ≤ 1000 ∧
  (readL l d = some none → ∀ H', Same H H' → Q .non H') ∧ (∀ a, readL l d = some (some a) → ∀ q H', Same H H' → H q = none → H' q = some (.tup (actV a)) → Q (.ref q) H') ∧
  (readL l d = none → ∀ D, mg "BadRow" = some (.ref D) → ∀ dx H', Same H H' → H dx = none → H' dx = some (.xd [("row", .int 0)]) → E (.ref D) (some dx) H')
theorem ok_read_rowN {cc : Addr} (T : Txt K mg cc) (EI : ExcI K mg "BadRow" "BookError" "row" "BadRow.__init__" s_BadRow___init__ ["self", "row"] C B) : CalN P w K mg base 3 "read_row" (spReadRow mg) := by
  have Z := T.Z
  have C_key_of := ok_key_of (P := P) (w := w) (base := base) T
  have F_BadRow := ok_brinit (P := P) (w := w) (base := base) T EI
  refine calN_of T.d_read_row sc_read_row (fun vs H Q E h => ?_) (fun f cdv A' outer s H vs Q E hr h => ?_)
  · obtain ⟨l, d, rfl, _⟩ := h
    rfl
  obtain ⟨l, d, rfl, ha, hl, hd, q1, q2, q3⟩ := h
  have e16 : sizeLine = 16777216 := sizeLine_eq
  refine ⟨_, (pss_cons (ps_set (i := 2) sc_read_row.nd rfl (Or.inl rfl) (pe_bm PySem.F.plainAttrs_str PySem.F.slot_str_lstrip PySem.F.type_str_lstrip mt_lstripChars (pv 0) (pa_cons pe_str pa_nil)))
  (pss_cons (ps_if (PW.pt (pw_or (pt_cmpR op_eq (pv 2) pe_str (nomark _)) (pw_or1 (pt_val (pe_m1 PySem.F.slot_str_startswith PySem.F.type_str_startswith mt_startswith (pv 2) pe_str))))) (pss_one (ps_ret pe_non)) pss_nil)
  (pss_cons (ps_asg (pe_partition (pv 2) pe_str) (pg_tup rfl (pgs_cons (pg_name (i := 3) sc_read_row.nd rfl (Or.inl rfl)) (pgs_cons (pg_name (i := 4) sc_read_row.nd rfl (Or.inl rfl)) (pgs_cons (pg_name (i := 5) sc_read_row.nd rfl (Or.inl rfl)) pgs_nil)))))
  (pss_cons (ps_if (pt_cmpR op_eq (pv 3) pe_str (nomark _)) (pss_cons (ps_asg (pe_partition (pv 5) pe_str) (pg_tup rfl (pgs_cons (pg_name (i := 6) sc_read_row.nd rfl (Or.inl rfl)) (pgs_cons (pg_name (i := 7) sc_read_row.nd rfl (Or.inl rfl)) (pgs_cons (pg_name (i := 8) sc_read_row.nd rfl (Or.inl rfl)) pgs_nil)))))
  (pss_cons (ps_set (i := 9) sc_read_row.nd rfl (Or.inl rfl) (pe_c C_key_of hr (by omega) rfl (pa_cons (pv 6) (pa_cons (pv 1) pa_nil))))
  (pss_one (ps_if (PW.pt (pw_and (pt_cmpR op_ge (pv 9) pe_int (nomark _)) (pw_and1 (pt_cmpR op_eq (pv 7) pe_str (nomark _))))) (pss_one (ps_ret (pe_tup (pa_cons pe_str (pa_cons (pv 9) (pa_cons (pv 8) pa_nil)))))) pss_nil)))) pss_nil)
  (pss_cons (ps_if (pt_cmpR op_eq (pv 3) pe_str (nomark _)) (pss_cons (ps_set (i := 9) sc_read_row.nd rfl (Or.inl rfl) (pe_c C_key_of hr (by omega) rfl (pa_cons (pe_bm PySem.F.plainAttrs_str PySem.F.slot_str_rstrip PySem.F.type_str_rstrip mt_rstripChars (pv 5) (pa_cons pe_str pa_nil)) (pa_cons (pv 1) pa_nil))))
  (pss_one (ps_if (pt_cmpR op_ge (pv 9) pe_int (nomark _)) (pss_one (ps_ret (pe_tup (pa_cons pe_str (pa_cons (pv 9) pa_nil))))) pss_nil))) pss_nil)
  (pss_one (ps_raiseIN EI F_BadRow hr (by omega) rfl (L2N.takes_of rfl rfl rfl rfl) rfl pe_int te_int))))))), ?_⟩
  have eSp : Str.ofString " " = S [32] := TL.ext_tl (by decide +kernel)
  have eHs : Str.ofString "#" = S [35] := TL.ext_tl (by decide +kernel)
  have eNo : Str.ofString "" = S [] := TL.ext_tl (by decide +kernel)
  have ePut : Str.ofString "put" = S putW := TL.ext_tl (by decide +kernel)
  have eCut : Str.ofString "cut" = S cutW := TL.ext_tl (by decide +kernel)
  have sEq : ∀ {a b : List Nat}, decide (V.str (S a) = V.str (S b)) = decide (a = b) := fun {a b} => decide_eq_decide.mpr ⟨fun z => S_inj (V.str.inj z), fun z => by rw [z]⟩
  have hAb : AscL (lsp l) := ha.sub fun c hc => lsp_mem hc
  have hAr : AscL (rst (lsp l)) := hAb.sub fun c hc => rst_mem hc
  have l1 := lsp_len l
  have l2 := rst_len (lsp l)
  have l3 := wrd_len (rst (lsp l))
  have l4 := rsp_len (rst (lsp l))
  refine ⟨_, rfl, rfl, _, _, rfl, rfl, by rw [S_len]; omega, ?_⟩
  rw [eSp, eHs, eNo, ePut, eCut, lstrip_S]
  refine ⟨_, rfl, rfl, _, rfl, ?_⟩
  rw [sEq]
  by_cases hb : lsp l = []
  · rw [decide_eq_true hb]
    exact iteT (iteT (q1 (if_pos (.inl hb)) H (Same.refl H)))
  rw [decide_eq_false hb]
  refine iteF ⟨_, rfl, ⟨_, rfl⟩, _, _, rfl, rfl, _, rfl, ?_⟩
  rw [hash_S]
  by_cases hh : (lsp l).head? = some 35
  · rw [decide_eq_true hh]
    exact iteT (q1 (if_pos (.inr hh)) H (Same.refl H))
  rw [decide_eq_false hh]
  have e0 : readL l d = _ := if_neg (fun z => z.elim hb hh)
  refine iteF ⟨_, rfl, ⟨_, rfl⟩, _, _, rfl, rfl, by decide +kernel, by rw [S_len]; omega, fun p1 np1 => ?_⟩
  rw [part_S]
  have s1 : Same H (upd H p1 (.tup [.str (S (wrd (lsp l))), .str (if 32 ∈ lsp l then S [32] else S []), .str (S (rst (lsp l)))])) := same_upd np1
  have hp1 : upd H p1 (.tup [.str (S (wrd (lsp l))), .str (if 32 ∈ lsp l then S [32] else S []), .str (S (rst (lsp l)))]) p1 = some (.tup [.str (S (wrd (lsp l))), .str (if 32 ∈ lsp l then S [32] else S []), .str (S (rst (lsp l)))]) := upd_same
  generalize upd H p1 (.tup [.str (S (wrd (lsp l))), .str (if 32 ∈ lsp l then S [32] else S []), .str (S (rst (lsp l)))]) = H1 at s1 hp1 ⊢
  refine ⟨p1, _, rfl, SqT.of hp1, rfl, _, _, rfl, _, _, rfl, _, _, rfl, rfl, ?_⟩
  refine ⟨_, rfl, rfl, _, rfl, ?_⟩
  rw [sEq]
  by_cases hp : wrd (lsp l) = putW
  · rw [decide_eq_true hp]
    rw [if_pos hp] at e0
    refine iteT ⟨_, rfl, ⟨_, rfl⟩, _, _, rfl, rfl, by decide +kernel, by rw [S_len]; omega, fun p2 np2 => ?_⟩
    rw [part_S]
    have s2 := s1.trans (same_upd (o := .tup [.str (S (wrd (rst (lsp l)))), .str (if 32 ∈ rst (lsp l) then S [32] else S []), .str (S (rst (rst (lsp l))))]) np2)
    have hp2 : upd H1 p2 (.tup [.str (S (wrd (rst (lsp l)))), .str (if 32 ∈ rst (lsp l) then S [32] else S []), .str (S (rst (rst (lsp l))))]) p2 = some (.tup [.str (S (wrd (rst (lsp l)))), .str (if 32 ∈ rst (lsp l) then S [32] else S []), .str (S (rst (rst (lsp l))))]) := upd_same
    generalize upd H1 p2 (.tup [.str (S (wrd (rst (lsp l)))), .str (if 32 ∈ rst (lsp l) then S [32] else S []), .str (S (rst (rst (lsp l))))]) = H2 at s2 hp2 ⊢
    refine ⟨p2, _, rfl, SqT.of hp2, rfl, _, _, rfl, _, _, rfl, _, _, rfl, rfl, ?_⟩
    refine ⟨_, rfl, _, rfl, wrd (rst (lsp l)), d, rfl, hAr.sub (fun c hc => wrd_mem hc), by omega, hd, ?_⟩
    refine ⟨_, rfl, _, _, rfl, rfl, _, rfl, ?_⟩
    by_cases hk : 0 ≤ keyL (wrd (rst (lsp l))) d
    · rw [decide_eq_true hk]
      refine iteT ⟨_, rfl, rfl, _, rfl, ?_⟩
      by_cases h32 : 32 ∈ rst (lsp l)
      · rw [if_pos h32, sEq, decide_eq_true rfl]
        rw [if_pos ⟨hk, h32⟩] at e0
        exact iteT ⟨_, rfl, _, rfl, by show 3 ≤ sizeLine; decide, fun q nq => q2 _ e0 q _ (s2.trans (same_upd nq)) (s2.free nq) (by rw [upd_same, ← ePut]; rfl)⟩
      · rw [if_neg h32, sEq, decide_eq_false (fun z => by cases z)]
        rw [if_neg (fun z => h32 z.2)] at e0
        exact iteF ⟨_, rfl, rfl, _, rfl, by
        rw [sEq, decide_eq_false (show ¬ wrd (lsp l) = cutW from fun z => by rw [hp] at z; cases z)]
        exact iteF ⟨0, rfl, by decide, by decide, fun dx ndx => q3 e0 _ EI.gC dx _ (s2.trans (same_upd ndx)) (s2.free ndx) upd_same⟩⟩
    · rw [decide_eq_false hk]
      rw [if_neg (fun z => hk z.1)] at e0
      exact iteF (iteF ⟨_, rfl, rfl, _, rfl, by
        rw [sEq, decide_eq_false (show ¬ wrd (lsp l) = cutW from fun z => by rw [hp] at z; cases z)]
        exact iteF ⟨0, rfl, by decide, by decide, fun dx ndx => q3 e0 _ EI.gC dx _ (s2.trans (same_upd ndx)) (s2.free ndx) upd_same⟩⟩)
  · rw [decide_eq_false hp]
    rw [if_neg hp] at e0
    refine iteF ⟨_, rfl, rfl, _, rfl, ?_⟩
    rw [sEq]
    by_cases hc : wrd (lsp l) = cutW
    · rw [decide_eq_true hc]
      rw [if_pos hc] at e0
      refine iteT ⟨_, rfl, rfl, _, _, rfl, rfl, by rw [S_len]; omega, ?_⟩
      rw [rstrip_S]
      refine ⟨_, rfl, rsp (rst (lsp l)), d, rfl, hAr.sub (fun c hc => rsp_mem hc), by omega, hd, ?_⟩
      refine ⟨_, rfl, _, _, rfl, rfl, _, rfl, ?_⟩
      by_cases hk : 0 ≤ keyL (rsp (rst (lsp l))) d
      · rw [decide_eq_true hk]
        rw [if_pos hk] at e0
        exact iteT ⟨_, rfl, by show 2 ≤ sizeLine; decide, fun q nq => q2 _ e0 q _ (s1.trans (same_upd nq)) (s1.free nq) (by rw [upd_same, ← eCut]; rfl)⟩
      · rw [decide_eq_false hk]
        rw [if_neg hk] at e0
        exact iteF ⟨0, rfl, by decide, by decide, fun dx ndx => q3 e0 _ EI.gC dx _ (s1.trans (same_upd ndx)) (s1.free ndx) upd_same⟩
    · rw [decide_eq_false hc]
      rw [if_neg hc] at e0
      exact iteF ⟨0, rfl, by decide, by decide, fun dx ndx => q3 e0 _ EI.gC dx _ (s1.trans (same_upd ndx)) (s1.free ndx) upd_same⟩
end

/-! ### isinstance of a caught error that has a dict -/
section
variable {prog : Program} {w : World} {A : Around} {E : Value → Shared → Prop} {s : Shared} {K : PySem.W.Frag} {x D : Addr} {ox : Obj} {od : Option Obj}
open PySem.W PySem.Calls in
theorem cls_of_exc {Q : Option Value → Shared → Prop} (C : ExcC K D) (inK : K.In s.heap) (at_ : InstAt s.heap x ox D od) (fin : Q (some (.ref D)) { s with toks := s.toks + 1 }) :
    wpAny (model prog w) A (getAttr? (.ref x) "__class__") Q E s := by
  obtain ⟨cd, clsD, _⟩ := any_some C.hd
  have there : findObj K D od "__class__" = some (.bind (.builtin "getset_descriptor.__get__") (.builtin "object.__class__")) := by
    unfold findObj
    rw [clsD, Option.bind_some, C.ha, Option.bind_some]
    simp [C.hn, C.ht]
  obtain ⟨hp, g, d, t, os⟩ := s
  have tyL := at_.type (M := model prog w)
  have gaL := looks_findIn (M := model prog w) inK C.hg
  have gtL := looks_findIn (M := model prog w) inK C.hk
  have clL := looks_find (M := model prog w) inK at_ there
  have exL : Looks (model prog w) hp (isInstance (.ref x) (.type "BaseException")) true := tyL.andThen (looks_subIn inK C.hs)
  have own : (Value.builtin "BaseException.__getattribute__" == Value.builtin "object.__getattribute__") = false := by decide +kernel
  unfold getAttr? getAttrBy? getAttrBy
  refine wpAny_bind (wpAny_mkText (wpAny_bind (wpAny_attempt (wpAny_holding (wpAny_bind (tyL.at (wpAny_bind (gaL.at ?_))))))))
  show wpAny _ _ (if (onTheHeap (Value.ref D) && Value.builtin "BaseException.__getattribute__" == Value.builtin "object.__getattribute__") = true then _ else _) _ _ _
  rw [own, Bool.and_false, if_neg Bool.false_ne_true]
  unfold getAttrByItsOwn hookBefore
  refine wpAny_bind ?_
  rw [if_pos (show onTheHeap (Value.ref D) = true from rfl)]
  refine gtL.at (wpAny_bind (wpAny_attempt (wpAny_holding ?_)))
  unfold callGetattribute
  rw [show (false && onTheHeap (Value.builtin "BaseException.__getattribute__")) = false from rfl, if_neg Bool.false_ne_true]
  unfold boundAndCalled
  rw [PySem.F.excAttr_ValueError.ga.bind (.ref x)]
  refine wpAny_bind (wpAny_pure ?_)
  show wpAny _ _ (call (.builtin "BaseException.__getattribute__") [.ref x, .str "__class__" t]) _ _ _
  refine wpAny_call (codeAny_call_builtin PySem.F.excAttr_ValueError.ga.plain PySem.F.entry_bexc_ga
    (@check_slot (model prog w) _ _ ⟨hp, g, d, t + 1, os⟩ "BaseException.__getattribute__" "BaseException" "__getattribute__" (.ref x) [.str "__class__" t] [] _
      (by decide +kernel) (by decide +kernel) exL (PySem.F.args_bexc_ga (.ref x) (.str "__class__" t)) ?_))
  unfold Builtin.«object.__getattribute__»
  refine wpAny_bind (wpAny_of_eq (a := ((Value.ref x : Value), [Value.str "__class__" t])) (by first | rfl | (simp only [slotArgs]; rfl)) (wpAny_bind (wpAny_pure (wpAny_bind (tyL.at (wpAny_bind (clL.at ?_)))))))
  show wpAny _ _ (holding [Value.builtin "object.__class__"] (call (.builtin "getset_descriptor.__get__") [.builtin "object.__class__", .ref x, .ref D]) >>= ret) _ _ _
  refine wpAny_bind (wpAny_holding (wpAny_call (class_get (s := ⟨hp, g, d, t + 1, os⟩) (ox := ox) (od := od) inK at_ C.hm (wpAny_pure ?_))))
  show wpAny _ _ (handedOut (.ref D)) _ _ _
  rw [handedOut_of (v := .ref D) rfl]
  first
    | exact wpAny_pure (wpAny_pure fin)
    | exact wpAny_pure fin
    | exact wpAny_pure (wpAny_bind (wpAny_pure (wpAny_pure fin)))
open PySem.W PySem.Calls in
theorem kit_exc (C : ExcC K D) : KitX K (.ref x) (.ref D) (fun h => InstAt h x ox D od) where
  ty := fun _ _ _ I => I.type
  it := fun _ _ inK _ => by
    obtain ⟨cd, clsD, _⟩ := any_some C.hd
    unfold clsIn at clsD
    split at clsD
    · rename_i ho
      exact fun _ _ _ _ keep q => by
        unfold isType loadHead
        exact wpAny_bind (wpAny_loadPart (keep _ _ (inK _ _ ho)) (wpAny_pure q))
    · cases clsD
  ne := fun h tp dd its n sl inK htp => by
    obtain ⟨cd, clsD, _⟩ := any_some C.hd
    refine Bool.eq_false_iff.mpr fun q => ?_
    obtain rfl : D = tp := Value.ref.inj (beq_iff_eq.mp q)
    unfold clsIn at clsD
    split at clsD
    · rename_i ho
      cases (inK _ _ ho).symm.trans htp
    · cases clsD
  ca := fun inK I k => cls_of_exc C inK I k
end
theorem call_isD {X : Cx} {a D : Addr} {oe : Obj} {d : Option Addr} {pn : List (Addr × Obj)} (C : ExcC X.K D) (hz : Zc (.ref D) d oe) (hf : ∃ vs, oe.data = .fields vs) :
    CallR (X.suite a ((a, oe) :: pn)) (.builtin "isinstance") (fun xs H Q => ∃ (c : V) (cv : Value) (b : Bool) (dd : Addr) (fs : List (Str × V)), d = some dd ∧ H dd = some (.xd fs) ∧ xs = [.ref a, c] ∧ (∀ u, RelV c u → u = cv) ∧ PySem.W.kitOne X.K (.ref D) cv = some b ∧ Q (.bl b) H) := by
  intro pins s σ H xs us Q I r h
  obtain ⟨c, cv, b, dd, fs, rfl, hdd, rfl, hcv, e, q⟩ := h
  rcases r with _ | ⟨rx, r⟩
  rcases r with _ | ⟨rt, r⟩
  rcases r with _ | _
  cases rx
  obtain rfl := hcv _ rt
  obtain ⟨hget, _⟩ := I.pin (a, oe) (List.mem_append.mpr (.inl List.mem_cons_self))
  obtain ⟨vs, hv⟩ := hf
  obtain ⟨mA, hns, _⟩ : ObjOk X.prog X.w H s.heap dd (.xd fs) := I.hok dd _ hdd
  obtain ⟨odv, ho, _⟩ := lookIn_ns hns
  have J : PySem.W.InstAt s.heap a oe D (some odv) := ⟨hget, hz.1, by unfold PySem.W.notCls; rw [hv] <;> rfl, by rw [hz.2]; exact ho⟩
  exact PySem.W.kia_one (kit_exc C) I.kIn J e (fun z => nomatch z) fun tk => ⟨.bl b, H, I.kept (t' := tk) fun _ _ z => z, rfl, q⟩
theorem zcd_of {cls : Value} {C : Addr} {d : Option Addr} {oe : Obj} (hz : Zc cls d oe) (h : cls = .ref C) : Zc (.ref C) d oe := h ▸ hz

section
variable {P : Program} {w : World} {K : PySem.W.Frag} {mg : Str → Option Value} {base : Heap} {C B : Addr}
def spPlaced (mg : Str → Option Value) : Sp := fun vs H Q E => ∃ (l : List Nat) (d : Nat) (pl : Int), vs = [.str (S l), .int pl, .int (d : Int)] ∧ AscL l ∧ l.length ≤ 100000 ∧ d ≤ 1000 ∧ 0 ≤ pl ∧ pl < 1000000 ∧
  (readL l d = some none → ∀ H', Same H H' → Q .non H') ∧ (∀ a, readL l d = some (some a) → ∀ q H', Same H H' → H q = none → H' q = some (.tup (actV a)) → Q (.ref q) H') ∧
  (readL l d = none → ∀ D, mg "BadRow" = some (.ref D) → ∀ dx H', Same H H' → H dx = none → H' dx = some (.xd [("row", .int pl)]) → E (.ref D) (some dx) H')
theorem ok_placed {cc : Addr} (T : Txt K mg cc) (EI : ExcI K mg "BadRow" "BookError" "row" "BadRow.__init__" s_BadRow___init__ ["self", "row"] C B) : CalX P w K mg base 4 "placed" (spPlaced mg) := by
  have Z := T.Z
  have C_read_row := ok_read_rowN (P := P) (w := w) (base := base) T EI
  have F_BadRowH := ok_brinitH (P := P) (w := w) (base := base) T EI
  refine calX_of T.d_placed sc_placed (fun vs H Q E h => ?_) (fun f cdv A' outer s H vs Q E hr h => ?_)
  · obtain ⟨l, d, pl, rfl, _⟩ := h
    rfl
  obtain ⟨l, d, pl, rfl, ha, hl, hd, hp0, hp1, q1, q2, q3⟩ := h
  refine ⟨_, (pss_one (ps_try_onlyXE (pss_one (ps_ret (pv 3))) rfl rfl ⟨rfl, by decide, .inl EI.gC⟩ (fun hd => L2H.passesAt_of rfl hd) (takes_of rfl rfl rfl rfl) (fun W pn xe tk po => (pss_one (ps_set (i := 3) sc_placed.nd rfl (Or.inl rfl) (pe_cn C_read_row tk hr (by omega) rfl (pa_cons (pv 0) (pa_cons (pv 2) pa_nil)))))) (fun a oe cls d pn hz hf tk hot => (pss_one (ps_raiseIH EI F_BadRowH (L2H.roomH_mark hr (some (.ref a))) (by omega) hot tk rfl (pv 1) te_var))))), ?_⟩
  refine ⟨_, rfl, _, rfl, l, d, rfl, ha, hl, hd, fun e H' s' => ⟨_, rfl, q1 e H' s'⟩, fun a e q H' s' nq hq => ⟨_, rfl, q2 a e q H' s' nq hq⟩, fun e D hD dx H' s' ndx hdx => ?_⟩
  rw [EI.gC] at hD
  cases hD
  exact ⟨true, EI.eP, fun _ a na => ⟨_, rfl, pl, rfl, hp0, hp1, fun dx2 n2 => q3 e _ EI.gC dx2 _ (s'.trans (same_upd n2)) (s'.free n2) upd_same⟩, fun z => nomatch z⟩
end

theorem spl_many : ∀ (l acc : List Nat), (TL.spl [10] 0 acc l).length ≤ l.length + 1
  | [], acc => by rw [TL.spl_nil]; exact Nat.le_refl _
  | c :: r, acc => by
    cases h : TL.pre [10] (c :: r) with
    | true =>
      rw [TL.spl_hit h]
      have := spl_many r []
      exact Nat.succ_le_succ this
    | false =>
      rw [TL.spl_miss h]
      have := spl_many r (acc ++ [c])
      show _ ≤ r.length + 1 + 1
      omega
theorem spl_rows : ∀ (l acc : List Nat), ∀ x ∈ TL.spl [10] 0 acc l, (∀ c ∈ x, c ∈ acc ∨ c ∈ l) ∧ x.length ≤ acc.length + l.length
  | [], acc => fun x hx => by
    rw [TL.spl_nil] at hx
    rw [List.mem_singleton.mp hx]
    exact ⟨fun c hc => .inl hc, Nat.le_refl _⟩
  | c :: r, acc => fun x hx => by
    cases h : TL.pre [10] (c :: r) with
    | true =>
      rw [TL.spl_hit h] at hx
      rcases List.mem_cons.mp hx with rfl | hx
      · exact ⟨fun c hc => .inl hc, Nat.le_add_right _ _⟩
      · obtain ⟨h1, h2⟩ := spl_rows r [] x hx
        refine ⟨fun b hb => .inr (List.mem_cons_of_mem _ ((h1 b hb).resolve_left (fun z => nomatch z))), ?_⟩
        show _ ≤ acc.length + (r.length + 1)
        have h2 : x.length ≤ 0 + r.length := h2
        omega
    | false =>
      rw [TL.spl_miss h] at hx
      obtain ⟨h1, h2⟩ := spl_rows r (acc ++ [c]) x hx
      refine ⟨fun b hb => ?_, ?_⟩
      · rcases h1 b hb with h | h
        · rcases List.mem_append.mp h with h | h
          · exact .inl h
          · rw [List.mem_singleton.mp h]
            exact .inr List.mem_cons_self
        · exact .inr (List.mem_cons_of_mem _ h)
      · rw [List.length_append] at h2
        show _ ≤ acc.length + (r.length + 1)
        have h2 : x.length ≤ acc.length + 1 + r.length := h2
        omega

section
variable {P : Program} {w : World} {K : PySem.W.Frag} {mg : Str → Option Value} {base : Heap}
def someL : List Nat := TL.tl (Str.ofString " !\"#$&'()*+,-./0123456789:;<=>?@ABCDEFGHIJKLMNOPQRSTUVWXYZ[\\]^_`abcdefghijklmnopqrstuvwxyz{|}~")
theorem someL_at : someL.length = 94 ∧ (someL.all fun c => decide (32 ≤ c) && decide (c ≤ 126)) = true := by decide +kernel
theorem someL_S : Str.ofString " !\"#$&'()*+,-./0123456789:;<=>?@ABCDEFGHIJKLMNOPQRSTUVWXYZ[\\]^_`abcdefghijklmnopqrstuvwxyz{|}~" = S someL := (SX.S_tl _).symm
/-- signs from the blank to ~ -/
def PrL (t : List Nat) : Prop := ∀ c ∈ t, 32 ≤ c ∧ c ≤ 126
theorem PrL.asc {t : List Nat} (h : PrL t) : AscL t := fun c hc => by have := (h c hc).2; omega
theorem some_get {z : Int} (h0 : 0 ≤ z) (h1 : z < 94) : ∃ c, atI someL z = some c ∧ 32 ≤ c ∧ c ≤ 126 := by
  obtain ⟨n, rfl⟩ := Int.eq_ofNat_of_zero_le h0
  have hl := someL_at.1
  have hn : n < someL.length := by omega
  have := List.all_eq_true.mp someL_at.2 _ (List.getElem_mem hn)
  rw [Bool.and_eq_true] at this
  exact ⟨_, atI_nat (List.getElem?_eq_getElem hn), of_decide_eq_true this.1, of_decide_eq_true this.2⟩
theorem joinL_ones : ∀ l : List Nat, TL.joinL [] (l.map fun c => [c]) = l
  | [] => rfl
  | [a] => rfl
  | a :: b :: l => by
    have := joinL_ones (b :: l)
    show [a] ++ [] ++ TL.joinL [] ((b :: l).map fun c => [c]) = _
    rw [this]
    rfl
theorem join_ones (l : List Nat) : Txt.join (S []) (l.map fun c => S [c]) = S l := by
  have h := SX.join_S [] (l.map fun c => [c])
  rw [List.map_map] at h
  rw [joinL_ones] at h
  exact h
end

/-! ### rows that are made -/
def readB (b : List Nat) (d : Nat) : Option (Option Act) :=
  if b = [] ∨ b.head? = some 35 then some none
  else if wrd b = putW then
    if 0 ≤ keyL (wrd (rst b)) d ∧ 32 ∈ rst b then some (some (.put (keyL (wrd (rst b)) d) (rst (rst b)))) else none
  else if wrd b = cutW then
    if 0 ≤ keyL (rsp (rst b)) d then some (some (.cut (keyL (rsp (rst b)) d))) else none
  else none
theorem lsp_sp (n : Nat) {l : List Nat} (h : l.head? ≠ some 32) : lsp (List.replicate n 32 ++ l) = l := by
  induction n with
  | zero =>
    cases l with
    | nil => rfl
    | cons a l =>
      have e : (a == 32) = false := beq_eq_false_iff_ne.mpr fun z => h (by rw [z]; rfl)
      show (a :: l).dropWhile (· == 32) = a :: l
      rw [List.dropWhile_cons, if_neg (by rw [e]; decide)]
  | succ n ih =>
    rw [List.replicate_succ]
    exact ih
theorem readL_sp (n d : Nat) {b : List Nat} (h : b.head? ≠ some 32) : readL (List.replicate n 32 ++ b) d = readB b d := by
  show readB (lsp (List.replicate n 32 ++ b)) d = _
  rw [lsp_sp n h]
theorem wrd_app {p : List Nat} (r : List Nat) (h : 32 ∉ p) : wrd (p ++ 32 :: r) = p ∧ rst (p ++ 32 :: r) = r := by
  induction p with
  | nil => exact ⟨rfl, rfl⟩
  | cons a p ih =>
    obtain ⟨h1, h2⟩ := ih fun z => h (List.mem_cons_of_mem _ z)
    have e : (a != 32) = true := bne_iff_ne.mpr fun z => h (by rw [z]; exact List.mem_cons_self)
    unfold wrd rst
    rw [List.cons_append, List.takeWhile_cons, List.dropWhile_cons, if_pos e, if_pos e]
    exact ⟨congrArg (a :: ·) h1, h2⟩
theorem readB_put (r : List Nat) (d : Nat) : readB (putW ++ 32 :: r) d = if 0 ≤ keyL (wrd r) d ∧ 32 ∈ r then some (some (.put (keyL (wrd r) d) (rst r))) else none := by
  obtain ⟨h1, h2⟩ := wrd_app (p := putW) r (by decide)
  unfold readB
  rw [if_neg (by intro z; rcases z with z | z <;> cases z), if_pos h1, h2]
theorem readB_cut (r : List Nat) (d : Nat) : readB (cutW ++ 32 :: r) d = if 0 ≤ keyL (rsp r) d then some (some (.cut (keyL (rsp r) d))) else none := by
  obtain ⟨h1, h2⟩ := wrd_app (p := cutW) r (by decide)
  unfold readB
  rw [if_neg (by intro z; rcases z with z | z <;> cases z), if_neg (by rw [h1]; decide), if_pos h1, h2]
theorem readB_none {b : List Nat} (d : Nat) (h0 : b ≠ []) (h1 : b.head? ≠ some 35) (h2 : wrd b ≠ putW) (h3 : wrd b ≠ cutW) : readB b d = none := by
  unfold readB
  rw [if_neg (by intro z; exact z.elim h0 h1), if_neg h2, if_neg h3]
theorem keyL_bad {l : List Nat} (d : Nat) (h : digs l = false ∨ 9 < l.length) : ¬ 0 ≤ keyL l d := by
  unfold keyL
  rw [if_neg]
  · decide
  · rintro ⟨h1, h2, _⟩
    rcases h with h | h
    · rw [h] at h1; cases h1
    · omega
theorem digs_no {l : List Nat} {c : Nat} (hc : c ∈ l) (h : c < 48 ∨ 57 < c) : digs l = false := by
  cases hd : digs l with
  | false => rfl
  | true =>
    unfold digs at hd
    rw [Bool.and_eq_true] at hd
    have := List.all_eq_true.mp hd.2 c hc
    rw [Bool.and_eq_true] at this
    have h1 := of_decide_eq_true this.1
    have h2 := of_decide_eq_true this.2
    omega
theorem rsp_tail (x : List Nat) {t : List Nat} (ht : t ≠ []) (hn : 32 ∉ t) : rsp (x ++ t) = x ++ t := by
  unfold rsp
  rw [List.reverse_append]
  cases hr : t.reverse with
  | nil => exact absurd (List.reverse_eq_nil_iff.mp hr) ht
  | cons a r =>
    have ha : a ∈ t := List.mem_reverse.mp (by rw [hr]; exact List.mem_cons_self)
    have e : (a == 32) = false := beq_eq_false_iff_ne.mpr fun z => hn (by rw [← z]; exact ha)
    rw [List.cons_append, List.dropWhile_cons, if_neg (by rw [e]; decide), ← List.cons_append, ← hr, ← List.reverse_append, List.reverse_reverse]
theorem rsp_sp {t : List Nat} (n : Nat) (ht : t ≠ []) (hn : 32 ∉ t) : rsp (t ++ List.replicate n 32) = t := by
  unfold rsp
  rw [List.reverse_append, List.reverse_replicate]
  have h : (List.replicate n 32 ++ t.reverse).dropWhile (· == 32) = t.reverse := by
    refine lsp_sp n ?_
    cases hr : t.reverse with
    | nil => exact absurd (List.reverse_eq_nil_iff.mp hr) ht
    | cons a r =>
      intro z
      have ha : a ∈ t := List.mem_reverse.mp (by rw [hr]; exact List.mem_cons_self)
      have z : a = 32 := Option.some.inj z
      exact hn (by rw [← z]; exact ha)
  rw [h, List.reverse_reverse]
/-- a key's figures -/
structure Fig (kd : List Nat) (n : Nat) : Prop where
  ne : kd ≠ []
  dg : ∀ c ∈ kd, 48 ≤ c ∧ c ≤ 57
  l9 : kd.length ≤ 9
  vl : NumText.digitsVal kd = n
theorem Fig.digs {kd : List Nat} {n : Nat} (h : Fig kd n) : digs kd = true := by
  unfold My.digs
  rw [Bool.and_eq_true]
  refine ⟨?_, List.all_eq_true.mpr fun c hc => ?_⟩
  · cases kd with
    | nil => exact absurd rfl h.ne
    | cons a l => rfl
  · rw [Bool.and_eq_true]
    exact ⟨decide_eq_true (h.dg c hc).1, decide_eq_true (h.dg c hc).2⟩
theorem Fig.no32 {kd : List Nat} {n : Nat} (h : Fig kd n) : 32 ∉ kd := fun z => by have := (h.dg 32 z).1; omega
theorem Fig.key {kd : List Nat} {n d : Nat} (h : Fig kd n) : keyL kd d = if n < 2 ^ d then (n : Int) else -1 := by
  unfold keyL
  by_cases c : n < 2 ^ d
  · rw [if_pos ⟨h.digs, h.l9, by rw [h.vl]; exact c⟩, if_pos c, h.vl]
  · rw [if_neg (fun z => c (by rw [← h.vl]; exact z.2.2)), if_neg c]
theorem Fig.pr {kd : List Nat} {n : Nat} (h : Fig kd n) : PrL kd := fun c hc => by have := h.dg c hc; omega
theorem val_zero (z : Nat) (l : List Nat) : NumText.digitsVal (List.replicate z 48 ++ l) = NumText.digitsVal l := by
  unfold NumText.digitsVal
  rw [List.foldl_append]
  congr 1
  induction z with
  | zero => rfl
  | succ z ih => rw [List.replicate_succ, List.foldl_cons]; exact ih
theorem fig_num {n z : Nat} (h : n < 100000) (hz : z + (TL.numL n).length ≤ 9) : Fig (List.replicate z 48 ++ TL.numL n) n := by
  refine ⟨?_, fun c hc => ?_, ?_, ?_⟩
  · intro e
    exact TL.numL_ne n (List.append_eq_nil_iff.mp e).2
  · rcases List.mem_append.mp hc with hc | hc
    · rw [(List.mem_replicate.mp hc).2]
      decide
    · exact TL.numL_digits n c hc
  · rw [List.length_append, List.length_replicate]
    exact hz
  · rw [val_zero, TL.numL_val]
inductive Due where
  | non
  | bad
  | act (a : Act)
def dueR : Due → Option (Option Act)
  | .non => some none
  | .bad => none
  | .act a => some (some a)
theorem row_put {kd t : List Nat} {n m d : Nat} (h : Fig kd n) : readL (List.replicate m 32 ++ (putW ++ 32 :: (kd ++ 32 :: t))) d = dueR (if n < 2 ^ d then .act (.put n t) else .bad) := by
  rw [readL_sp m d (by show some 112 ≠ some 32; decide), readB_put]
  obtain ⟨h1, h2⟩ := wrd_app (p := kd) t h.no32
  rw [h1, h2, h.key]
  by_cases c : n < 2 ^ d
  · rw [if_pos c, if_pos c, if_pos ⟨Int.natCast_nonneg _, List.mem_append.mpr (.inr List.mem_cons_self)⟩]
    rfl
  · rw [if_neg c, if_neg c, if_neg (fun z => by have := z.1; omega)]
    rfl
theorem row_cut {kd : List Nat} {n m j d : Nat} (h : Fig kd n) : readL (List.replicate m 32 ++ (cutW ++ 32 :: (kd ++ List.replicate j 32))) d = dueR (if n < 2 ^ d then .act (.cut n) else .bad) := by
  rw [readL_sp m d (by show some 99 ≠ some 32; decide), readB_cut, rsp_sp j h.ne h.no32, h.key]
  by_cases c : n < 2 ^ d
  · rw [if_pos c, if_pos c, if_pos (Int.natCast_nonneg _)]
    rfl
  · rw [if_neg c, if_neg c, if_neg (by decide)]
    rfl
theorem row_none (m d : Nat) : readL (List.replicate m 32) d = dueR .non := by
  have h := readL_sp m d (b := []) (by decide)
  rw [List.append_nil] at h
  rw [h]
  rfl
theorem row_hash (m d : Nat) (t : List Nat) : readL (List.replicate m 32 ++ 35 :: t) d = dueR .non := by
  rw [readL_sp m d (by show some 35 ≠ some 32; decide)]
  rfl
/-- a text that cannot be read -/
structure BadB (b : List Nat) : Prop where
  hd : b.head? ≠ some 32
  pr : PrL b
  ln : b.length ≤ 40
  rd : ∀ d, readB b d = none
theorem pr_app {a b : List Nat} (h : PrL a) (h' : PrL b) : PrL (a ++ b) := fun c hc => (List.mem_append.mp hc).elim (h c) (h' c)
theorem pr_cons {a : Nat} {b : List Nat} (h : 32 ≤ a ∧ a ≤ 126) (h' : PrL b) : PrL (a :: b) := fun c hc => (List.mem_cons.mp hc).elim (fun e => by rw [e]; exact h) (h' c)
theorem pr_nil : PrL [] := fun c hc => nomatch hc
theorem pr_rep {c : Nat} (n : Nat) (h : 32 ≤ c ∧ c ≤ 126) : PrL (List.replicate n c) := fun x hx => by rw [(List.mem_replicate.mp hx).2]; exact h
theorem bad_put {r : List Nat} (hp : PrL r) (hl : r.length ≤ 36) (h : digs (wrd r) = false ∨ 9 < (wrd r).length ∨ 32 ∉ r) : BadB (putW ++ 32 :: r) := by
  refine ⟨by show some 112 ≠ some 32; decide, pr_app (fun c hc => by simp [putW] at hc; omega) (pr_cons (by decide) hp), by simp [putW]; omega, fun d => ?_⟩
  rw [readB_put, if_neg]
  rintro ⟨h1, h2⟩
  rcases h with h | h | h
  · exact keyL_bad d (.inl h) h1
  · exact keyL_bad d (.inr h) h1
  · exact h h2
theorem bad_cut {r : List Nat} (hp : PrL r) (hl : r.length ≤ 36) (h : digs (rsp r) = false ∨ 9 < (rsp r).length) : BadB (cutW ++ 32 :: r) := by
  refine ⟨by show some 99 ≠ some 32; decide, pr_app (fun c hc => by simp [cutW] at hc; omega) (pr_cons (by decide) hp), by simp [cutW]; omega, fun d => ?_⟩
  rw [readB_cut, if_neg (keyL_bad d h)]
theorem bad_word {w r : List Nat} (hp : PrL (w ++ 32 :: r)) (hl : (w ++ 32 :: r).length ≤ 40) (h0 : (w ++ 32 :: r).head? ≠ some 32 ∧ (w ++ 32 :: r).head? ≠ some 35) (h1 : 32 ∉ w) (h2 : w ≠ putW) (h3 : w ≠ cutW) : BadB (w ++ 32 :: r) := by
  have hw := (wrd_app (p := w) r h1).1
  exact ⟨h0.1, hp, hl, fun d => readB_none d (by simp) h0.2 (by rw [hw]; exact h2) (by rw [hw]; exact h3)⟩
theorem bad_row {b : List Nat} (h : BadB b) (m d : Nat) : readL (List.replicate m 32 ++ b) d = dueR .bad := by
  rw [readL_sp m d h.hd, h.rd]
  rfl

/-- what takes any exception takes one without a context -/
theorem takesN {X : Cx} {W : WX} (tk : Takes X W) : L2N.Takes X W := by
  rintro u s' ⟨a, B, sI, pins, σ, H, cls, d, e, I, nb, up, sky, more⟩
  refine tk u s' ⟨a, B, sI, pins, σ, H, cls, d, e, I, nb, up, ?_, more⟩
  rcases sky with ⟨h1, h2, h3, oe, vs, h4, h5, h6⟩ | h | h
  · exact .inl ⟨h1, h2, h3, oe, vs, h4, h5.zc, h6⟩
  · exact .inr (.inl (L2H.flyingZ_imp (fun _ z => z.zc) h))
  · exact .inr (.inr ⟨h.1, h.2.1, h.2.2.1, L2H.tracedZ_imp (fun _ z => z.zc) h.2.2.2⟩)

/-! ### the rows of a text, done on pairs -/
def runL (d : Nat) : Nat → List (List Nat) → List (Int × Str) → Except Nat (List (Int × Str))
  | _, [], kv => .ok kv
  | i, r :: rs, kv => match readL r d with
    | none => .error i
    | some none => runL d (i + 1) rs kv
    | some (some (.put k t)) => runL d (i + 1) rs (putI kv k (S t))
    | some (some (.cut k)) => match getI kv k with
      | none => .error i
      | some _ => runL d (i + 1) rs (popI kv k)
def ActIn (l : Nat) (row : List Nat) : Act → Prop
  | .put k t => 0 ≤ k ∧ k < 2 ^ l ∧ ∀ c ∈ t, c ∈ row
  | .cut k => 0 ≤ k ∧ k < 2 ^ l
theorem keyL_lt {l : List Nat} {d : Nat} (h : 0 ≤ keyL l d) : keyL l d < 2 ^ d := by
  unfold keyL at h ⊢
  by_cases c : digs l = true ∧ l.length ≤ 9 ∧ NumText.digitsVal l < 2 ^ d
  · rw [if_pos c]
    have e : ((2 ^ d : Nat) : Int) = 2 ^ d := by rw [Int.natCast_pow]; rfl
    rw [← e]
    exact Int.ofNat_lt.mpr c.2.2
  · rw [if_neg c] at h
    exact absurd h (by decide)
theorem readL_in {row : List Nat} {d : Nat} {a : Act} (h : readL row d = some (some a)) : ActIn d row a := by
  unfold readL at h
  split at h
  · cases h
  · split at h
    · split at h
      · rename_i c
        cases h
        exact ⟨c.1, keyL_lt c.1, fun x hx => lsp_mem (rst_mem (rst_mem hx))⟩
      · cases h
    · split at h
      · split at h
        · rename_i c
          cases h
          exact ⟨c, keyL_lt c⟩
        · cases h
      · cases h
theorem putI_new {kvs : List (Int × Str)} {k : Int} (x : Str) (h : ∀ e ∈ kvs, e.1 ≠ k) : putI kvs k x = kvs ++ [(k, x)] := by
  unfold putI
  rw [if_neg]
  intro c
  obtain ⟨e, he, q⟩ := List.any_eq_true.mp c
  exact h e he (of_decide_eq_true q)
theorem put_take {rows : List (Int × Str)} {i : Nat} {e : Int × Str} (hn : (rows.map (·.1)).Nodup) (he : rows[i]? = some e) : putI (rows.take i) e.1 e.2 = rows.take (i + 1) := by
  have e1 : rows.take (i + 1) = rows.take i ++ [e] := by rw [List.take_succ, he]; rfl
  rw [e1, putI_new]
  intro y hy z
  have hi := (List.getElem?_eq_some_iff.mp he).1
  have h1 : ((rows.take (i + 1)).map (·.1)).Nodup := hn.sublist (List.Sublist.map _ (List.take_sublist _ _))
  rw [e1, List.map_append, List.nodup_append] at h1
  exact h1.2.2 y.1 (List.mem_map_of_mem hy) e.1 (by simp) z
theorem TbOk.perm {l : Nat} {a b : List (Int × Str)} (h : TbOk l a) (p : b.Perm a) : TbOk l b :=
  ⟨(p.map (·.1)).nodup_iff.mpr h.nd, fun e he => h.rg e (p.mem_iff.mp he), fun e he => h.tx e (p.mem_iff.mp he)⟩
theorem TbAt.upd {C f : Addr} {H : Hp} {p d : Addr} {l : Nat} {kvs kvs' : List (Int × Str)} (h : TbAt C f H p d l kvs) (hl : kvs'.length ≤ 1000) : TbAt C f (L2.upd H d (.dK (convT kvs'))) p d l kvs' := by
  obtain ⟨⟨dx, a⟩, b, c⟩ := h
  exact ⟨⟨dx, by rw [upd_ne (fun z => by rw [z, b] at a; cases a)]; exact a⟩, upd_same, hl, c.2⟩
theorem ne_dK {H : Hp} {d a : Addr} {kv : List (Key × V)} {xs : List V} (hd : H d = some (.dK kv)) (ha : H a = some (.lst xs)) : a ≠ d := fun z => by
  rw [z, hd] at ha
  cases ha
/-! ### pairs in another row -/
theorem any_key {a : List (Int × Str)} {k : Int} : ((a.any fun e => decide (e.1 = k)) = true) ↔ k ∈ a.map (·.1) := by
  rw [List.any_eq_true, List.mem_map]
  exact ⟨fun ⟨e, h, q⟩ => ⟨e, h, of_decide_eq_true q⟩, fun ⟨e, h, q⟩ => ⟨e, h, decide_eq_true q⟩⟩
theorem putI_perm {a b : List (Int × Str)} (p : a.Perm b) (k : Int) (x : Str) : (putI a k x).Perm (putI b k x) := by
  have h := (p.map (·.1)).mem_iff (a := k)
  unfold putI
  by_cases c : (a.any fun e => decide (e.1 = k)) = true
  · rw [if_pos c, if_pos (any_key.mpr (h.mp (any_key.mp c)))]
    exact p.map _
  · rw [if_neg c, if_neg (fun z => c (any_key.mpr (h.mpr (any_key.mp z))))]
    exact p.append_right _
theorem popI_perm {a b : List (Int × Str)} (p : a.Perm b) (k : Int) : (popI a k).Perm (popI b k) := p.filter _
theorem getI_none {a : List (Int × Str)} {k : Int} (h : k ∉ a.map (·.1)) : getI a k = none := by
  unfold getI
  rw [List.find?_eq_none.mpr]
  · rfl
  · intro e he z
    exact h (List.mem_map.mpr ⟨e, he, of_decide_eq_true z⟩)
theorem getI_perm {a b : List (Int × Str)} (hn : (a.map (·.1)).Nodup) (p : a.Perm b) (k : Int) : getI a k = getI b k := by
  by_cases c : k ∈ a.map (·.1)
  · obtain ⟨t, h1, h2⟩ := getI_mem c
    rw [h1]
    exact (getI_of (e := (k, t)) ((p.map (·.1)).nodup_iff.mp hn) (p.mem_iff.mp h2)).symm
  · rw [getI_none c, getI_none fun z => c ((p.map (·.1)).mem_iff.mpr z)]
theorem putI_nd {a : List (Int × Str)} (h : (a.map (·.1)).Nodup) (k : Int) (x : Str) : ((putI a k x).map (·.1)).Nodup := by
  unfold putI
  by_cases c : (a.any fun e => decide (e.1 = k)) = true
  · rw [if_pos c]
    have em : (a.map fun e => if e.1 = k then (e.1, x) else e).map (·.1) = a.map (·.1) := by
      rw [List.map_map]
      refine List.map_congr_left fun e _ => ?_
      show (if e.1 = k then (e.1, x) else e).1 = e.1
      by_cases q : e.1 = k
      · rw [if_pos q]
      · rw [if_neg q]
    rw [em]
    exact h
  · rw [if_neg c, List.map_append, List.nodup_append]
    refine ⟨h, List.pairwise_singleton _ _, fun y hy z hz => ?_⟩
    have hz' : z = k := List.mem_singleton.mp hz
    subst hz'
    exact fun q => c (any_key.mpr (q ▸ hy))
theorem popI_nd {a : List (Int × Str)} (h : (a.map (·.1)).Nodup) (k : Int) : ((popI a k).map (·.1)).Nodup := h.sublist (List.Sublist.map _ List.filter_sublist)
def SameR : Except Nat (List (Int × Str)) → Except Nat (List (Int × Str)) → Prop
  | .ok x, .ok y => x.Perm y
  | .error i, .error j => i = j
  | _, _ => False
theorem run_perm {d : Nat} : ∀ (rs : List (List Nat)) (i : Nat) (a b : List (Int × Str)), (a.map (·.1)).Nodup → a.Perm b → SameR (runL d i rs a) (runL d i rs b)
  | [], i, a, b, _, p => p
  | r :: rs, i, a, b, hn, p => by
    rw [runL, runL]
    cases readL r d with
    | none => exact (rfl : i = i)
    | some o =>
      cases o with
      | none => exact run_perm rs (i + 1) a b hn p
      | some act =>
        cases act with
        | put k t => exact run_perm rs (i + 1) _ _ (putI_nd hn k _) (putI_perm p k _)
        | cut k =>
          show SameR (match getI a k with | none => .error i | some _ => runL d (i + 1) rs (popI a k)) (match getI b k with | none => .error i | some _ => runL d (i + 1) rs (popI b k))
          rw [← getI_perm hn p k]
          cases getI a k with
          | none => exact (rfl : i = i)
          | some v => exact run_perm rs (i + 1) _ _ (popI_nd hn k) (popI_perm p k)
theorem SameR.ok {x : List (Int × Str)} {r : Except Nat (List (Int × Str))} (h : SameR (.ok x) r) : ∃ y, r = .ok y ∧ x.Perm y := by
  cases r with
  | ok y => exact ⟨y, rfl, h⟩
  | error j => exact h.elim
theorem SameR.error {i : Nat} {r : Except Nat (List (Int × Str))} (h : SameR (.error i) r) : r = .error i := by
  cases r with
  | ok y => exact h.elim
  | error j => exact congrArg Except.error (Eq.symm h)
theorem run_ok {d : Nat} : ∀ (rs : List (List Nat)) (i : Nat) (a b : List (Int × Str)), TbOk d a → (∀ r ∈ rs, AscL r) → runL d i rs a = .ok b → TbOk d b ∧ b.length ≤ a.length + rs.length
  | [], i, a, b, h, _, e => by
    cases e
    exact ⟨h, Nat.le_refl _⟩
  | r :: rs, i, a, b, h, hr, e => by
    have hr' := fun x hx => hr x (List.mem_cons_of_mem _ hx)
    rw [runL] at e
    cases q : readL r d with
    | none => rw [q] at e; cases e
    | some o =>
      rw [q] at e
      cases o with
      | none =>
        obtain ⟨h1, h2⟩ := run_ok rs (i + 1) a b h hr' e
        exact ⟨h1, by rw [List.length_cons]; omega⟩
      | some act =>
        have hin := readL_in q
        cases act with
        | put k t =>
          have tx : txtOk (S t) = true := txt_of_tl fun c hc => by
            have := hr r List.mem_cons_self c (hin.2.2 c hc)
            omega
          obtain ⟨h1, h2⟩ := run_ok rs (i + 1) _ b (tbok_put h hin.1 hin.2.1 tx) hr' e
          have := put_length a k (S t)
          exact ⟨h1, by rw [List.length_cons]; omega⟩
        | cut k =>
          have e : (match getI a k with | none => Except.error i | some _ => runL d (i + 1) rs (popI a k)) = .ok b := e
          cases g : getI a k with
          | none => rw [g] at e; cases e
          | some v =>
            rw [g] at e
            obtain ⟨h1, h2⟩ := run_ok rs (i + 1) _ b (tbok_pop h) hr' e
            have := pop_length a k
            exact ⟨h1, by rw [List.length_cons]; omega⟩

section
variable {P : Program} {w : World} {K : PySem.W.Frag} {mg : Str → Option Value} {base : Heap} {Fam : Sys → Prop} {C B CT : Addr}
def spChanged (mg : Str → Option Value) (CT : Addr) (Fam : Sys → Prop) : Sp := fun vs H Q E => ∃ (S0 : Sys) (p d : Addr) (l : Nat) (kvs : List (Int × Str)) (tx : List Nat) (r : Nat), Fam S0 ∧ vs = [.ref p, .str (S tx), .int (l : Int)] ∧ TbAt CT S0.f H p d l kvs ∧ TbOk l kvs ∧ AscL tx ∧ kvs.length + tx.length ≤ 900 ∧ S0.ok H r ∧
  (∀ rows kv o d' H', rows.Perm kvs → runL l 0 (TL.spl [10] 0 [] tx) rows = .ok kv → Ext H H' → H o = none → H d' = none → S0.ok H' r → TbAt CT S0.f H' o d' l kv → TbOk l kv → Q (.ref o) H') ∧
  (∀ rows i, rows.Perm kvs → runL l 0 (TL.spl [10] 0 [] tx) rows = .error i → ∀ D, mg "BadRow" = some (.ref D) → ∀ dx H', Ext H H' → S0.ok H' r → H dx = none → H' dx = some (.xd [("row", .int (i : Int))]) → E (.ref D) (some dx) H')
theorem ok_changed {cc : Addr} (T : Txt K mg cc) (A : SlA P w K mg base Fam) (KT : K_Table K mg CT) (EI : ExcI K mg "BadRow" "BookError" "row" "BadRow.__init__" s_BadRow___init__ ["self", "row"] C B) : CalX P w K mg base 8 "changed" (spChanged mg CT Fam) := by
  have Z := T.Z
  have C_placed := ok_placed (P := P) (w := w) (base := base) T EI
  have F_BadRow := ok_brinit (P := P) (w := w) (base := base) T EI
  have C_Table := ok_tinit A KT
  have M_rows := ok_rows (P := P) (w := w) (base := base) T KT
  have M_put := ok_put (P := P) (w := w) (base := base) T KT
  have M_value := ok_value (P := P) (w := w) (base := base) T KT
  have M_cut := ok_cut (P := P) (w := w) (base := base) T KT
  refine calX_of T.d_changed sc_changed (fun vs H Q E h => ?_) (fun f cdv A' outer s H vs Q E hr h => ?_)
  · obtain ⟨S0, p, d, l, kvs, tx, r, _, rfl, _⟩ := h
    rfl
  obtain ⟨S0, p, d, l, kvs, tx, r, hF, rfl, tb, hk, ha, hsz, hok, q1, q2⟩ := h
  have G := A.good hF
  have e16 : sizeLine = 16777216 := sizeLine_eq
  obtain ⟨⟨dx, hp⟩, hd, hz, hl'⟩ := id tb
  refine ⟨_, (pss_cons (ps_set (i := 3) sc_changed.nd rfl (Or.inl rfl) (pe_mk C_Table hr (by omega) rfl (pa_cons (pe_fld (pv 0) rfl) (pa_cons (pv 2) pa_nil))))
  (pss_cons (ps_for (passes_of rfl) rfl (pi_list (pe_mt0 M_rows hr (by omega) (pv 0))) (pg_tup rfl (pgs_cons (pg_name (i := 4) sc_changed.nd rfl (Or.inl rfl)) (pgs_cons (pg_name (i := 5) sc_changed.nd rfl (Or.inl rfl)) pgs_nil))) (pss_one (ps_expr (pe_mtx M_put (takes_of rfl rfl rfl rfl) hr (by omega) (pv 3) (pa_cons (pv 4) (pa_cons (pv 5) pa_nil))))))
  (pss_cons (ps_for (passes_of rfl) rfl (pi_enum (by rfl) Z.enumerate (pa_cons (pe_split (pv 1) pe_str) pa_nil)) (pg_tup rfl (pgs_cons (pg_name (i := 6) sc_changed.nd rfl (Or.inl rfl)) (pgs_cons (pg_name (i := 7) sc_changed.nd rfl (Or.inl rfl)) pgs_nil))) (pss_cons (ps_set (i := 8) sc_changed.nd rfl (Or.inl rfl) (pe_cx C_placed (takes_of rfl rfl rfl rfl) hr (by omega) rfl (pa_cons (pv 7) (pa_cons (pv 6) (pa_cons (pv 2) pa_nil)))))
  (pss_one (ps_if (PW.pt (pw_and (pt_cmpR op_notN (pv 8) pe_non (nomark _)) (pw_and1 (pt_cmpR op_eq (pe_ix ix_tup (pv 8) pe_int (fun _ _ => rfl)) pe_str (nomark _))))) (pss_one (ps_expr (pe_mtx M_put (takes_of rfl rfl rfl rfl) hr (by omega) (pv 3) (pa_cons (pe_ix ix_tup (pv 8) pe_int (fun _ _ => rfl)) (pa_cons (pe_ix ix_tup (pv 8) pe_int (fun _ _ => rfl)) pa_nil))))) (pss_one (ps_if (pt_cmpR op_notN (pv 8) pe_non (nomark _)) (pss_cons (ps_if (pt_cmpR op_isN (pe_mtx M_value (takes_of rfl rfl rfl rfl) hr (by omega) (pv 3) (pa_cons (pe_ix ix_tup (pv 8) pe_int (fun _ _ => rfl)) pa_nil)) pe_non (nomark _)) (pss_one (ps_raiseIN EI F_BadRow hr (by omega) rfl (takesN (takes_of rfl rfl rfl rfl)) rfl (pv 6) te_var)) pss_nil)
  (pss_one (ps_expr (pe_mtx M_cut (takes_of rfl rfl rfl rfl) hr (by omega) (pv 3) (pa_cons (pe_ix ix_tup (pv 8) pe_int (fun _ _ => rfl)) pa_nil))))) pss_nil))))))
  (pss_one (ps_ret (pv 3)))))), ?_⟩
  have eNl : Str.ofString "\n" = S [10] := TL.ext_tl (by decide +kernel)
  refine ⟨_, rfl, p, CT, dx, _, _, rfl, hp, KT.cl, KT.n_seal, tbF_seal _ _ _, _, rfl, fun o ox no nox nex => ?_⟩
  have y1 : Ext H (upd (upd H ox (.own o)) o (.ins CT ox [])) := (Ext.new nox).trans (Ext.new (by rw [upd_ne nex.symm]; exact no))
  have ky1 : Kp H (upd (upd H ox (.own o)) o (.ins CT ox [])) := (Kp.new nox).trans (Kp.new (by rw [upd_ne nex.symm]; exact no))
  refine ⟨S0, o, ox, l, r, hF, rfl, upd_same, hl', G.keep ky1 hok, fun H1 d1 xo1 kp1 nd1 ok1 tb1 => ⟨rfl, ?_⟩⟩
  have x1 : Ext H H1 := xo1.ext y1 no
  have nd1' := y1.free nd1
  -- the rows
  have tbp := tb.ext x1
  obtain ⟨⟨dx', hp'⟩, _, _⟩ := id tbp
  refine ⟨_, rfl, p, dx', _, rfl, hp', (tbF_no _ _ _).2.2.2.2.1, S0.f, p, d, l, kvs, rfl, tbp, hk.nd, hk.tx, fun qr ys rows H2 x2 k2 nqr hqr hrows perm pw => ?_⟩
  have hk2 := hk.perm perm
  have tb2 := tb1.ext x2
  have hyl := hrows.len
  have rl := perm.length_eq
  refine ⟨qr, rfl, ⟨_, SqL.of hqr⟩, for_list (K := K) (a := qr) (xs := ys) (fun i σ H' => ∃ (y4 y5 : Option V), σ = [some (.ref p), some (.str (S tx)), some (.int (l : Int)), some (.ref o), y4, y5, none, none, none] ∧ Ext H H' ∧ S0.ok H' r ∧ TbAt CT S0.f H' o d1 l (rows.take i) ∧ H' qr = some (.lst ys) ∧ KvL H' ys rows)
    ⟨none, none, rfl, x1.trans x2, G.keep k2 ok1, tb2, hqr, hrows⟩ (fun i σ H' _ ⟨_, _, _, _, _, _, h, _⟩ => SqL.of h) ?_ ?_⟩
  · rintro i x σ H' hi ⟨y4, y5, rfl, xi, oki, tbi, hqi, hri⟩
    have hil := (List.getElem?_eq_some_iff.mp hi).1
    have he : rows[i]? = some (rows[i]'(by omega)) := List.getElem?_eq_getElem _
    obtain ⟨qe, rfl, hqe, hqx⟩ := hri.at_ i x _ hi he
    have hrg := hk2.rg _ (List.getElem_mem (show i < rows.length by omega))
    generalize rows[i]'(by omega) = e at he hqe hqx hrg
    obtain ⟨⟨dxo, hpo⟩, hdo, _⟩ := id tbi
    refine ⟨qe, _, rfl, SqT.of hqe, rfl, _, _, rfl, _, _, rfl, rfl, _, rfl, o, dxo, _, rfl, hpo, (tbF_no _ _ _).2.1, _, rfl, _, rfl, S0.f, o, d1, l, _, e.1, e.2, rfl, tbi, fun _ => ?_, fun h => absurd hrg h⟩
    rw [put_take hk2.nd he]
    refine ⟨_, _, rfl, xi.mut nd1', G.keep (Kp.dK hdo) oki, tbi.upd (by rw [List.length_take]; omega), by rw [upd_ne (ne_dK hdo hqi)]; exact hqi, hri.gr (Kp.dK hdo).gr⟩
  rintro σ H3 ⟨y4, y5, rfl, x3, ok3, tb3, _, _⟩
  rw [hyl, List.take_length] at tb3
  -- the text's rows
  refine ⟨_, rfl, ⟨_, rfl⟩, _, _, rfl, rfl, by decide +kernel, by rw [S_len]; omega, fun sp nsp => ?_⟩
  rw [eNl, SX.split_S (by simp) (by decide)]
  have rlm := spl_many tx []
  have rm := spl_rows tx []
  generalize TL.spl [10] 0 [] tx = trs at rlm rm q1 q2 ⊢
  have u4 := Ext.new (o := .lst ((trs.map S).map V.str)) nsp
  have hsp : upd H3 sp (.lst ((trs.map S).map V.str)) sp = some (.lst ((trs.map S).map V.str)) := upd_same
  have x4 := x3.trans u4
  have ok4 := G.keep (Kp.new (o := .lst ((trs.map S).map V.str)) nsp) ok3
  have tb4 := tb3.ext u4
  generalize upd H3 sp (.lst ((trs.map S).map V.str)) = H4 at hsp x4 ok4 tb4 ⊢
  refine ⟨sp, _, rfl, SqL.of hsp, for_it (walk_enum (K := K) (a := sp) (xs := (trs.map S).map V.str)) (fun i σ H' => ∃ (y4 y5 y6 y7 y8 : Option V) (kv : List (Int × Str)), σ = [some (.ref p), some (.str (S tx)), some (.int (l : Int)), some (.ref o), y4, y5, y6, y7, y8] ∧ Ext H H' ∧ S0.ok H' r ∧ TbAt CT S0.f H' o d1 l kv ∧ TbOk l kv ∧ kv.length ≤ rows.length + i ∧ H' sp = some (.lst ((trs.map S).map V.str)) ∧ runL l 0 trs rows = runL l i (trs.drop i) kv)
    ⟨_, _, none, none, none, rows, rfl, x4, ok4, tb4, hk2, by omega, hsp, by rw [List.drop_zero]⟩ (fun i σ H' _ ⟨_, _, _, _, _, _, _, _, _, _, _, _, h, _⟩ => SqL.of h) ?_ ?_⟩
  · rintro i x σ H5 H6 hi ⟨y4, y5, y6, y7, y8, kv, rfl, xi, oki, tbi, hki, hlen, hspi, hrun⟩ ⟨t, kx, vx, rfl, nt, rfl, e1, e2⟩
    rw [List.length_map, List.length_map] at hi
    have hr' : trs[i]? = some trs[i] := List.getElem?_eq_getElem hi
    have hmem := List.getElem_mem hi
    have hdr : trs.drop i = trs[i] :: trs.drop (i + 1) := List.drop_eq_getElem_cons hi
    rw [hdr] at hrun
    generalize trs[i] = row at hr' hmem hdr hrun
    have e1' : V.int (i : Int) = kx := Option.some.inj e1
    have e2' : V.str (S row) = vx := by
      have e2 : ((trs.map S).map V.str)[i]? = some vx := e2
      rw [List.getElem?_map, List.getElem?_map, hr'] at e2
      exact Option.some.inj e2
    subst e1' e2'
    have ut := Ext.new (o := .tup [.int (i : Int), .str (S row)]) nt
    refine ⟨t, _, rfl, SqT.of upd_same, rfl, _, _, rfl, _, _, rfl, rfl, ?_⟩
    have x6 := xi.trans ut
    have ok6 := G.keep (Kp.new (o := .tup [.int (i : Int), .str (S row)]) nt) oki
    have tb6 := tbi.ext ut
    have hsp6 := ut.lst hspi
    generalize upd H5 t (.tup [.int (i : Int), .str (S row)]) = H6 at x6 ok6 tb6 hsp6 ⊢
    obtain ⟨rc, rle⟩ := rm row hmem
    have rle : row.length ≤ 0 + tx.length := rle
    refine ⟨_, rfl, _, rfl, _, rfl, row, l, (i : Int), rfl, ha.sub (fun c hc => (rc c hc).resolve_left (fun z => nomatch z)), by omega, hl', by omega, by omega, fun e H7 s7 => ?_, fun a e q4 H7 s7 nq4 hq4 => ?_, fun e D hD dx7 H7 s7 ndx hdx => ?_⟩
    · refine ⟨_, rfl, rfl, _, rfl, iteF ?_⟩
      refine iteF ?_
      refine ⟨_, rfl, rfl, _, rfl, iteF ?_⟩
      refine ⟨_, _, _, _, _, kv, rfl, x6.trans (Ext.of_same s7), G.keep (kp_same s7) ok6, tb6.ext (Ext.of_same s7), hki, by omega, (Ext.of_same s7).lst hsp6, ?_⟩
      rw [hrun, runL, e]
    · have x7 := x6.trans (Ext.of_same s7)
      have tb7 := tb6.ext (Ext.of_same s7)
      have ok7 := G.keep (kp_same s7) ok6
      have hsp7 := (Ext.of_same s7).lst hsp6
      have hin := readL_in e
      obtain ⟨⟨dxo, hpo⟩, hdo, _⟩ := id tb7
      refine ⟨_, rfl, rfl, _, rfl, iteT ?_⟩
      cases a with
      | put k tt =>
        refine ⟨_, rfl, q4, _, 0, _, rfl, rfl, SqT.of hq4, rfl, rfl, _, rfl, ?_⟩
        refine iteT ?_
        refine ⟨_, rfl, o, dxo, _, rfl, hpo, (tbF_no _ _ _).2.1, _, rfl, q4, _, 1, _, rfl, rfl, SqT.of hq4, rfl, _, rfl, q4, _, 2, _, rfl, rfl, SqT.of hq4, rfl, S0.f, o, d1, l, _, k, S tt, rfl, tb7, fun _ => ?_, fun h => absurd ⟨hin.1, hin.2.1⟩ h⟩
        have pl := put_length kv k (S tt)
        have htt : txtOk (S tt) = true := txt_of_tl fun c hc => by
          have := ha c ((rc c (hin.2.2 c hc)).resolve_left (fun z => nomatch z))
          omega
        refine ⟨_, _, _, _, _, putI kv k (S tt), rfl, x7.mut nd1', G.keep (Kp.dK hdo) ok7, tb7.upd (by omega), tbok_put hki hin.1 hin.2.1 htt, by omega, by rw [upd_ne (ne_dK hdo hsp7)]; exact hsp7, ?_⟩
        rw [hrun, runL, e]
      | cut k =>
        refine ⟨_, rfl, q4, _, 0, _, rfl, rfl, SqT.of hq4, rfl, rfl, _, rfl, ?_⟩
        refine iteF ?_
        refine ⟨_, rfl, rfl, _, rfl, iteT ?_⟩
        refine ⟨_, rfl, o, dxo, _, rfl, hpo, (tbF_no _ _ _).2.2.2.1, _, rfl, q4, _, 1, _, rfl, rfl, SqT.of hq4, rfl, S0.f, o, d1, l, _, k, rfl, tb7, fun _ => ?_, fun h => absurd ⟨hin.1, hin.2⟩ h⟩
        cases hg : getI kv k with
        | none =>
          refine ⟨rfl, _, rfl, iteT ?_⟩
          refine ⟨_, rfl, _, rfl, by omega, by omega, fun dx8 n8 => ?_⟩
          refine q2 rows i perm ?_ _ EI.gC dx8 _ (x7.mut (x7.free n8)) (G.keep (Kp.new n8) ok7) (x7.free n8) upd_same
          rw [hrun, runL, e]
          show (match getI kv k with | none => Except.error i | some _ => _) = _
          rw [hg]
        | some v =>
          refine ⟨rfl, _, rfl, iteF ?_⟩
          refine ⟨_, rfl, o, dxo, _, rfl, hpo, (tbF_no _ _ _).2.2.1, _, rfl, q4, _, 1, _, rfl, rfl, SqT.of hq4, rfl, S0.f, o, d1, l, _, k, rfl, tb7, fun _ => ?_, fun h => absurd ⟨hin.1, hin.2, by rw [hg]; rfl⟩ h⟩
          have pl := pop_length kv k
          refine ⟨_, _, _, _, _, popI kv k, rfl, x7.mut nd1', G.keep (Kp.dK hdo) ok7, tb7.upd (by omega), tbok_pop hki, by omega, by rw [upd_ne (ne_dK hdo hsp7)]; exact hsp7, ?_⟩
          rw [hrun, runL, e]
          show (match getI kv k with | none => Except.error i | some _ => _) = _
          rw [hg]
    · rw [EI.gC] at hD
      cases hD
      refine q2 rows i perm ?_ _ EI.gC dx7 H7 (x6.trans (Ext.of_same s7)) (G.keep (kp_same s7) ok6) (x6.free ndx) hdx
      rw [hrun, runL, e]
  · rintro σ H5 ⟨y4, y5, y6, y7, y8, kv, rfl, x5, ok5, tb5, hk5, hlen, hsp5, hrun⟩
    rw [List.length_map, List.length_map, List.drop_length] at hrun
    exact ⟨_, rfl, q1 rows kv o d1 H5 perm hrun x5 no nd1' ok5 tb5 hk5⟩
end

/-! ### heaps where some lists may change -/
structure ExtM (M : List Addr) (H H' : Hp) : Prop where
  keep : ∀ a o, a ∉ M → H a = some o → (∀ kvs, o ≠ .dT kvs) → H' a = some o
  grow : ∀ a kvs, H a = some (.dT kvs) → ∃ more, H' a = some (.dT (kvs ++ more))
  was : ∀ a ∈ M, ∃ xs, H a = some (.lst xs)
section
variable {M : List Addr} {H H' H2 : Hp}
theorem ExtM.off (h : ExtM M H H') {a : Addr} {o : HO} (e : H a = some o) (n : ∀ xs, o ≠ .lst xs) : a ∉ M := fun hm => by
  obtain ⟨xs, z⟩ := h.was a hm
  rw [e] at z
  exact n xs (Option.some.inj z)
theorem ExtM.gr (h : ExtM M H H') : Gr H H' := ⟨fun a o e s n => h.keep a o (h.off e fun xs z => by subst z; exact s.elim) e n, h.grow⟩
theorem ExtM.lst (h : ExtM M H H') {a : Addr} {xs : List V} (hm : a ∉ M) (e : H a = some (.lst xs)) : H' a = some (.lst xs) := h.keep _ _ hm e fun _ z => nomatch z
theorem ExtM.ins (h : ExtM M H H') {a C dx : Addr} {fs : List (Str × V)} (e : H a = some (.ins C dx fs)) : H' a = some (.ins C dx fs) := h.keep _ _ (h.off e fun _ z => nomatch z) e fun _ z => nomatch z
theorem ExtM.dK (h : ExtM M H H') {a : Addr} {ks : List (Key × V)} (e : H a = some (.dK ks)) : H' a = some (.dK ks) := h.keep _ _ (h.off e fun _ z => nomatch z) e fun _ z => nomatch z
theorem ExtM.tup (h : ExtM M H H') {a : Addr} {xs : List V} (e : H a = some (.tup xs)) : H' a = some (.tup xs) := h.keep _ _ (h.off e fun _ z => nomatch z) e fun _ z => nomatch z
theorem Ext.m (x : Ext H H') (M : List Addr) (hw : ∀ a ∈ M, ∃ xs, H a = some (.lst xs)) : ExtM M H H' := ⟨fun a o _ e n => x.keep a o e n, x.grow, hw⟩
theorem ExtM.then (h : ExtM M H H') (x : Ext H' H2) : ExtM M H H2 := by
  refine ⟨fun a o hm e n => x.keep a o (h.keep a o hm e n) n, fun a ks e => ?_, h.was⟩
  obtain ⟨m1, e1⟩ := h.grow a ks e
  obtain ⟨m2, e2⟩ := x.grow a _ e1
  exact ⟨m1 ++ m2, by rw [e2, List.append_assoc]⟩
/-- a list of M is set -/
theorem ExtM.set (h : ExtM M H H') {a : Addr} {o : HO} (ha : a ∈ M) : ExtM M H (upd H' a o) := by
  refine ⟨fun b u hm e n => ?_, fun b ks e => ?_, h.was⟩
  · rw [upd_ne (fun z => hm (by rw [z]; exact ha))]
    exact h.keep b u hm e n
  · obtain ⟨m1, e1⟩ := h.grow b ks e
    refine ⟨m1, ?_⟩
    rw [upd_ne]
    · exact e1
    · rintro rfl
      obtain ⟨xs, z⟩ := h.was _ ha
      rw [e] at z
      cases z
theorem ExtM.free (h : ExtM M H H') {a : Addr} (n : H' a = none) (hm : a ∉ M) : H a = none := by
  cases q : H a with
  | none => rfl
  | some o =>
    by_cases c : ∃ kvs, o = .dT kvs
    · obtain ⟨kvs, rfl⟩ := c
      obtain ⟨m, e1⟩ := h.grow a kvs q
      rw [e1] at n
      cases n
    · rw [h.keep a o hm q fun kvs z => c ⟨kvs, z⟩] at n
      cases n
theorem ExtM.wide {M' : List Addr} (h : ExtM M H H') (hs : ∀ a ∈ M, a ∈ M') (hw : ∀ a ∈ M', ∃ xs, H a = some (.lst xs)) : ExtM M' H H' := ⟨fun a o hm e n => h.keep a o (fun z => hm (hs a z)) e n, h.grow, hw⟩
theorem TbAt.extM {C f p d : Addr} {l : Nat} {kvs : List (Int × Str)} (h : TbAt C f H p d l kvs) (x : ExtM M H H') : TbAt C f H' p d l kvs := by
  obtain ⟨⟨dx, a⟩, b, c⟩ := h
  exact ⟨⟨dx, x.ins a⟩, x.dK b, c⟩
end

/-! ### pairs by rising keys -/
def srtI (kv : List (Int × Str)) : List (Int × Str) := kv.mergeSort fun a b => decide (a.1 ≤ b.1)
theorem srt_perm (kv : List (Int × Str)) : (srtI kv).Perm kv := List.mergeSort_perm _ _
theorem srt_pw (kv : List (Int × Str)) : (srtI kv).Pairwise fun a b => a.1 ≤ b.1 := by
  have h := List.pairwise_mergeSort (le := fun a b : Int × Str => decide (a.1 ≤ b.1)) (fun a b c h1 h2 => by
    have h1 := of_decide_eq_true h1
    have h2 := of_decide_eq_true h2
    exact decide_eq_true (by omega)) (fun a b => by
    rcases Int.le_total a.1 b.1 with h | h
    · rw [decide_eq_true h]; rfl
    · rw [decide_eq_true h, Bool.or_true]) kv
  exact h.imp fun h => of_decide_eq_true h
theorem srt_eq {l : Nat} {kv kv' rows : List (Int × Str)} (h : TbOk l kv) (q : kv'.Perm kv) (p : rows.Perm kv') (pw : rows.Pairwise fun a b => a.1 ≤ b.1) : rows = srtI kv :=
  kv_same h.nd (p.trans q) (srt_perm kv) pw (srt_pw kv)
/-! ### entries -/
abbrev En := List Nat × List (Int × Str)
def headT (l : Nat) (kv : List (Int × Str)) : Tm := .sl "table" (.int (l : Int)) (partT l (srtI kv))
def leafT (l : Nat) (e : En) : Tm := .sl "leaf" (.str (S e.1)) (headT l e.2)
def kpF (f : Addr) (l : Int) (t b v : Addr) : List (Str × V) := [("seal", .ref f), ("depth", .int l), ("texts", .ref t), ("tables", .ref b), ("leaves", .ref v)]
theorem kpF_at (f : Addr) (l : Int) (t b v : Addr) : (kpF f l t b v).lookup ("seal" : Str) = some (.ref f) ∧ (kpF f l t b v).lookup ("depth" : Str) = some (.int l) ∧ (kpF f l t b v).lookup ("texts" : Str) = some (.ref t) ∧ (kpF f l t b v).lookup ("tables" : Str) = some (.ref b) ∧ (kpF f l t b v).lookup ("leaves" : Str) = some (.ref v) :=
  ⟨by kernel_rfl, by kernel_rfl, by kernel_rfl, by kernel_rfl, by kernel_rfl⟩
theorem kpF_no (f : Addr) (l : Int) (t b v : Addr) : ∀ m ∈ (["add", "size", "first", "within", "text", "table_head", "head", "path", "growth", "way", "paper"] : List Str), (kpF f l t b v).lookup m = none := by
  intro m hm
  rcases List.mem_cons.mp hm with rfl | hm
  · kernel_rfl
  rcases List.mem_cons.mp hm with rfl | hm
  · kernel_rfl
  rcases List.mem_cons.mp hm with rfl | hm
  · kernel_rfl
  rcases List.mem_cons.mp hm with rfl | hm
  · kernel_rfl
  rcases List.mem_cons.mp hm with rfl | hm
  · kernel_rfl
  rcases List.mem_cons.mp hm with rfl | hm
  · kernel_rfl
  rcases List.mem_cons.mp hm with rfl | hm
  · kernel_rfl
  rcases List.mem_cons.mp hm with rfl | hm
  · kernel_rfl
  rcases List.mem_cons.mp hm with rfl | hm
  · kernel_rfl
  rcases List.mem_cons.mp hm with rfl | hm
  · kernel_rfl
  rcases List.mem_cons.mp hm with rfl | hm
  · kernel_rfl
  cases hm
theorem kpF_mk (f : Addr) (l : Int) (t b v : Addr) : putF "leaves" (.ref v) (putF "tables" (.ref b) (putF "texts" (.ref t) (putF "depth" (.int l) (putF "seal" (.ref f) [])))) = kpF f l t b v := by kernel_rfl
/-- a keeper, its three lists, its tables -/
structure KpAt (CK CT : Addr) (S0 : Sys) (H : Hp) (p : Addr) (l : Nat) (t b v : Addr) (es : List En) : Prop where
  at_ : ∃ dx, H p = some (.ins CK dx (kpF S0.f (l : Int) t b v))
  tx : H t = some (.lst (es.map fun e => V.str (S e.1)))
  tb : ∃ qs : List Addr, H b = some (.lst (qs.map V.ref)) ∧ qs.length = es.length ∧ ∀ (i : Nat) (q : Addr) (e : En), qs[i]? = some q → es[i]? = some e → ∃ d kv, kv.Perm e.2 ∧ TbAt CT S0.f H q d l kv
  lv : ∃ ls, H v = some (.lst ls) ∧ DenL S0 H ls (es.map (leafT l))
  ok : ∀ e ∈ es, TbOk l e.2 ∧ e.2.length ≤ 62 ∧ txtOk (S e.1) = true
  sz : l ≤ 16 ∧ es.length ≤ 300
  ne : t ≠ b ∧ t ≠ v ∧ b ≠ v
section
variable {K : PySem.W.Frag} {CK CT : Addr} {S0 : Sys} {H H' : Hp} {p : Addr} {l : Nat} {t b v : Addr} {es : List En}
theorem KpAt.ext (G : S0.Good K) (h : KpAt CK CT S0 H p l t b v es) (x : Ext H H') : KpAt CK CT S0 H' p l t b v es := by
  obtain ⟨⟨dx, h1⟩, h2, ⟨qs, h3, h4, h5⟩, ⟨ls, h6, h7⟩, h8, h9, h10⟩ := h
  refine ⟨⟨dx, x.ins h1⟩, x.lst h2, ⟨qs, x.lst h3, h4, fun i q e a c => ?_⟩, ⟨ls, x.lst h6, h7.mono G x.gr⟩, h8, h9, h10⟩
  obtain ⟨d, kv, g1, g2⟩ := h5 i q e a c
  exact ⟨d, kv, g1, g2.ext x⟩
theorem KpAt.extM {M : List Addr} (G : S0.Good K) (h : KpAt CK CT S0 H p l t b v es) (x : ExtM M H H') (ht : t ∉ M) (hb : b ∉ M) (hv : v ∉ M) : KpAt CK CT S0 H' p l t b v es := by
  obtain ⟨⟨dx, h1⟩, h2, ⟨qs, h3, h4, h5⟩, ⟨ls, h6, h7⟩, h8, h9, h10⟩ := h
  refine ⟨⟨dx, x.ins h1⟩, x.lst ht h2, ⟨qs, x.lst hb h3, h4, fun i q e a c => ?_⟩, ⟨ls, x.lst hv h6, h7.mono G x.gr⟩, h8, h9, h10⟩
  obtain ⟨d, kv, g1, g2⟩ := h5 i q e a c
  exact ⟨d, kv, g1, g2.extM x⟩
end
/-- a size asked: left out, or a number -/
def szV : Option Int → V
  | none => .non
  | some i => .int i
def cntOf (n : Nat) : Option Int → Option Nat
  | none => some n
  | some i => if 0 ≤ i ∧ i ≤ (n : Int) then some i.toNat else none
theorem cnt_le {n k : Nat} {sz : Option Int} (h : cntOf n sz = some k) : k ≤ n := by
  cases sz with
  | none => cases h; exact Nat.le_refl _
  | some i =>
    have h : (if 0 ≤ i ∧ i ≤ (n : Int) then some i.toNat else none) = some k := h
    by_cases c : 0 ≤ i ∧ i ≤ (n : Int)
    · rw [if_pos c] at h
      cases h
      omega
    · rw [if_neg c] at h
      cases h

section
variable {P : Program} {w : World} {K : PySem.W.Frag} {mg : Str → Option Value} {base : Heap} {Fam : Sys → Prop} {CK CT : Addr}
theorem kno {f : Addr} {l : Int} {t b v : Addr} (m : Str) (h : m ∈ (["add", "size", "first", "within", "text", "table_head", "head", "path", "growth", "way", "paper"] : List Str) := by decide +kernel) : (kpF f l t b v).lookup m = none := kpF_no f l t b v m h
/-- the count of entries -/
def spKSize (CK CT : Addr) (Fam : Sys → Prop) : Sp := fun vs H Q _ => ∃ (S0 : Sys) (p : Addr) (l : Nat) (t b v : Addr) (es : List En), Fam S0 ∧ vs = [.ref p] ∧ KpAt CK CT S0 H p l t b v es ∧ Q (.int (es.length : Int)) H
theorem ok_ksize {cc : Addr} (T : Txt K mg cc) (KK : K_Keeper K mg CK) : Met P w K mg base 1 CK "size" (spKSize CK CT Fam) [] := by
  have Z := T.Z
  refine met_of KK.cl KK.m_size sc_Keeper_size (fun vs H Q E h => ?_) (fun f cdv A' outer s H vs Q E hr h => ?_)
  · obtain ⟨S0, p, l, t, b, v, es, _, rfl, _⟩ := h
    rfl
  obtain ⟨S0, p, l, t, b, v, es, hF, rfl, hk, q⟩ := h
  obtain ⟨dx, hp⟩ := hk.at_
  refine ⟨_, (pss_one (ps_ret (pe_callB call_len_seq rfl Z.len PySem.boot_len (pa_cons (pe_fld (pv 0) rfl) pa_nil)))), ?_⟩
  refine ⟨_, rfl, p, CK, dx, _, _, rfl, hp, KK.cl, KK.n_texts, (kpF_at _ _ _ _ _).2.2.1, t, _, rfl, .inl (SqL.of hk.tx), ?_⟩
  rw [List.length_map]
  exact q
def spFirst (mg : Str → Option Value) (CK CT : Addr) (Fam : Sys → Prop) : Sp := fun vs H Q E => ∃ (S0 : Sys) (p : Addr) (l : Nat) (t b v : Addr) (es : List En) (sz : Option Int) (r : Nat), Fam S0 ∧ vs = [.ref p, szV sz] ∧ KpAt CK CT S0 H p l t b v es ∧ S0.ok H r ∧
  (∀ k, cntOf es.length sz = some k → ∀ q ys H', Ext H H' → Kp H H' → H q = none → H' q = some (.lst ys) → DenL S0 H' ys ((es.map (leafT l)).take k) → Q (.ref q) H') ∧
  (cntOf es.length sz = none → ∀ D, mg "NoPlace" = some (.ref D) → E (.ref D) none H)
theorem ok_first {cc : Addr} (T : Txt K mg cc) (A : SlA P w K mg base Fam) (KK : K_Keeper K mg CK) : MetR P w K mg base 1 CK "first" (spFirst mg CK CT Fam) := by
  have Z := T.Z
  obtain ⟨C_NoPlace, g_NoPlace, F_NoPlace⟩ := T.x_NoPlace.ex
  refine metR_of KK.cl KK.m_first sc_Keeper_first (fun vs H Q E h => ?_) (fun f cdv A' outer s H vs Q E hr h => ?_)
  · obtain ⟨S0, p, l, t, b, v, es, sz, r, _, rfl, _⟩ := h
    rfl
  obtain ⟨S0, p, l, t, b, v, es, sz, r, hF, rfl, hk, hok, q1, q2⟩ := h
  have G := A.good hF
  obtain ⟨dx, hp⟩ := hk.at_
  obtain ⟨ls, hv, hls⟩ := hk.lv
  have hll := hls.len
  rw [List.length_map] at hll
  refine ⟨_, (pss_cons (ps_if (pt_cmpR op_isN (pv 1) pe_non (nomark _)) (pss_one (ps_ret (pe_callTy call_list_of rfl Z.list (by decide +kernel) (pa_cons (pe_fld (pv 0) rfl) pa_nil)))) pss_nil)
  (pss_cons (ps_if (pt_not (pt_chain op_le op_le pe_int (pv 1) (pe_callB call_len_seq rfl Z.len PySem.boot_len (pa_cons (pe_fld (pv 0) rfl) pa_nil)))) (pss_one (ps_raiseX F_NoPlace g_NoPlace rfl (takes_of rfl rfl rfl rfl) rfl)) pss_nil)
  (pss_one (ps_ret (pe_slice sl_list (pe_fld (pv 0) rfl) po_none (po_some (pv 1))))))), ?_⟩
  have kf := kpF_at S0.f (l : Int) t b v
  cases sz with
  | none =>
    refine ⟨_, rfl, rfl, _, rfl, iteT ?_⟩
    refine ⟨_, rfl, p, CK, dx, _, _, rfl, hp, KK.cl, KK.n_leaves, kf.2.2.2.2, v, ls, rfl, .inl (SqL.of hv), fun q nq => ?_⟩
    refine q1 _ rfl q ls _ (Ext.new nq) (Kp.new nq) nq upd_same ?_
    rw [List.take_of_length_le (by rw [List.length_map]; exact Nat.le_refl _)]
    exact hls.mono G (Kp.new nq).gr
  | some i =>
    refine ⟨_, rfl, rfl, _, rfl, iteF ?_⟩
    have bad : ¬ (0 ≤ i ∧ i ≤ (es.length : Int)) → cntOf es.length (some i) = none := fun h => if_neg h
    refine ⟨_, rfl, _, _, rfl, rfl, _, rfl, ite2 (fun c => ?_) (fun c => ?_)⟩
    · have c' : (0 : Int) ≤ i := of_decide_eq_true c
      refine ⟨_, rfl, p, CK, dx, _, _, rfl, hp, KK.cl, KK.n_leaves, kf.2.2.2.2, v, ls, rfl, .inl (SqL.of hv), _, _, rfl, rfl, _, rfl, ?_⟩
      rw [hll]
      by_cases c2 : i ≤ (es.length : Int)
      · rw [decide_eq_true c2]
        refine iteF ?_
        refine ⟨_, rfl, p, CK, dx, _, _, rfl, hp, KK.cl, KK.n_leaves, kf.2.2.2.2, _, rfl, i, rfl, v, ls, rfl, SqL.of hv, fun q nq => ?_⟩
        obtain ⟨n, rfl⟩ := Int.eq_ofNat_of_zero_le c'
        rw [cut_to]
        refine q1 n ?_ q _ _ (Ext.new nq) (Kp.new nq) nq upd_same ((hls.take n).mono G (Kp.new nq).gr)
        show (if 0 ≤ (n : Int) ∧ (n : Int) ≤ (es.length : Int) then some ((n : Int)).toNat else none) = some n
        rw [if_pos ⟨c', c2⟩, Int.toNat_natCast]
      · rw [decide_eq_false c2]
        exact iteT (q2 (bad fun z => c2 z.2) _ g_NoPlace)
    · have c' : ¬ (0 : Int) ≤ i := of_decide_eq_false (Bool.eq_false_iff.mpr c)
      exact ⟨_, rfl, iteT (q2 (bad fun z => c' z.1) _ g_NoPlace)⟩
def spWithin (mg : Str → Option Value) : Sp := fun vs H Q E => ∃ (x : V) (i n : Int), vs = [x, .int i, .int n] ∧ (0 ≤ i ∧ i < n → Q .non H) ∧ (¬ (0 ≤ i ∧ i < n) → ∀ D, mg "NoPlace" = some (.ref D) → E (.ref D) none H)
theorem ok_within {cc : Addr} (T : Txt K mg cc) (KK : K_Keeper K mg CK) : MetR P w K mg base 1 CK "within" (spWithin mg) := by
  have Z := T.Z
  obtain ⟨C_NoPlace, g_NoPlace, F_NoPlace⟩ := T.x_NoPlace.ex
  refine metR_of KK.cl KK.m_within sc_Keeper_within (fun vs H Q E h => ?_) (fun f cdv A' outer s H vs Q E hr h => ?_)
  · obtain ⟨x, i, n, rfl, _⟩ := h
    rfl
  obtain ⟨x, i, n, rfl, q1, q2⟩ := h
  refine ⟨_, (pss_one (ps_if (pt_not (pt_chain op_le op_lt pe_int (pv 1) (pv 2))) (pss_one (ps_raiseX F_NoPlace g_NoPlace rfl (takes_of rfl rfl rfl rfl) rfl)) pss_nil)), ?_⟩
  refine ⟨_, rfl, _, _, rfl, rfl, _, rfl, ite2 (fun c => ?_) (fun c => ?_)⟩
  · have c' : (0 : Int) ≤ i := of_decide_eq_true c
    refine ⟨_, rfl, _, _, rfl, rfl, _, rfl, ?_⟩
    by_cases c2 : i < n
    · rw [decide_eq_true c2]
      exact iteF (q1 ⟨c', c2⟩)
    · rw [decide_eq_false c2]
      exact iteT (q2 (fun z => c2 z.2) _ g_NoPlace)
  · have c' : ¬ (0 : Int) ≤ i := of_decide_eq_false (Bool.eq_false_iff.mpr c)
    exact ⟨_, rfl, iteT (q2 (fun z => c' z.1) _ g_NoPlace)⟩
end

section
variable {P : Program} {w : World} {K : PySem.W.Frag} {mg : Str → Option Value} {base : Heap} {Fam : Sys → Prop} {CK CT : Addr}
def spKText (mg : Str → Option Value) (CK CT : Addr) (Fam : Sys → Prop) : Sp := fun vs H Q E => ∃ (S0 : Sys) (p : Addr) (l : Nat) (t b v : Addr) (es : List En) (i : Int), Fam S0 ∧ vs = [.ref p, .int i] ∧ KpAt CK CT S0 H p l t b v es ∧
  (∀ (n : Nat) e, i = (n : Int) → es[n]? = some e → Q (.str (S e.1)) H) ∧ (¬ (0 ≤ i ∧ i < (es.length : Int)) → ∀ D, mg "NoPlace" = some (.ref D) → E (.ref D) none H)
theorem get_in {α : Type} {es : List α} {i : Int} (h : 0 ≤ i ∧ i < (es.length : Int)) : ∃ (n : Nat) (e : α), i = (n : Int) ∧ es[n]? = some e := by
  obtain ⟨n, rfl⟩ := Int.eq_ofNat_of_zero_le h.1
  exact ⟨n, es[n]'(by omega), rfl, List.getElem?_eq_getElem _⟩
theorem ok_ktext {cc : Addr} (T : Txt K mg cc) (KK : K_Keeper K mg CK) : MetR P w K mg base 2 CK "text" (spKText mg CK CT Fam) := by
  have Z := T.Z
  have M_within := ok_within (P := P) (w := w) (base := base) T KK
  refine metR_of KK.cl KK.m_text sc_Keeper_text (fun vs H Q E h => ?_) (fun f cdv A' outer s H vs Q E hr h => ?_)
  · obtain ⟨S0, p, l, t, b, v, es, i, _, rfl, _⟩ := h
    rfl
  obtain ⟨S0, p, l, t, b, v, es, i, hF, rfl, hk, q1, q2⟩ := h
  obtain ⟨dx, hp⟩ := hk.at_
  have kf := kpF_at S0.f (l : Int) t b v
  refine ⟨_, (pss_cons (ps_expr (pe_mtx M_within (takes_of rfl rfl rfl rfl) hr (by omega) (pv 0) (pa_cons (pv 1) (pa_cons (pe_callB call_len_seq rfl Z.len PySem.boot_len (pa_cons (pe_fld (pv 0) rfl) pa_nil)) pa_nil))))
  (pss_one (ps_ret (pe_ix ix_list (pe_fld (pv 0) rfl) (pv 1) (fun _ _ => rfl))))), ?_⟩
  refine ⟨_, rfl, p, dx, _, rfl, hp, kno "within", _, rfl, _, rfl, p, CK, dx, _, _, rfl, hp, KK.cl, KK.n_texts, kf.2.2.1, t, _, rfl, .inl (SqL.of hk.tx), .ref p, i, _, rfl, fun hin => ?_, fun hout D hD => q2 (by rw [List.length_map] at hout; exact hout) D hD⟩
  rw [List.length_map] at hin
  obtain ⟨n, e, rfl, he⟩ := get_in hin
  exact ⟨_, rfl, p, CK, dx, _, _, rfl, hp, KK.cl, KK.n_texts, kf.2.2.1, _, rfl, t, _, _, _, rfl, rfl, SqL.of hk.tx, atI_nat (by rw [List.getElem?_map, he]; rfl), q1 n e rfl he⟩
def spKTHead (mg : Str → Option Value) (CK CT : Addr) (Fam : Sys → Prop) : Sp := fun vs H Q E => ∃ (S0 : Sys) (p : Addr) (l : Nat) (t b v : Addr) (es : List En) (i : Int) (r : Nat), Fam S0 ∧ vs = [.ref p, .int i] ∧ KpAt CK CT S0 H p l t b v es ∧ S0.ok H (r + 2080) ∧
  (∀ (n : Nat) e, i = (n : Int) → es[n]? = some e → ∀ u H', Ext H H' → S0.ok H' r → S0.den H' u (headT l e.2) → Q u H') ∧ (¬ (0 ≤ i ∧ i < (es.length : Int)) → ∀ D, mg "NoPlace" = some (.ref D) → E (.ref D) none H)
theorem ok_kthead {cc : Addr} (T : Txt K mg cc) (A : SlA P w K mg base Fam) (KT : K_Table K mg CT) (KK : K_Keeper K mg CK) : MetR P w K mg base 26 CK "table_head" (spKTHead mg CK CT Fam) := by
  have Z := T.Z
  have M_within := ok_within (P := P) (w := w) (base := base) T KK
  have M_head := ok_thead T A KT
  refine metR_of KK.cl KK.m_table_head sc_Keeper_table_head (fun vs H Q E h => ?_) (fun f cdv A' outer s H vs Q E hr h => ?_)
  · obtain ⟨S0, p, l, t, b, v, es, i, r, _, rfl, _⟩ := h
    rfl
  obtain ⟨S0, p, l, t, b, v, es, i, r, hF, rfl, hk, hok, q1, q2⟩ := h
  have G := A.good hF
  obtain ⟨dx, hp⟩ := hk.at_
  obtain ⟨qs, hb, hql, hq⟩ := hk.tb
  have kf := kpF_at S0.f (l : Int) t b v
  refine ⟨_, (pss_cons (ps_expr (pe_mtx M_within (takes_of rfl rfl rfl rfl) hr (by omega) (pv 0) (pa_cons (pv 1) (pa_cons (pe_callB call_len_seq rfl Z.len PySem.boot_len (pa_cons (pe_fld (pv 0) rfl) pa_nil)) pa_nil))))
  (pss_one (ps_ret (pe_mt0 M_head hr (by omega) (pe_ix ix_list (pe_fld (pv 0) rfl) (pv 1) (fun _ _ => rfl)))))), ?_⟩
  refine ⟨_, rfl, p, dx, _, rfl, hp, kno "within", _, rfl, _, rfl, p, CK, dx, _, _, rfl, hp, KK.cl, KK.n_texts, kf.2.2.1, t, _, rfl, .inl (SqL.of hk.tx), .ref p, i, _, rfl, fun hin => ?_, fun hout D hD => q2 (by rw [List.length_map] at hout; exact hout) D hD⟩
  rw [List.length_map] at hin
  obtain ⟨n, e, rfl, he⟩ := get_in hin
  have hn := (List.getElem?_eq_some_iff.mp he).1
  have hqn : qs[n]? = some (qs[n]'(by omega)) := List.getElem?_eq_getElem _
  generalize qs[n]'(by omega) = qn at hqn
  obtain ⟨d, kv, pm, tb⟩ := hq n qn e hqn he
  obtain ⟨⟨dx', hp'⟩, _, _⟩ := id tb
  obtain ⟨hke, hkl, _⟩ := hk.ok e (List.mem_of_getElem? he)
  have cp := costP_le hk.sz.1 (show kv.length ≤ 63 by rw [pm.length_eq]; omega)
  refine ⟨_, rfl, p, CK, dx, _, _, rfl, hp, KK.cl, KK.n_tables, kf.2.2.2.1, _, rfl, b, _, _, _, rfl, rfl, SqL.of hb, atI_nat (by rw [List.getElem?_map, hqn]; rfl), qn, dx', _, rfl, hp', (tbF_no _ _ _).2.2.2.2.2.1, S0, qn, d, l, kv, r, hF, rfl, tb, hke.perm pm, by have := hk.sz.1; omega, G.less hok (by omega), fun u rows H' x ok pr pw du => ?_⟩
  rw [srt_eq hke pm pr pw] at du
  exact q1 n e rfl he u H' x ok du
def spKHead (mg : Str → Option Value) (CK CT : Addr) (Fam : Sys → Prop) : Sp := fun vs H Q E => ∃ (S0 : Sys) (p : Addr) (l : Nat) (t b v : Addr) (es : List En) (sz : Option Int) (r : Nat), Fam S0 ∧ vs = [.ref p, szV sz] ∧ KpAt CK CT S0 H p l t b v es ∧ S0.ok H (r + 320) ∧
  (∀ k, cntOf es.length sz = some k → ∀ u H', Ext H H' → S0.ok H' r → S0.den H' u (.sl "book" (.int (k : Int)) (topT ((es.map (leafT l)).take k))) → Q u H') ∧
  (cntOf es.length sz = none → ∀ D, mg "NoPlace" = some (.ref D) → E (.ref D) none H)
theorem khead_body {cc : Addr} (T : Txt K mg cc) (A : SlA P w K mg base Fam) (KK : K_Keeper K mg CK) : ∀ (f : Addr) (cdv : Value) (A' : Around) (outer : List Env) (s : Shared) (H : Hp) (vs : List V) (Q : VK) (E : XK), Room 16 (A'.deeper (envOfC "Keeper.head" (defScope s_Keeper_head) s.heap.objs.size f cdv)) → spKHead mg CK CT Fam vs H Q E →
      ∃ t, PSs (cxOf (L2.CX P w) P w K mg base N_Keeper_head "Keeper.head" (defScope s_Keeper_head) f cdv A' outer s H E) (defBody s_Keeper_head) t ∧ t { nx := fun _ H' => Q .non H', rt := Q } (start N_Keeper_head vs) H := by
  intro f cdv A' outer s H vs Q E hr h
  have Z := T.Z
  have M_first := ok_first (CT := CT) T A KK
  have C_top_of := ok_top_of T A 10
  have C_book_seal := ok_book_seal T A
  obtain ⟨S0, p, l, t, b, v, es, sz, r, hF, rfl, hk, hok, q1, q2⟩ := h
  have G := A.good hF
  obtain ⟨dx, hp⟩ := hk.at_
  have kf := kpF_at S0.f (l : Int) t b v
  refine ⟨_, (pss_cons (ps_set (i := 2) sc_Keeper_head.nd rfl (Or.inl rfl) (pe_mtx M_first (takes_of rfl rfl rfl rfl) hr (by omega) (pv 0) (pa_cons (pv 1) pa_nil)))
  (pss_one (ps_ret (pe_c C_book_seal hr (by omega) rfl (pa_cons (pe_fld (pv 0) rfl) (pa_cons (pe_callB call_len_seq rfl Z.len PySem.boot_len (pa_cons (pv 2) pa_nil)) (pa_cons (pe_c C_top_of hr (by omega) rfl (pa_cons (pe_fld (pv 0) rfl) (pa_cons (pv 2) pa_nil))) pa_nil))))))), ?_⟩
  refine ⟨_, rfl, p, dx, _, rfl, hp, kno "first", _, rfl, S0, p, l, t, b, v, es, sz, _, hF, rfl, hk, hok, fun k hc q ys H1 x1 k1 nq hq hd => ?_, q2⟩
  have hle := cnt_le hc
  have hl := hd.len
  rw [List.length_take, List.length_map] at hl
  have h20 := hk.sz.2
  have hp1 := x1.ins hp
  have ct := costT_le k
  refine ⟨_, rfl, p, CK, dx, _, _, rfl, hp1, KK.cl, KK.n_seal, kf.1, _, rfl, q, ys, rfl, .inl (SqL.of hq), _, rfl, p, CK, dx, _, _, rfl, hp1, KK.cl, KK.n_seal, kf.1, _, rfl, S0, q, ys, _, r + 1, hF, rfl, SqL.of hq, hd, by decide, by rw [List.length_take, List.length_map]; show _ ≤ 512; omega, by rw [List.length_take, List.length_map]; omega, ?_, fun u H2 x2 ok2 d2 => ?_⟩
  · rw [List.length_take, List.length_map, Nat.min_eq_left hle]
    exact G.less (G.keep k1 hok) (by omega)
  · refine ⟨S0, .int (ys.length : Int), u, .int (ys.length : Int), _, r, hF, rfl, ok2, G.int _ ok2, d2, fun u2 H3 x3 ok3 d3 => q1 k hc u2 H3 ((x1.trans x2).trans x3) ok3 ?_⟩
    rw [hl, Nat.min_eq_left hle] at d3
    exact d3
theorem ok_khead {cc : Addr} (T : Txt K mg cc) (A : SlA P w K mg base Fam) (KK : K_Keeper K mg CK) : MetRD P w K mg base 17 CK "head" (spKHead mg CK CT Fam) [] :=
  metRD_of 2 1 KK.cl KK.m_head (by simp) rfl (fun T kV doc pm an cdv ct us its hu hi => match us, its, hu, hi with | [_, _], [_], _, _ => ⟨_, rfl, rfl⟩) sc_Keeper_head (fun vs H Q E h => by obtain ⟨S0, p, l, t, b, v, es, sz, r, _, rfl, _⟩ := h; rfl) (khead_body T A KK)
theorem ok_khead0 {cc : Addr} (T : Txt K mg cc) (A : SlA P w K mg base Fam) (KK : K_Keeper K mg CK) : MetRD P w K mg base 17 CK "head" (spKHead mg CK CT Fam) [.non] :=
  metRD_of 1 0 KK.cl KK.m_head (by simp) rfl (fun T kV doc pm an cdv ct us its hu hi => match us, its, hu, hi with | [_], [_], _, _ => ⟨_, rfl, rfl⟩) sc_Keeper_head (fun vs H Q E h => by obtain ⟨S0, p, l, t, b, v, es, sz, r, _, rfl, _⟩ := h; rfl) (khead_body T A KK)
end

/-! ### paths -/
def plen (place n : Nat) : Nat :=
  if h : n < 2 then 0 else if place < splitN n then plen place (splitN n) + 1 else plen (place - splitN n) (n - splitN n) + 1
termination_by n
decreasing_by
  · exact splitN_lt (by omega)
  · have := splitN_pos n
    omega
theorem plen_one {place n : Nat} (h : n < 2) : plen place n = 0 := by rw [plen, dif_pos h]
theorem plen_low {place n : Nat} (h : 2 ≤ n) (hp : place < splitN n) : plen place n = plen place (splitN n) + 1 := by rw [plen, dif_neg (by omega), if_pos hp]
theorem plen_high {place n : Nat} (h : 2 ≤ n) (hp : ¬ place < splitN n) : plen place n = plen (place - splitN n) (n - splitN n) + 1 := by rw [plen, dif_neg (by omega), if_neg hp]
theorem plen_le : ∀ (k place n : Nat), n ≤ 2 ^ k → plen place n ≤ k
  | k, place, n, h => by
    by_cases h2 : n < 2
    · rw [plen_one h2]
      exact Nat.zero_le _
    · cases k with
      | zero => simp at h; omega
      | succ k =>
        obtain ⟨a, b⟩ := splitN_le_pow (show 2 ≤ n by omega) h
        by_cases hp : place < splitN n
        · rw [plen_low (by omega) hp]
          have := plen_le k place (splitN n) a
          omega
        · rw [plen_high (by omega) hp]
          have := plen_le k (place - splitN n) (n - splitN n) b
          omega
def pathT (ts : List Tm) (place : Nat) : List Tm :=
  if h : ts.length < 2 then [] else
    if place < splitN ts.length then pathT (ts.take (splitN ts.length)) place ++ [topT (ts.drop (splitN ts.length))]
    else pathT (ts.drop (splitN ts.length)) (place - splitN ts.length) ++ [topT (ts.take (splitN ts.length))]
termination_by ts.length
decreasing_by
  · rw [List.length_take]
    have := splitN_lt (n := ts.length) (by omega)
    omega
  · rw [List.length_drop]
    have := splitN_pos ts.length
    omega
theorem pathT_one {ts : List Tm} {place : Nat} (h : ts.length < 2) : pathT ts place = [] := by rw [pathT, dif_pos h]
theorem pathT_low {ts : List Tm} {place : Nat} (h : 2 ≤ ts.length) (hp : place < splitN ts.length) : pathT ts place = pathT (ts.take (splitN ts.length)) place ++ [topT (ts.drop (splitN ts.length))] := by
  rw [pathT, dif_neg (by omega), if_pos hp]
theorem pathT_high {ts : List Tm} {place : Nat} (h : 2 ≤ ts.length) (hp : ¬ place < splitN ts.length) : pathT ts place = pathT (ts.drop (splitN ts.length)) (place - splitN ts.length) ++ [topT (ts.take (splitN ts.length))] := by
  rw [pathT, dif_neg (by omega), if_neg hp]
theorem pathT_len (ts : List Tm) (place : Nat) : (pathT ts place).length = plen place ts.length := by
  by_cases h : ts.length < 2
  · rw [pathT_one h, plen_one h]
    rfl
  · have hs := splitN_lt (n := ts.length) (by omega)
    have hs0 := splitN_pos ts.length
    have e1 : (ts.take (splitN ts.length)).length = splitN ts.length := by
      rw [List.length_take]
      omega
    have e2 : (ts.drop (splitN ts.length)).length = ts.length - splitN ts.length := List.length_drop
    by_cases hp : place < splitN ts.length
    · rw [pathT_low (by omega) hp, plen_low (by omega) hp, List.length_append, pathT_len, e1]
      rfl
    · rw [pathT_high (by omega) hp, plen_high (by omega) hp, List.length_append, pathT_len, e2]
      rfl
termination_by ts.length
decreasing_by
  · rw [List.length_take]; omega
  · rw [List.length_drop]; omega
theorem pathT_mem {ts : List Tm} {place : Nat} {P : Tm → Prop} (hp : ∀ us : List Tm, (∀ t ∈ us, t ∈ ts) → us.length ≤ ts.length → P (topT us)) : ∀ t ∈ pathT ts place, P t := by
  intro t ht
  rw [pathT] at ht
  split at ht
  · cases ht
  · rename_i h
    have hs := splitN_lt (n := ts.length) (by omega)
    have hs0 := splitN_pos ts.length
    split at ht
    · rcases List.mem_append.mp ht with h1 | h1
      · exact pathT_mem (fun us hu hl => hp us (fun t h => List.mem_of_mem_take (hu t h)) (by rw [List.length_take] at hl; omega)) t h1
      · rw [List.mem_singleton.mp h1]
        exact hp _ (fun t h => List.mem_of_mem_drop h) (by rw [List.length_drop]; omega)
    · rcases List.mem_append.mp ht with h1 | h1
      · exact pathT_mem (fun us hu hl => hp us (fun t h => List.mem_of_mem_drop (hu t h)) (by rw [List.length_drop] at hl; omega)) t h1
      · rw [List.mem_singleton.mp h1]
        exact hp _ (fun t h => List.mem_of_mem_take h) (by rw [List.length_take]; omega)
termination_by ts.length
decreasing_by
  · rw [List.length_drop]; omega
  · rw [List.length_take]; omega
/-- a path is asked -/
def spPath (K : PySem.W.Frag) (Fam : Sys → Prop) (k : Nat) : Sp := fun vs H Q _ => ∃ (S : Sys) (a : Addr) (xs : List V) (ts : List Tm) (place r : Nat), Fam S ∧ vs = [.ref S.f, .ref a, .int (place : Int)] ∧ SqL K H a xs ∧ DenL S H xs ts ∧ k ≠ 0 ∧ ts.length ≤ 2 ^ (k - 1) ∧ ts.length ≤ 1000 ∧ place < ts.length ∧ S.ok H (r + costT ts.length) ∧
  ∀ p ys H', Ext H H' → H p = none → H' p = some (.lst ys) → S.ok H' r → DenL S H' ys (pathT ts place) → Q (.ref p) H'
/-! ### what a leaf and a path come to -/
/-- the tops by the way from above, and whether the place lies in the first part -/
def sidesT (place n : Nat) (path : List Tm) : List (Tm × Bool) :=
  if h : n < 2 then [] else
    if place < splitN n then (path.getLastD nonT, true) :: sidesT place (splitN n) path.dropLast
    else (path.getLastD nonT, false) :: sidesT (place - splitN n) (n - splitN n) path.dropLast
termination_by n
decreasing_by
  · exact splitN_lt (by omega)
  · have := splitN_pos n
    omega
theorem sidesT_one {place n : Nat} {path : List Tm} (h : n < 2) : sidesT place n path = [] := by rw [sidesT, dif_pos h]
theorem sidesT_low {place n : Nat} {path : List Tm} (h : 2 ≤ n) (hp : place < splitN n) : sidesT place n path = (path.getLastD nonT, true) :: sidesT place (splitN n) path.dropLast := by rw [sidesT, dif_neg (by omega), if_pos hp]
theorem sidesT_high {place n : Nat} {path : List Tm} (h : 2 ≤ n) (hp : ¬ place < splitN n) : sidesT place n path = (path.getLastD nonT, false) :: sidesT (place - splitN n) (n - splitN n) path.dropLast := by rw [sidesT, dif_neg (by omega), if_neg hp]
def stepT (s : Tm × Bool) (t : Tm) : Tm := if s.2 = true then pairT t s.1 else pairT s.1 t
def riseT (leaf : Tm) (ss : List (Tm × Bool)) : Tm := ss.foldr stepT leaf
theorem riseT_cons (leaf : Tm) (s : Tm × Bool) (ss : List (Tm × Bool)) : riseT leaf (s :: ss) = stepT s (riseT leaf ss) := rfl
theorem sidesT_len (place n : Nat) (path : List Tm) : (sidesT place n path).length = plen place n := by
  by_cases h : n < 2
  · rw [sidesT_one h, plen_one h]
    rfl
  · have hs := splitN_lt (n := n) (by omega)
    have hs0 := splitN_pos n
    by_cases hp : place < splitN n
    · rw [sidesT_low (by omega) hp, plen_low (by omega) hp, List.length_cons, sidesT_len]
    · rw [sidesT_high (by omega) hp, plen_high (by omega) hp, List.length_cons, sidesT_len]
termination_by n
theorem getLastD_concat {α : Type} (l : List α) (x d : α) : (l ++ [x]).getLastD d = x := by
  rw [List.getLastD_eq_getLast?, List.getLast?_concat]
  rfl
/-- the way of a leaf of a row, by its own path, comes to the row's top -/
theorem rise_path (ts : List Tm) (place : Nat) (h : place < ts.length) : riseT (ts.getD place nonT) (sidesT place ts.length (pathT ts place)) = topT ts := by
  by_cases h2 : ts.length < 2
  · rw [sidesT_one h2, topT_single (by omega), show place = 0 by omega]
    rfl
  · have hs := splitN_lt (n := ts.length) (by omega)
    have hs0 := splitN_pos ts.length
    have e1 : (ts.take (splitN ts.length)).length = splitN ts.length := by
      rw [List.length_take]
      omega
    have e2 : (ts.drop (splitN ts.length)).length = ts.length - splitN ts.length := List.length_drop
    by_cases hp : place < splitN ts.length
    · rw [pathT_low (by omega) hp, sidesT_low (by omega) hp, getLastD_concat, List.dropLast_concat, topT_more (ts := ts) (by omega)]
      rw [riseT_cons]
      have ih := rise_path (ts.take (splitN ts.length)) place (by omega)
      rw [e1] at ih
      have eg : (ts.take (splitN ts.length)).getD place nonT = ts.getD place nonT := by
        rw [List.getD_eq_getElem?_getD, List.getD_eq_getElem?_getD, List.getElem?_take_of_lt hp]
      rw [eg] at ih
      rw [ih]
      rfl
    · rw [pathT_high (by omega) hp, sidesT_high (by omega) hp, getLastD_concat, List.dropLast_concat, topT_more (ts := ts) (by omega)]
      rw [riseT_cons]
      have ih := rise_path (ts.drop (splitN ts.length)) (place - splitN ts.length) (by omega)
      rw [e2] at ih
      have eg : (ts.drop (splitN ts.length)).getD (place - splitN ts.length) nonT = ts.getD place nonT := by
        rw [List.getD_eq_getElem?_getD, List.getD_eq_getElem?_getD, List.getElem?_drop, show splitN ts.length + (place - splitN ts.length) = place by omega]
      rw [eg] at ih
      rw [ih]
      rfl
termination_by ts.length

section
variable {P : Program} {w : World} {K : PySem.W.Frag} {mg : Str → Option Value} {base : Heap} {Fam : Sys → Prop}
theorem ok_path_of1 {cc : Addr} {k j : Nat} (T : Txt K mg cc) (A : SlA P w K mg base Fam) (C_split : Cal P w K mg base 1 "split" spSplit []) (C_top_of : ∀ k, Cal P w K mg base (k + j) "top_of" (spTop K Fam k) []) (C_path_of : Cal P w K mg base (k + j + 1) "path_of" (spPath K Fam k) []) : Cal P w K mg base (k + j + 2) "path_of" (spPath K Fam (k + 1)) [] := by
  have Z := T.Z
  have C_top_of := C_top_of (k + 1)
  refine cal_of T.d_path_of sc_path_of (fun vs H Q E h => ?_) (fun f cdv A' outer s H vs Q E hr h => ?_)
  · obtain ⟨S, a, xs, ts, old, r, _, rfl, _⟩ := h
    rfl
  obtain ⟨S, a, xs, ts, place, r, hF, rfl, hS, hD, _, hk, hl, ho, hok, q⟩ := h
  have hlen := hD.len
  have G := A.good hF
  refine ⟨_, (pss_cons (ps_if (pt_cmpR op_eq (pe_callB call_len_seq rfl Z.len PySem.boot_len (pa_cons (pv 1) pa_nil)) pe_int (nomark _)) (pss_one (ps_ret (pe_lst pa_nil))) pss_nil)
  (pss_cons (ps_set (i := 3) sc_path_of.nd rfl (Or.inl rfl) (pe_c C_split hr (by omega) rfl (pa_cons (pe_callB call_len_seq rfl Z.len PySem.boot_len (pa_cons (pv 1) pa_nil)) pa_nil)))
  (pss_cons (ps_if (pt_cmpR op_lt (pv 2) (pv 3) (nomark _)) (pss_one (ps_ret (pe_op op_cat (pe_c C_path_of hr (by omega) rfl (pa_cons (pv 0) (pa_cons (pe_slice sl_list (pv 1) po_none (po_some (pv 3))) (pa_cons (pv 2) pa_nil)))) (pe_lst (pa_cons (pe_c C_top_of hr (by omega) rfl (pa_cons (pv 0) (pa_cons (pe_slice sl_list (pv 1) (po_some (pv 3)) po_none) pa_nil))) pa_nil))))) pss_nil)
  (pss_one (ps_ret (pe_op op_cat (pe_c C_path_of hr (by omega) rfl (pa_cons (pv 0) (pa_cons (pe_slice sl_list (pv 1) (po_some (pv 3)) po_none) (pa_cons (pe_op op_sub (pv 2) (pv 3)) pa_nil)))) (pe_lst (pa_cons (pe_c C_top_of hr (by omega) rfl (pa_cons (pv 0) (pa_cons (pe_slice sl_list (pv 1) po_none (po_some (pv 3))) pa_nil))) pa_nil)))))))), ?_⟩
  -- one leaf
  refine ⟨_, rfl, a, _, rfl, .inl hS, rfl, _, rfl, ite2 (fun c => ?_) (fun c => ?_)⟩
  · have c' : (xs.length : Int) = 1 := V.int.inj (of_decide_eq_true c)
    refine ⟨Nat.zero_le _, fun p hp => ?_⟩
    refine q p [] _ (Ext.new hp) hp upd_same (G.less (G.keep (Kp.new hp) hok) (by omega)) ?_
    rw [pathT_one (by omega)]
    exact DenL.nil
  have n1 : xs.length ≠ 1 := fun z => c (decide_eq_true (by rw [z] <;> rfl))
  have h2 : 2 ≤ ts.length := by omega
  have hsl := splitN_lt h2
  have hsp := splitN_pos ts.length
  have hk1 : ts.length ≤ 2 ^ k := hk
  obtain ⟨k', rfl⟩ : ∃ k', k = k' + 1 := by
    cases k with
    | zero => simp at hk1; omega
    | succ k' => exact ⟨k', rfl⟩
  obtain ⟨b1, b2⟩ := splitN_le_pow h2 hk1
  have hcs := costT_split h2
  have lg := Nat.log2_le_self ts.length
  refine ⟨_, rfl, a, _, rfl, .inl hS, ts.length, by rw [hlen] <;> rfl, h2, by omega, ?_⟩
  have lt1 : (ts.take (splitN ts.length)).length = splitN ts.length := by
    rw [List.length_take]
    omega
  have ld1 : (ts.drop (splitN ts.length)).length = ts.length - splitN ts.length := List.length_drop
  refine ⟨_, rfl, _, rfl, _, _, rfl, rfl, _, rfl, ite2 (fun c => ?_) (fun c => ?_)⟩
  · -- in the first part
    have c' : (place : Int) < ((splitN ts.length : Nat) : Int) := of_decide_eq_true c
    refine ⟨_, rfl, _, rfl, _, rfl, ((splitN ts.length : Nat) : Int), rfl, a, _, rfl, hS, fun p hp => ?_⟩
    rw [cut_to]
    have x1 := Ext.new (o := .lst (xs.take (splitN ts.length))) hp
    have k1 := Kp.new (o := .lst (xs.take (splitN ts.length))) hp
    refine ⟨_, rfl, S, p, _, ts.take (splitN ts.length), place, r + costT (ts.length - splitN ts.length), hF, rfl, SqL.of upd_same, (hD.take _).mono G k1.gr, by omega, ?_, ?_, ?_, ?_, fun p1 ys H1 x2 np1 hp1 ok1 d1 => ?_⟩
    · rw [lt1]
      exact b1
    · omega
    · omega
    · rw [lt1]
      exact G.less (G.keep k1 hok) (by omega)
    have xx := x1.trans x2
    refine ⟨_, rfl, _, rfl, _, rfl, ((splitN ts.length : Nat) : Int), rfl, a, _, rfl, xx.seq hS, fun p2 hp2 => ?_⟩
    rw [cut_from]
    have x3 := Ext.new (o := .lst (xs.drop (splitN ts.length))) hp2
    have k3 := Kp.new (o := .lst (xs.drop (splitN ts.length))) hp2
    refine ⟨S, p2, _, ts.drop (splitN ts.length), r, hF, rfl, SqL.of upd_same, ((hD.drop _).mono G xx.gr).mono G k3.gr, by omega, ?_, ?_, ?_, fun v2 H2 x4 ok2 d2 => ?_⟩
    · rw [ld1]
      exact Nat.le_trans b2 (Nat.pow_le_pow_right (by decide) (by omega))
    · omega
    · rw [ld1]
      exact G.keep k3 ok1
    refine ⟨by show 1 ≤ sizeLine; decide, fun p3 hp3 => ?_⟩
    have e1 : H2 p1 = some (.lst ys) := x4.lst (x3.lst hp1)
    have l1 := d1.len
    rw [pathT_len, lt1] at l1
    have gl := plen_le k' place (splitN ts.length) b1
    have kk : k' ≤ 1000 := by
      have := hr.dp
      have e0 : recursionLimit = 1000 := rfl
      omega
    refine ⟨p1, p3, ys, [v2], rfl, rfl, by rw [upd_ne (ne_of_none e1 hp3)]; exact e1, upd_same, ?_, fun p4 hp4 => ?_⟩
    · rw [l1]
      show _ + 1 ≤ _
      rw [sizeLine_eq]
      omega
    have x5 := (Ext.new (o := .lst [v2]) hp3).trans (Ext.new (o := .lst (ys ++ [v2])) hp4)
    have np4 := (((xx.trans x3).trans x4).free ((Ext.new (o := .lst [v2]) hp3).free hp4))
    refine q p4 _ _ (((xx.trans x3).trans x4).trans x5) np4 upd_same (G.keep ((Kp.new hp3).trans (Kp.new hp4)) ok2) ?_
    rw [pathT_low (by omega) (by omega)]
    exact (d1.mono G ((x3.trans x4).trans x5).gr).append (DenL.one (G.mono x5.gr d2))
  · -- in the rest
    have c' : ¬ (place : Int) < ((splitN ts.length : Nat) : Int) := of_decide_eq_false (Bool.eq_false_iff.mpr c)
    refine ⟨_, rfl, _, rfl, _, rfl, ((splitN ts.length : Nat) : Int), rfl, a, _, rfl, hS, fun p hp => ?_⟩
    rw [cut_from]
    have x1 := Ext.new (o := .lst (xs.drop (splitN ts.length))) hp
    have k1 := Kp.new (o := .lst (xs.drop (splitN ts.length))) hp
    refine ⟨_, rfl, _, rfl, _, _, rfl, rfl, S, p, _, ts.drop (splitN ts.length), place - splitN ts.length, r + costT (splitN ts.length), hF, ?_, SqL.of upd_same, (hD.drop _).mono G k1.gr, by omega, ?_, ?_, ?_, ?_, fun p1 ys H1 x2 np1 hp1 ok1 d1 => ?_⟩
    · rw [show ((place - splitN ts.length : Nat) : Int) = (place : Int) - ((splitN ts.length : Nat) : Int) by omega]
      rfl
    · rw [ld1]
      exact b2
    · omega
    · omega
    · rw [ld1]
      exact G.less (G.keep k1 hok) (by omega)
    have xx := x1.trans x2
    refine ⟨_, rfl, _, rfl, _, rfl, ((splitN ts.length : Nat) : Int), rfl, a, _, rfl, xx.seq hS, fun p2 hp2 => ?_⟩
    rw [cut_to]
    have x3 := Ext.new (o := .lst (xs.take (splitN ts.length))) hp2
    have k3 := Kp.new (o := .lst (xs.take (splitN ts.length))) hp2
    refine ⟨S, p2, _, ts.take (splitN ts.length), r, hF, rfl, SqL.of upd_same, ((hD.take _).mono G xx.gr).mono G k3.gr, by omega, ?_, ?_, ?_, fun v2 H2 x4 ok2 d2 => ?_⟩
    · rw [lt1]
      exact Nat.le_trans b1 (Nat.pow_le_pow_right (by decide) (by omega))
    · omega
    · rw [lt1]
      exact G.keep k3 ok1
    refine ⟨by show 1 ≤ sizeLine; decide, fun p3 hp3 => ?_⟩
    have e1 : H2 p1 = some (.lst ys) := x4.lst (x3.lst hp1)
    have l1 := d1.len
    rw [pathT_len, ld1] at l1
    have gl := plen_le k' (place - splitN ts.length) (ts.length - splitN ts.length) b2
    have kk : k' ≤ 1000 := by
      have := hr.dp
      have e0 : recursionLimit = 1000 := rfl
      omega
    refine ⟨p1, p3, ys, [v2], rfl, rfl, by rw [upd_ne (ne_of_none e1 hp3)]; exact e1, upd_same, ?_, fun p4 hp4 => ?_⟩
    · rw [l1]
      show _ + 1 ≤ _
      rw [sizeLine_eq]
      omega
    have x5 := (Ext.new (o := .lst [v2]) hp3).trans (Ext.new (o := .lst (ys ++ [v2])) hp4)
    have np4 := (((xx.trans x3).trans x4).free ((Ext.new (o := .lst [v2]) hp3).free hp4))
    refine q p4 _ _ (((xx.trans x3).trans x4).trans x5) np4 upd_same (G.keep ((Kp.new hp3).trans (Kp.new hp4)) ok2) ?_
    rw [pathT_high (by omega) (by omega)]
    exact (d1.mono G ((x3.trans x4).trans x5).gr).append (DenL.one (G.mono x5.gr d2))
theorem ok_path_of {cc : Addr} {j : Nat} (T : Txt K mg cc) (A : SlA P w K mg base Fam) (C_split : Cal P w K mg base 1 "split" spSplit []) (C_top_of : ∀ k, Cal P w K mg base (k + j) "top_of" (spTop K Fam k) []) : ∀ k : Nat, Cal P w K mg base (k + j + 1) "path_of" (spPath K Fam k) []
  | 0 => by
    obtain ⟨f, fd, ps, ds, F, m, kp, b, v⟩ := (cal_no (P := P) (w := w) (base := base) T.d_path_of (0 + j + 1)).ex
    exact ⟨f, fd, ps, ds, F.imp fun vs H Q E h => by obtain ⟨_, _, _, _, _, _, _, _, _, _, z, _⟩ := h; exact absurd rfl z, m, kp, b, v⟩
  | k + 1 => cal_mono (ok_path_of1 T A C_split C_top_of (ok_path_of T A C_split C_top_of k)) (by omega)
end

section
variable {P : Program} {w : World} {K : PySem.W.Frag} {mg : Str → Option Value} {base : Heap} {Fam : Sys → Prop}
theorem ok__law_path1 {cc : Addr} {k j : Nat} (T : Txt K mg cc) (A : SlA P w K mg base Fam) (C__law_split : Cal P w K mg base 1 "_law_split" spSplit []) (C__law_top : ∀ k, Cal P w K mg base (k + j) "_law_top" (spTop K Fam k) []) (C__law_path : Cal P w K mg base (k + j + 1) "_law_path" (spPath K Fam k) []) : Cal P w K mg base (k + j + 2) "_law_path" (spPath K Fam (k + 1)) [] := by
  have Z := T.Z
  have C__law_top := C__law_top (k + 1)
  refine cal_of T.d__law_path sc__law_path (fun vs H Q E h => ?_) (fun f cdv A' outer s H vs Q E hr h => ?_)
  · obtain ⟨S, a, xs, ts, old, r, _, rfl, _⟩ := h
    rfl
  obtain ⟨S, a, xs, ts, place, r, hF, rfl, hS, hD, _, hk, hl, ho, hok, q⟩ := h
  have hlen := hD.len
  have G := A.good hF
  refine ⟨_, (pss_cons (ps_if (pt_cmpR op_eq (pe_callB call_len_seq rfl Z.len PySem.boot_len (pa_cons (pv 1) pa_nil)) pe_int (nomark _)) (pss_one (ps_ret (pe_lst pa_nil))) pss_nil)
  (pss_cons (ps_set (i := 3) sc__law_path.nd rfl (Or.inl rfl) (pe_c C__law_split hr (by omega) rfl (pa_cons (pe_callB call_len_seq rfl Z.len PySem.boot_len (pa_cons (pv 1) pa_nil)) pa_nil)))
  (pss_cons (ps_if (pt_cmpR op_lt (pv 2) (pv 3) (nomark _)) (pss_one (ps_ret (pe_op op_cat (pe_c C__law_path hr (by omega) rfl (pa_cons (pv 0) (pa_cons (pe_slice sl_list (pv 1) po_none (po_some (pv 3))) (pa_cons (pv 2) pa_nil)))) (pe_lst (pa_cons (pe_c C__law_top hr (by omega) rfl (pa_cons (pv 0) (pa_cons (pe_slice sl_list (pv 1) (po_some (pv 3)) po_none) pa_nil))) pa_nil))))) pss_nil)
  (pss_one (ps_ret (pe_op op_cat (pe_c C__law_path hr (by omega) rfl (pa_cons (pv 0) (pa_cons (pe_slice sl_list (pv 1) (po_some (pv 3)) po_none) (pa_cons (pe_op op_sub (pv 2) (pv 3)) pa_nil)))) (pe_lst (pa_cons (pe_c C__law_top hr (by omega) rfl (pa_cons (pv 0) (pa_cons (pe_slice sl_list (pv 1) po_none (po_some (pv 3))) pa_nil))) pa_nil)))))))), ?_⟩
  -- one leaf
  refine ⟨_, rfl, a, _, rfl, .inl hS, rfl, _, rfl, ite2 (fun c => ?_) (fun c => ?_)⟩
  · have c' : (xs.length : Int) = 1 := V.int.inj (of_decide_eq_true c)
    refine ⟨Nat.zero_le _, fun p hp => ?_⟩
    refine q p [] _ (Ext.new hp) hp upd_same (G.less (G.keep (Kp.new hp) hok) (by omega)) ?_
    rw [pathT_one (by omega)]
    exact DenL.nil
  have n1 : xs.length ≠ 1 := fun z => c (decide_eq_true (by rw [z] <;> rfl))
  have h2 : 2 ≤ ts.length := by omega
  have hsl := splitN_lt h2
  have hsp := splitN_pos ts.length
  have hk1 : ts.length ≤ 2 ^ k := hk
  obtain ⟨k', rfl⟩ : ∃ k', k = k' + 1 := by
    cases k with
    | zero => simp at hk1; omega
    | succ k' => exact ⟨k', rfl⟩
  obtain ⟨b1, b2⟩ := splitN_le_pow h2 hk1
  have hcs := costT_split h2
  have lg := Nat.log2_le_self ts.length
  refine ⟨_, rfl, a, _, rfl, .inl hS, ts.length, by rw [hlen] <;> rfl, h2, by omega, ?_⟩
  have lt1 : (ts.take (splitN ts.length)).length = splitN ts.length := by
    rw [List.length_take]
    omega
  have ld1 : (ts.drop (splitN ts.length)).length = ts.length - splitN ts.length := List.length_drop
  refine ⟨_, rfl, _, rfl, _, _, rfl, rfl, _, rfl, ite2 (fun c => ?_) (fun c => ?_)⟩
  · -- in the first part
    have c' : (place : Int) < ((splitN ts.length : Nat) : Int) := of_decide_eq_true c
    refine ⟨_, rfl, _, rfl, _, rfl, ((splitN ts.length : Nat) : Int), rfl, a, _, rfl, hS, fun p hp => ?_⟩
    rw [cut_to]
    have x1 := Ext.new (o := .lst (xs.take (splitN ts.length))) hp
    have k1 := Kp.new (o := .lst (xs.take (splitN ts.length))) hp
    refine ⟨_, rfl, S, p, _, ts.take (splitN ts.length), place, r + costT (ts.length - splitN ts.length), hF, rfl, SqL.of upd_same, (hD.take _).mono G k1.gr, by omega, ?_, ?_, ?_, ?_, fun p1 ys H1 x2 np1 hp1 ok1 d1 => ?_⟩
    · rw [lt1]
      exact b1
    · omega
    · omega
    · rw [lt1]
      exact G.less (G.keep k1 hok) (by omega)
    have xx := x1.trans x2
    refine ⟨_, rfl, _, rfl, _, rfl, ((splitN ts.length : Nat) : Int), rfl, a, _, rfl, xx.seq hS, fun p2 hp2 => ?_⟩
    rw [cut_from]
    have x3 := Ext.new (o := .lst (xs.drop (splitN ts.length))) hp2
    have k3 := Kp.new (o := .lst (xs.drop (splitN ts.length))) hp2
    refine ⟨S, p2, _, ts.drop (splitN ts.length), r, hF, rfl, SqL.of upd_same, ((hD.drop _).mono G xx.gr).mono G k3.gr, by omega, ?_, ?_, ?_, fun v2 H2 x4 ok2 d2 => ?_⟩
    · rw [ld1]
      exact Nat.le_trans b2 (Nat.pow_le_pow_right (by decide) (by omega))
    · omega
    · rw [ld1]
      exact G.keep k3 ok1
    refine ⟨by show 1 ≤ sizeLine; decide, fun p3 hp3 => ?_⟩
    have e1 : H2 p1 = some (.lst ys) := x4.lst (x3.lst hp1)
    have l1 := d1.len
    rw [pathT_len, lt1] at l1
    have gl := plen_le k' place (splitN ts.length) b1
    have kk : k' ≤ 1000 := by
      have := hr.dp
      have e0 : recursionLimit = 1000 := rfl
      omega
    refine ⟨p1, p3, ys, [v2], rfl, rfl, by rw [upd_ne (ne_of_none e1 hp3)]; exact e1, upd_same, ?_, fun p4 hp4 => ?_⟩
    · rw [l1]
      show _ + 1 ≤ _
      rw [sizeLine_eq]
      omega
    have x5 := (Ext.new (o := .lst [v2]) hp3).trans (Ext.new (o := .lst (ys ++ [v2])) hp4)
    have np4 := (((xx.trans x3).trans x4).free ((Ext.new (o := .lst [v2]) hp3).free hp4))
    refine q p4 _ _ (((xx.trans x3).trans x4).trans x5) np4 upd_same (G.keep ((Kp.new hp3).trans (Kp.new hp4)) ok2) ?_
    rw [pathT_low (by omega) (by omega)]
    exact (d1.mono G ((x3.trans x4).trans x5).gr).append (DenL.one (G.mono x5.gr d2))
  · -- in the rest
    have c' : ¬ (place : Int) < ((splitN ts.length : Nat) : Int) := of_decide_eq_false (Bool.eq_false_iff.mpr c)
    refine ⟨_, rfl, _, rfl, _, rfl, ((splitN ts.length : Nat) : Int), rfl, a, _, rfl, hS, fun p hp => ?_⟩
    rw [cut_from]
    have x1 := Ext.new (o := .lst (xs.drop (splitN ts.length))) hp
    have k1 := Kp.new (o := .lst (xs.drop (splitN ts.length))) hp
    refine ⟨_, rfl, _, rfl, _, _, rfl, rfl, S, p, _, ts.drop (splitN ts.length), place - splitN ts.length, r + costT (splitN ts.length), hF, ?_, SqL.of upd_same, (hD.drop _).mono G k1.gr, by omega, ?_, ?_, ?_, ?_, fun p1 ys H1 x2 np1 hp1 ok1 d1 => ?_⟩
    · rw [show ((place - splitN ts.length : Nat) : Int) = (place : Int) - ((splitN ts.length : Nat) : Int) by omega]
      rfl
    · rw [ld1]
      exact b2
    · omega
    · omega
    · rw [ld1]
      exact G.less (G.keep k1 hok) (by omega)
    have xx := x1.trans x2
    refine ⟨_, rfl, _, rfl, _, rfl, ((splitN ts.length : Nat) : Int), rfl, a, _, rfl, xx.seq hS, fun p2 hp2 => ?_⟩
    rw [cut_to]
    have x3 := Ext.new (o := .lst (xs.take (splitN ts.length))) hp2
    have k3 := Kp.new (o := .lst (xs.take (splitN ts.length))) hp2
    refine ⟨S, p2, _, ts.take (splitN ts.length), r, hF, rfl, SqL.of upd_same, ((hD.take _).mono G xx.gr).mono G k3.gr, by omega, ?_, ?_, ?_, fun v2 H2 x4 ok2 d2 => ?_⟩
    · rw [lt1]
      exact Nat.le_trans b1 (Nat.pow_le_pow_right (by decide) (by omega))
    · omega
    · rw [lt1]
      exact G.keep k3 ok1
    refine ⟨by show 1 ≤ sizeLine; decide, fun p3 hp3 => ?_⟩
    have e1 : H2 p1 = some (.lst ys) := x4.lst (x3.lst hp1)
    have l1 := d1.len
    rw [pathT_len, ld1] at l1
    have gl := plen_le k' (place - splitN ts.length) (ts.length - splitN ts.length) b2
    have kk : k' ≤ 1000 := by
      have := hr.dp
      have e0 : recursionLimit = 1000 := rfl
      omega
    refine ⟨p1, p3, ys, [v2], rfl, rfl, by rw [upd_ne (ne_of_none e1 hp3)]; exact e1, upd_same, ?_, fun p4 hp4 => ?_⟩
    · rw [l1]
      show _ + 1 ≤ _
      rw [sizeLine_eq]
      omega
    have x5 := (Ext.new (o := .lst [v2]) hp3).trans (Ext.new (o := .lst (ys ++ [v2])) hp4)
    have np4 := (((xx.trans x3).trans x4).free ((Ext.new (o := .lst [v2]) hp3).free hp4))
    refine q p4 _ _ (((xx.trans x3).trans x4).trans x5) np4 upd_same (G.keep ((Kp.new hp3).trans (Kp.new hp4)) ok2) ?_
    rw [pathT_high (by omega) (by omega)]
    exact (d1.mono G ((x3.trans x4).trans x5).gr).append (DenL.one (G.mono x5.gr d2))
theorem ok__law_path {cc : Addr} {j : Nat} (T : Txt K mg cc) (A : SlA P w K mg base Fam) (C__law_split : Cal P w K mg base 1 "_law_split" spSplit []) (C__law_top : ∀ k, Cal P w K mg base (k + j) "_law_top" (spTop K Fam k) []) : ∀ k : Nat, Cal P w K mg base (k + j + 1) "_law_path" (spPath K Fam k) []
  | 0 => by
    obtain ⟨f, fd, ps, ds, F, m, kp, b, v⟩ := (cal_no (P := P) (w := w) (base := base) T.d__law_path (0 + j + 1)).ex
    exact ⟨f, fd, ps, ds, F.imp fun vs H Q E h => by obtain ⟨_, _, _, _, _, _, _, _, _, _, z, _⟩ := h; exact absurd rfl z, m, kp, b, v⟩
  | k + 1 => cal_mono (ok__law_path1 T A C__law_split C__law_top (ok__law_path T A C__law_split C__law_top k)) (by omega)
end

/-! ### growths -/
def growT (ts : List Tm) (old : Nat) : List Tm :=
  if h : 0 < old ∧ old < ts.length then
    if old ≤ splitN ts.length then growT (ts.take (splitN ts.length)) old ++ [topT (ts.drop (splitN ts.length))]
    else growT (ts.drop (splitN ts.length)) (old - splitN ts.length) ++ [topT (ts.take (splitN ts.length))]
  else if old = 0 then [] else [topT ts]
termination_by ts.length
decreasing_by
  · rw [List.length_take]
    have := splitN_lt (n := ts.length) (by omega)
    omega
  · rw [List.length_drop]
    have := splitN_pos ts.length
    omega
theorem growT_zero (ts : List Tm) : growT ts 0 = [] := by rw [growT, dif_neg (by omega), if_pos rfl]
theorem growT_all {ts : List Tm} (h : ts.length ≠ 0) : growT ts ts.length = [topT ts] := by rw [growT, dif_neg (by omega), if_neg h]
theorem growT_low {ts : List Tm} {old : Nat} (h0 : 0 < old) (h1 : old < ts.length) (h : old ≤ splitN ts.length) : growT ts old = growT (ts.take (splitN ts.length)) old ++ [topT (ts.drop (splitN ts.length))] := by
  rw [growT, dif_pos ⟨h0, h1⟩, if_pos h]
theorem growT_high {ts : List Tm} {old : Nat} (h0 : 0 < old) (h1 : old < ts.length) (h : ¬ old ≤ splitN ts.length) : growT ts old = growT (ts.drop (splitN ts.length)) (old - splitN ts.length) ++ [topT (ts.take (splitN ts.length))] := by
  rw [growT, dif_pos ⟨h0, h1⟩, if_neg h]
/-- two to the k leaves: at most k + 1 tops -/
theorem growT_len : ∀ (k : Nat) (ts : List Tm) (old : Nat), ts.length ≤ 2 ^ k → (growT ts old).length ≤ k + 1
  | k, ts, old, hl => by
    by_cases h : 0 < old ∧ old < ts.length
    · obtain ⟨h0, h1⟩ := h
      have h2 : 2 ≤ ts.length := by omega
      cases k with
      | zero => simp at hl; omega
      | succ k =>
        obtain ⟨a, b⟩ := splitN_le_pow h2 hl
        by_cases q : old ≤ splitN ts.length
        · rw [growT_low h0 h1 q, List.length_append]
          have := growT_len k (ts.take (splitN ts.length)) old (by rw [List.length_take]; omega)
          simp
          omega
        · rw [growT_high h0 h1 q, List.length_append]
          have := growT_len k (ts.drop (splitN ts.length)) (old - splitN ts.length) (by rw [List.length_drop]; omega)
          simp
          omega
    · rw [growT, dif_neg h]
      split <;> simp
theorem growT_mem {ts : List Tm} {old : Nat} {P : Tm → Prop} (hp : ∀ us : List Tm, (∀ t ∈ us, t ∈ ts) → us.length ≤ ts.length → P (topT us)) : ∀ t ∈ growT ts old, P t := by
  intro t ht
  rw [growT] at ht
  split at ht
  · rename_i h
    have hs := splitN_lt (n := ts.length) (by omega)
    have hs0 := splitN_pos ts.length
    split at ht
    · rcases List.mem_append.mp ht with h1 | h1
      · exact growT_mem (fun us hu hl => hp us (fun t h => List.mem_of_mem_take (hu t h)) (by rw [List.length_take] at hl; omega)) t h1
      · rw [List.mem_singleton.mp h1]
        exact hp _ (fun t h => List.mem_of_mem_drop h) (by rw [List.length_drop]; omega)
    · rcases List.mem_append.mp ht with h1 | h1
      · exact growT_mem (fun us hu hl => hp us (fun t h => List.mem_of_mem_drop (hu t h)) (by rw [List.length_drop] at hl; omega)) t h1
      · rw [List.mem_singleton.mp h1]
        exact hp _ (fun t h => List.mem_of_mem_take h) (by rw [List.length_take]; omega)
  · split at ht
    · cases ht
    · rw [List.mem_singleton.mp ht]
      exact hp ts (fun _ h => h) (Nat.le_refl _)
termination_by ts.length
decreasing_by
  · rw [List.length_drop]; omega
  · rw [List.length_take]; omega
/-- a growth is asked: two to the k leaves at most -/
def spGrow (K : PySem.W.Frag) (Fam : Sys → Prop) (k : Nat) : Sp := fun vs H Q _ => ∃ (S : Sys) (a : Addr) (xs : List V) (ts : List Tm) (old r : Nat), Fam S ∧ vs = [.ref S.f, .ref a, .int (old : Int)] ∧ SqL K H a xs ∧ DenL S H xs ts ∧ k ≠ 0 ∧ ts.length ≤ 2 ^ (k - 1) ∧ ts.length ≤ 1000 ∧ old ≤ ts.length ∧ S.ok H (r + costT ts.length) ∧
  ∀ p ys H', Ext H H' → H p = none → H' p = some (.lst ys) → S.ok H' r → DenL S H' ys (growT ts old) → Q (.ref p) H'

section
variable {P : Program} {w : World} {K : PySem.W.Frag} {mg : Str → Option Value} {base : Heap} {Fam : Sys → Prop}
theorem ok_growth_of1 {cc : Addr} {k j : Nat} (T : Txt K mg cc) (A : SlA P w K mg base Fam) (C_split : Cal P w K mg base 1 "split" spSplit []) (C_top_of : ∀ k, Cal P w K mg base (k + j) "top_of" (spTop K Fam k) []) (C_growth_of : Cal P w K mg base (k + j + 1) "growth_of" (spGrow K Fam k) []) : Cal P w K mg base (k + j + 2) "growth_of" (spGrow K Fam (k + 1)) [] := by
  have Z := T.Z
  have C_top_of := C_top_of (k + 1)
  refine cal_of T.d_growth_of sc_growth_of (fun vs H Q E h => ?_) (fun f cdv A' outer s H vs Q E hr h => ?_)
  · obtain ⟨S, a, xs, ts, old, r, _, rfl, _⟩ := h
    rfl
  obtain ⟨S, a, xs, ts, old, r, hF, rfl, hS, hD, _, hk, hl, ho, hok, q⟩ := h
  have hlen := hD.len
  have G := A.good hF
  refine ⟨_, (pss_cons (ps_if (pt_cmpR op_eq (pv 2) pe_int (nomark _)) (pss_one (ps_ret (pe_lst pa_nil))) pss_nil)
  (pss_cons (ps_if (pt_cmpR op_eq (pv 2) (pe_callB call_len_seq rfl Z.len PySem.boot_len (pa_cons (pv 1) pa_nil)) (nomark _)) (pss_one (ps_ret (pe_lst (pa_cons (pe_c C_top_of hr (by omega) rfl (pa_cons (pv 0) (pa_cons (pv 1) pa_nil))) pa_nil)))) pss_nil)
  (pss_cons (ps_set (i := 3) sc_growth_of.nd rfl (Or.inl rfl) (pe_c C_split hr (by omega) rfl (pa_cons (pe_callB call_len_seq rfl Z.len PySem.boot_len (pa_cons (pv 1) pa_nil)) pa_nil)))
  (pss_cons (ps_if (pt_cmpR op_le (pv 2) (pv 3) (nomark _)) (pss_one (ps_ret (pe_op op_cat (pe_c C_growth_of hr (by omega) rfl (pa_cons (pv 0) (pa_cons (pe_slice sl_list (pv 1) po_none (po_some (pv 3))) (pa_cons (pv 2) pa_nil)))) (pe_lst (pa_cons (pe_c C_top_of hr (by omega) rfl (pa_cons (pv 0) (pa_cons (pe_slice sl_list (pv 1) (po_some (pv 3)) po_none) pa_nil))) pa_nil))))) pss_nil)
  (pss_one (ps_ret (pe_op op_cat (pe_c C_growth_of hr (by omega) rfl (pa_cons (pv 0) (pa_cons (pe_slice sl_list (pv 1) (po_some (pv 3)) po_none) (pa_cons (pe_op op_sub (pv 2) (pv 3)) pa_nil)))) (pe_lst (pa_cons (pe_c C_top_of hr (by omega) rfl (pa_cons (pv 0) (pa_cons (pe_slice sl_list (pv 1) po_none (po_some (pv 3))) pa_nil))) pa_nil))))))))), ?_⟩
  -- from nothing
  refine ⟨_, rfl, rfl, _, rfl, ite2 (fun c => ?_) (fun c => ?_)⟩
  · have c' : (old : Int) = 0 := V.int.inj (of_decide_eq_true c)
    have e : old = 0 := by omega
    subst e
    refine ⟨Nat.zero_le _, fun p hp => ?_⟩
    refine q p [] _ (Ext.new hp) hp upd_same (G.less (G.keep (Kp.new hp) hok) (by omega)) ?_
    rw [growT_zero]
    exact DenL.nil
  have n0 : old ≠ 0 := fun z => c (decide_eq_true (by rw [z]; rfl))
  -- all of it
  refine ⟨_, rfl, _, rfl, a, _, rfl, .inl hS, rfl, _, rfl, ite2 (fun c => ?_) (fun c => ?_)⟩
  · have c' : (old : Int) = (xs.length : Int) := V.int.inj (of_decide_eq_true c)
    have e : old = ts.length := by omega
    subst e
    refine ⟨_, rfl, _, rfl, S, a, xs, ts, r, hF, rfl, hS, hD, by omega, hk, hl, hok, fun v H1 x1 ok1 d1 => ?_⟩
    refine ⟨by show 1 ≤ sizeLine; decide, fun p hp => ?_⟩
    refine q p [v] _ (x1.trans (Ext.new hp)) (x1.free hp) upd_same (G.keep (Kp.new hp) ok1) ?_
    rw [growT_all n0]
    exact DenL.one (G.mono (Kp.new hp).gr d1)
  have n1 : old ≠ ts.length := fun z => c (decide_eq_true (by rw [z, hlen] <;> rfl))
  have h2 : 2 ≤ ts.length := by omega
  have hsl := splitN_lt h2
  have hsp := splitN_pos ts.length
  have hk1 : ts.length ≤ 2 ^ k := hk
  obtain ⟨k', rfl⟩ : ∃ k', k = k' + 1 := by
    cases k with
    | zero => simp at hk1; omega
    | succ k' => exact ⟨k', rfl⟩
  obtain ⟨b1, b2⟩ := splitN_le_pow h2 hk1
  have hcs := costT_split h2
  have lg := Nat.log2_le_self ts.length
  refine ⟨_, rfl, a, _, rfl, .inl hS, ts.length, by rw [hlen] <;> rfl, h2, by omega, ?_⟩
  have lt1 : (ts.take (splitN ts.length)).length = splitN ts.length := by
    rw [List.length_take]
    omega
  have ld1 : (ts.drop (splitN ts.length)).length = ts.length - splitN ts.length := List.length_drop
  refine ⟨_, rfl, _, rfl, _, _, rfl, rfl, _, rfl, ite2 (fun c => ?_) (fun c => ?_)⟩
  · -- in the first part
    have c' : (old : Int) ≤ ((splitN ts.length : Nat) : Int) := of_decide_eq_true c
    refine ⟨_, rfl, _, rfl, _, rfl, ((splitN ts.length : Nat) : Int), rfl, a, _, rfl, hS, fun p hp => ?_⟩
    rw [cut_to]
    have x1 := Ext.new (o := .lst (xs.take (splitN ts.length))) hp
    have k1 := Kp.new (o := .lst (xs.take (splitN ts.length))) hp
    refine ⟨_, rfl, S, p, _, ts.take (splitN ts.length), old, r + costT (ts.length - splitN ts.length), hF, rfl, SqL.of upd_same, (hD.take _).mono G k1.gr, by omega, ?_, ?_, ?_, ?_, fun p1 ys H1 x2 np1 hp1 ok1 d1 => ?_⟩
    · rw [lt1]
      exact b1
    · omega
    · omega
    · rw [lt1]
      exact G.less (G.keep k1 hok) (by omega)
    have xx := x1.trans x2
    refine ⟨_, rfl, _, rfl, _, rfl, ((splitN ts.length : Nat) : Int), rfl, a, _, rfl, xx.seq hS, fun p2 hp2 => ?_⟩
    rw [cut_from]
    have x3 := Ext.new (o := .lst (xs.drop (splitN ts.length))) hp2
    have k3 := Kp.new (o := .lst (xs.drop (splitN ts.length))) hp2
    refine ⟨S, p2, _, ts.drop (splitN ts.length), r, hF, rfl, SqL.of upd_same, ((hD.drop _).mono G xx.gr).mono G k3.gr, by omega, ?_, ?_, ?_, fun v2 H2 x4 ok2 d2 => ?_⟩
    · rw [ld1]
      exact Nat.le_trans b2 (Nat.pow_le_pow_right (by decide) (by omega))
    · omega
    · rw [ld1]
      exact G.keep k3 ok1
    refine ⟨by show 1 ≤ sizeLine; decide, fun p3 hp3 => ?_⟩
    have e1 : H2 p1 = some (.lst ys) := x4.lst (x3.lst hp1)
    have l1 := d1.len
    have gl := growT_len k' (ts.take (splitN ts.length)) old (by rw [lt1]; exact b1)
    have kk : k' ≤ 1000 := by
      have := hr.dp
      have e0 : recursionLimit = 1000 := rfl
      omega
    refine ⟨p1, p3, ys, [v2], rfl, rfl, by rw [upd_ne (ne_of_none e1 hp3)]; exact e1, upd_same, ?_, fun p4 hp4 => ?_⟩
    · rw [l1]
      show _ + 1 ≤ _
      rw [sizeLine_eq]
      omega
    have x5 := (Ext.new (o := .lst [v2]) hp3).trans (Ext.new (o := .lst (ys ++ [v2])) hp4)
    have np4 := (((xx.trans x3).trans x4).free ((Ext.new (o := .lst [v2]) hp3).free hp4))
    refine q p4 _ _ (((xx.trans x3).trans x4).trans x5) np4 upd_same (G.keep ((Kp.new hp3).trans (Kp.new hp4)) ok2) ?_
    rw [growT_low (by omega) (by omega) (by omega)]
    exact (d1.mono G ((x3.trans x4).trans x5).gr).append (DenL.one (G.mono x5.gr d2))
  · -- in the rest
    have c' : ¬ (old : Int) ≤ ((splitN ts.length : Nat) : Int) := of_decide_eq_false (Bool.eq_false_iff.mpr c)
    refine ⟨_, rfl, _, rfl, _, rfl, ((splitN ts.length : Nat) : Int), rfl, a, _, rfl, hS, fun p hp => ?_⟩
    rw [cut_from]
    have x1 := Ext.new (o := .lst (xs.drop (splitN ts.length))) hp
    have k1 := Kp.new (o := .lst (xs.drop (splitN ts.length))) hp
    refine ⟨_, rfl, _, rfl, _, _, rfl, rfl, S, p, _, ts.drop (splitN ts.length), old - splitN ts.length, r + costT (splitN ts.length), hF, ?_, SqL.of upd_same, (hD.drop _).mono G k1.gr, by omega, ?_, ?_, ?_, ?_, fun p1 ys H1 x2 np1 hp1 ok1 d1 => ?_⟩
    · rw [show ((old - splitN ts.length : Nat) : Int) = (old : Int) - ((splitN ts.length : Nat) : Int) by omega]
      rfl
    · rw [ld1]
      exact b2
    · omega
    · omega
    · rw [ld1]
      exact G.less (G.keep k1 hok) (by omega)
    have xx := x1.trans x2
    refine ⟨_, rfl, _, rfl, _, rfl, ((splitN ts.length : Nat) : Int), rfl, a, _, rfl, xx.seq hS, fun p2 hp2 => ?_⟩
    rw [cut_to]
    have x3 := Ext.new (o := .lst (xs.take (splitN ts.length))) hp2
    have k3 := Kp.new (o := .lst (xs.take (splitN ts.length))) hp2
    refine ⟨S, p2, _, ts.take (splitN ts.length), r, hF, rfl, SqL.of upd_same, ((hD.take _).mono G xx.gr).mono G k3.gr, by omega, ?_, ?_, ?_, fun v2 H2 x4 ok2 d2 => ?_⟩
    · rw [lt1]
      exact Nat.le_trans b1 (Nat.pow_le_pow_right (by decide) (by omega))
    · omega
    · rw [lt1]
      exact G.keep k3 ok1
    refine ⟨by show 1 ≤ sizeLine; decide, fun p3 hp3 => ?_⟩
    have e1 : H2 p1 = some (.lst ys) := x4.lst (x3.lst hp1)
    have l1 := d1.len
    have gl := growT_len k' (ts.drop (splitN ts.length)) (old - splitN ts.length) (by rw [ld1]; exact b2)
    have kk : k' ≤ 1000 := by
      have := hr.dp
      have e0 : recursionLimit = 1000 := rfl
      omega
    refine ⟨p1, p3, ys, [v2], rfl, rfl, by rw [upd_ne (ne_of_none e1 hp3)]; exact e1, upd_same, ?_, fun p4 hp4 => ?_⟩
    · rw [l1]
      show _ + 1 ≤ _
      rw [sizeLine_eq]
      omega
    have x5 := (Ext.new (o := .lst [v2]) hp3).trans (Ext.new (o := .lst (ys ++ [v2])) hp4)
    have np4 := (((xx.trans x3).trans x4).free ((Ext.new (o := .lst [v2]) hp3).free hp4))
    refine q p4 _ _ (((xx.trans x3).trans x4).trans x5) np4 upd_same (G.keep ((Kp.new hp3).trans (Kp.new hp4)) ok2) ?_
    rw [growT_high (by omega) (by omega) (by omega)]
    exact (d1.mono G ((x3.trans x4).trans x5).gr).append (DenL.one (G.mono x5.gr d2))
theorem ok_growth_of {cc : Addr} {j : Nat} (T : Txt K mg cc) (A : SlA P w K mg base Fam) (C_split : Cal P w K mg base 1 "split" spSplit []) (C_top_of : ∀ k, Cal P w K mg base (k + j) "top_of" (spTop K Fam k) []) : ∀ k : Nat, Cal P w K mg base (k + j + 1) "growth_of" (spGrow K Fam k) []
  | 0 => by
    obtain ⟨f, fd, ps, ds, F, m, kp, b, v⟩ := (cal_no (P := P) (w := w) (base := base) T.d_growth_of (0 + j + 1)).ex
    exact ⟨f, fd, ps, ds, F.imp fun vs H Q E h => by obtain ⟨_, _, _, _, _, _, _, _, _, _, z, _⟩ := h; exact absurd rfl z, m, kp, b, v⟩
  | k + 1 => cal_mono (ok_growth_of1 T A C_split C_top_of (ok_growth_of T A C_split C_top_of k)) (by omega)
end

section
variable {P : Program} {w : World} {K : PySem.W.Frag} {mg : Str → Option Value} {base : Heap} {Fam : Sys → Prop}
theorem ok__law_growth1 {cc : Addr} {k j : Nat} (T : Txt K mg cc) (A : SlA P w K mg base Fam) (C__law_split : Cal P w K mg base 1 "_law_split" spSplit []) (C__law_top : ∀ k, Cal P w K mg base (k + j) "_law_top" (spTop K Fam k) []) (C__law_growth : Cal P w K mg base (k + j + 1) "_law_growth" (spGrow K Fam k) []) : Cal P w K mg base (k + j + 2) "_law_growth" (spGrow K Fam (k + 1)) [] := by
  have Z := T.Z
  have C__law_top := C__law_top (k + 1)
  refine cal_of T.d__law_growth sc__law_growth (fun vs H Q E h => ?_) (fun f cdv A' outer s H vs Q E hr h => ?_)
  · obtain ⟨S, a, xs, ts, old, r, _, rfl, _⟩ := h
    rfl
  obtain ⟨S, a, xs, ts, old, r, hF, rfl, hS, hD, _, hk, hl, ho, hok, q⟩ := h
  have hlen := hD.len
  have G := A.good hF
  refine ⟨_, (pss_cons (ps_if (pt_cmpR op_eq (pv 2) pe_int (nomark _)) (pss_one (ps_ret (pe_lst pa_nil))) pss_nil)
  (pss_cons (ps_if (pt_cmpR op_eq (pv 2) (pe_callB call_len_seq rfl Z.len PySem.boot_len (pa_cons (pv 1) pa_nil)) (nomark _)) (pss_one (ps_ret (pe_lst (pa_cons (pe_c C__law_top hr (by omega) rfl (pa_cons (pv 0) (pa_cons (pv 1) pa_nil))) pa_nil)))) pss_nil)
  (pss_cons (ps_set (i := 3) sc__law_growth.nd rfl (Or.inl rfl) (pe_c C__law_split hr (by omega) rfl (pa_cons (pe_callB call_len_seq rfl Z.len PySem.boot_len (pa_cons (pv 1) pa_nil)) pa_nil)))
  (pss_cons (ps_if (pt_cmpR op_le (pv 2) (pv 3) (nomark _)) (pss_one (ps_ret (pe_op op_cat (pe_c C__law_growth hr (by omega) rfl (pa_cons (pv 0) (pa_cons (pe_slice sl_list (pv 1) po_none (po_some (pv 3))) (pa_cons (pv 2) pa_nil)))) (pe_lst (pa_cons (pe_c C__law_top hr (by omega) rfl (pa_cons (pv 0) (pa_cons (pe_slice sl_list (pv 1) (po_some (pv 3)) po_none) pa_nil))) pa_nil))))) pss_nil)
  (pss_one (ps_ret (pe_op op_cat (pe_c C__law_growth hr (by omega) rfl (pa_cons (pv 0) (pa_cons (pe_slice sl_list (pv 1) (po_some (pv 3)) po_none) (pa_cons (pe_op op_sub (pv 2) (pv 3)) pa_nil)))) (pe_lst (pa_cons (pe_c C__law_top hr (by omega) rfl (pa_cons (pv 0) (pa_cons (pe_slice sl_list (pv 1) po_none (po_some (pv 3))) pa_nil))) pa_nil))))))))), ?_⟩
  -- from nothing
  refine ⟨_, rfl, rfl, _, rfl, ite2 (fun c => ?_) (fun c => ?_)⟩
  · have c' : (old : Int) = 0 := V.int.inj (of_decide_eq_true c)
    have e : old = 0 := by omega
    subst e
    refine ⟨Nat.zero_le _, fun p hp => ?_⟩
    refine q p [] _ (Ext.new hp) hp upd_same (G.less (G.keep (Kp.new hp) hok) (by omega)) ?_
    rw [growT_zero]
    exact DenL.nil
  have n0 : old ≠ 0 := fun z => c (decide_eq_true (by rw [z]; rfl))
  -- all of it
  refine ⟨_, rfl, _, rfl, a, _, rfl, .inl hS, rfl, _, rfl, ite2 (fun c => ?_) (fun c => ?_)⟩
  · have c' : (old : Int) = (xs.length : Int) := V.int.inj (of_decide_eq_true c)
    have e : old = ts.length := by omega
    subst e
    refine ⟨_, rfl, _, rfl, S, a, xs, ts, r, hF, rfl, hS, hD, by omega, hk, hl, hok, fun v H1 x1 ok1 d1 => ?_⟩
    refine ⟨by show 1 ≤ sizeLine; decide, fun p hp => ?_⟩
    refine q p [v] _ (x1.trans (Ext.new hp)) (x1.free hp) upd_same (G.keep (Kp.new hp) ok1) ?_
    rw [growT_all n0]
    exact DenL.one (G.mono (Kp.new hp).gr d1)
  have n1 : old ≠ ts.length := fun z => c (decide_eq_true (by rw [z, hlen] <;> rfl))
  have h2 : 2 ≤ ts.length := by omega
  have hsl := splitN_lt h2
  have hsp := splitN_pos ts.length
  have hk1 : ts.length ≤ 2 ^ k := hk
  obtain ⟨k', rfl⟩ : ∃ k', k = k' + 1 := by
    cases k with
    | zero => simp at hk1; omega
    | succ k' => exact ⟨k', rfl⟩
  obtain ⟨b1, b2⟩ := splitN_le_pow h2 hk1
  have hcs := costT_split h2
  have lg := Nat.log2_le_self ts.length
  refine ⟨_, rfl, a, _, rfl, .inl hS, ts.length, by rw [hlen] <;> rfl, h2, by omega, ?_⟩
  have lt1 : (ts.take (splitN ts.length)).length = splitN ts.length := by
    rw [List.length_take]
    omega
  have ld1 : (ts.drop (splitN ts.length)).length = ts.length - splitN ts.length := List.length_drop
  refine ⟨_, rfl, _, rfl, _, _, rfl, rfl, _, rfl, ite2 (fun c => ?_) (fun c => ?_)⟩
  · -- in the first part
    have c' : (old : Int) ≤ ((splitN ts.length : Nat) : Int) := of_decide_eq_true c
    refine ⟨_, rfl, _, rfl, _, rfl, ((splitN ts.length : Nat) : Int), rfl, a, _, rfl, hS, fun p hp => ?_⟩
    rw [cut_to]
    have x1 := Ext.new (o := .lst (xs.take (splitN ts.length))) hp
    have k1 := Kp.new (o := .lst (xs.take (splitN ts.length))) hp
    refine ⟨_, rfl, S, p, _, ts.take (splitN ts.length), old, r + costT (ts.length - splitN ts.length), hF, rfl, SqL.of upd_same, (hD.take _).mono G k1.gr, by omega, ?_, ?_, ?_, ?_, fun p1 ys H1 x2 np1 hp1 ok1 d1 => ?_⟩
    · rw [lt1]
      exact b1
    · omega
    · omega
    · rw [lt1]
      exact G.less (G.keep k1 hok) (by omega)
    have xx := x1.trans x2
    refine ⟨_, rfl, _, rfl, _, rfl, ((splitN ts.length : Nat) : Int), rfl, a, _, rfl, xx.seq hS, fun p2 hp2 => ?_⟩
    rw [cut_from]
    have x3 := Ext.new (o := .lst (xs.drop (splitN ts.length))) hp2
    have k3 := Kp.new (o := .lst (xs.drop (splitN ts.length))) hp2
    refine ⟨S, p2, _, ts.drop (splitN ts.length), r, hF, rfl, SqL.of upd_same, ((hD.drop _).mono G xx.gr).mono G k3.gr, by omega, ?_, ?_, ?_, fun v2 H2 x4 ok2 d2 => ?_⟩
    · rw [ld1]
      exact Nat.le_trans b2 (Nat.pow_le_pow_right (by decide) (by omega))
    · omega
    · rw [ld1]
      exact G.keep k3 ok1
    refine ⟨by show 1 ≤ sizeLine; decide, fun p3 hp3 => ?_⟩
    have e1 : H2 p1 = some (.lst ys) := x4.lst (x3.lst hp1)
    have l1 := d1.len
    have gl := growT_len k' (ts.take (splitN ts.length)) old (by rw [lt1]; exact b1)
    have kk : k' ≤ 1000 := by
      have := hr.dp
      have e0 : recursionLimit = 1000 := rfl
      omega
    refine ⟨p1, p3, ys, [v2], rfl, rfl, by rw [upd_ne (ne_of_none e1 hp3)]; exact e1, upd_same, ?_, fun p4 hp4 => ?_⟩
    · rw [l1]
      show _ + 1 ≤ _
      rw [sizeLine_eq]
      omega
    have x5 := (Ext.new (o := .lst [v2]) hp3).trans (Ext.new (o := .lst (ys ++ [v2])) hp4)
    have np4 := (((xx.trans x3).trans x4).free ((Ext.new (o := .lst [v2]) hp3).free hp4))
    refine q p4 _ _ (((xx.trans x3).trans x4).trans x5) np4 upd_same (G.keep ((Kp.new hp3).trans (Kp.new hp4)) ok2) ?_
    rw [growT_low (by omega) (by omega) (by omega)]
    exact (d1.mono G ((x3.trans x4).trans x5).gr).append (DenL.one (G.mono x5.gr d2))
  · -- in the rest
    have c' : ¬ (old : Int) ≤ ((splitN ts.length : Nat) : Int) := of_decide_eq_false (Bool.eq_false_iff.mpr c)
    refine ⟨_, rfl, _, rfl, _, rfl, ((splitN ts.length : Nat) : Int), rfl, a, _, rfl, hS, fun p hp => ?_⟩
    rw [cut_from]
    have x1 := Ext.new (o := .lst (xs.drop (splitN ts.length))) hp
    have k1 := Kp.new (o := .lst (xs.drop (splitN ts.length))) hp
    refine ⟨_, rfl, _, rfl, _, _, rfl, rfl, S, p, _, ts.drop (splitN ts.length), old - splitN ts.length, r + costT (splitN ts.length), hF, ?_, SqL.of upd_same, (hD.drop _).mono G k1.gr, by omega, ?_, ?_, ?_, ?_, fun p1 ys H1 x2 np1 hp1 ok1 d1 => ?_⟩
    · rw [show ((old - splitN ts.length : Nat) : Int) = (old : Int) - ((splitN ts.length : Nat) : Int) by omega]
      rfl
    · rw [ld1]
      exact b2
    · omega
    · omega
    · rw [ld1]
      exact G.less (G.keep k1 hok) (by omega)
    have xx := x1.trans x2
    refine ⟨_, rfl, _, rfl, _, rfl, ((splitN ts.length : Nat) : Int), rfl, a, _, rfl, xx.seq hS, fun p2 hp2 => ?_⟩
    rw [cut_to]
    have x3 := Ext.new (o := .lst (xs.take (splitN ts.length))) hp2
    have k3 := Kp.new (o := .lst (xs.take (splitN ts.length))) hp2
    refine ⟨S, p2, _, ts.take (splitN ts.length), r, hF, rfl, SqL.of upd_same, ((hD.take _).mono G xx.gr).mono G k3.gr, by omega, ?_, ?_, ?_, fun v2 H2 x4 ok2 d2 => ?_⟩
    · rw [lt1]
      exact Nat.le_trans b1 (Nat.pow_le_pow_right (by decide) (by omega))
    · omega
    · rw [lt1]
      exact G.keep k3 ok1
    refine ⟨by show 1 ≤ sizeLine; decide, fun p3 hp3 => ?_⟩
    have e1 : H2 p1 = some (.lst ys) := x4.lst (x3.lst hp1)
    have l1 := d1.len
    have gl := growT_len k' (ts.drop (splitN ts.length)) (old - splitN ts.length) (by rw [ld1]; exact b2)
    have kk : k' ≤ 1000 := by
      have := hr.dp
      have e0 : recursionLimit = 1000 := rfl
      omega
    refine ⟨p1, p3, ys, [v2], rfl, rfl, by rw [upd_ne (ne_of_none e1 hp3)]; exact e1, upd_same, ?_, fun p4 hp4 => ?_⟩
    · rw [l1]
      show _ + 1 ≤ _
      rw [sizeLine_eq]
      omega
    have x5 := (Ext.new (o := .lst [v2]) hp3).trans (Ext.new (o := .lst (ys ++ [v2])) hp4)
    have np4 := (((xx.trans x3).trans x4).free ((Ext.new (o := .lst [v2]) hp3).free hp4))
    refine q p4 _ _ (((xx.trans x3).trans x4).trans x5) np4 upd_same (G.keep ((Kp.new hp3).trans (Kp.new hp4)) ok2) ?_
    rw [growT_high (by omega) (by omega) (by omega)]
    exact (d1.mono G ((x3.trans x4).trans x5).gr).append (DenL.one (G.mono x5.gr d2))
theorem ok__law_growth {cc : Addr} {j : Nat} (T : Txt K mg cc) (A : SlA P w K mg base Fam) (C__law_split : Cal P w K mg base 1 "_law_split" spSplit []) (C__law_top : ∀ k, Cal P w K mg base (k + j) "_law_top" (spTop K Fam k) []) : ∀ k : Nat, Cal P w K mg base (k + j + 1) "_law_growth" (spGrow K Fam k) []
  | 0 => by
    obtain ⟨f, fd, ps, ds, F, m, kp, b, v⟩ := (cal_no (P := P) (w := w) (base := base) T.d__law_growth (0 + j + 1)).ex
    exact ⟨f, fd, ps, ds, F.imp fun vs H Q E h => by obtain ⟨_, _, _, _, _, _, _, _, _, _, z, _⟩ := h; exact absurd rfl z, m, kp, b, v⟩
  | k + 1 => cal_mono (ok__law_growth1 T A C__law_split C__law_top (ok__law_growth T A C__law_split C__law_top k)) (by omega)
end

section
variable {P : Program} {w : World} {K : PySem.W.Frag} {mg : Str → Option Value} {base : Heap} {Fam : Sys → Prop} {CK CT : Addr}
def plIn (n : Nat) (sz : Option Int) (i : Int) : Prop := ∃ k, cntOf n sz = some k ∧ 0 ≤ i ∧ i < (k : Int)
def spKPath (mg : Str → Option Value) (CK CT : Addr) (Fam : Sys → Prop) : Sp := fun vs H Q E => ∃ (S0 : Sys) (p : Addr) (l : Nat) (t b v : Addr) (es : List En) (i : Int) (sz : Option Int) (r : Nat), Fam S0 ∧ vs = [.ref p, .int i, szV sz] ∧ KpAt CK CT S0 H p l t b v es ∧ S0.ok H (r + 320) ∧
  (∀ k n, cntOf es.length sz = some k → i = ((n : Nat) : Int) → n < k → ∀ q ys H', Ext H H' → H q = none → H' q = some (.lst ys) → S0.ok H' r → DenL S0 H' ys (pathT ((es.map (leafT l)).take k) n) → Q (.ref q) H') ∧
  (¬ plIn es.length sz i → ∀ D, mg "NoPlace" = some (.ref D) → ∀ H', Ext H H' → S0.ok H' r → E (.ref D) none H')
theorem kpath_body {cc : Addr} (T : Txt K mg cc) (A : SlA P w K mg base Fam) (KK : K_Keeper K mg CK) : ∀ (f : Addr) (cdv : Value) (A' : Around) (outer : List Env) (s : Shared) (H : Hp) (vs : List V) (Q : VK) (E : XK), Room 16 (A'.deeper (envOfC "Keeper.path" (defScope s_Keeper_path) s.heap.objs.size f cdv)) → spKPath mg CK CT Fam vs H Q E →
      ∃ t, PSs (cxOf (L2.CX P w) P w K mg base N_Keeper_path "Keeper.path" (defScope s_Keeper_path) f cdv A' outer s H E) (defBody s_Keeper_path) t ∧ t { nx := fun _ H' => Q .non H', rt := Q } (start N_Keeper_path vs) H := by
  intro f cdv A' outer s H vs Q E hr h
  have Z := T.Z
  have M_first := ok_first (CT := CT) T A KK
  have M_within := ok_within (P := P) (w := w) (base := base) T KK
  have C_path_of := ok_path_of T A (ok_split T) (ok_top_of T A) 10
  obtain ⟨S0, p, l, t, b, v, es, i, sz, r, hF, rfl, hk, hok, q1, q2⟩ := h
  have G := A.good hF
  obtain ⟨dx, hp⟩ := hk.at_
  have kf := kpF_at S0.f (l : Int) t b v
  refine ⟨_, (pss_cons (ps_set (i := 3) sc_Keeper_path.nd rfl (Or.inl rfl) (pe_mtx M_first (takes_of rfl rfl rfl rfl) hr (by omega) (pv 0) (pa_cons (pv 2) pa_nil)))
  (pss_cons (ps_expr (pe_mtx M_within (takes_of rfl rfl rfl rfl) hr (by omega) (pv 0) (pa_cons (pv 1) (pa_cons (pe_callB call_len_seq rfl Z.len PySem.boot_len (pa_cons (pv 3) pa_nil)) pa_nil))))
  (pss_one (ps_ret (pe_c C_path_of hr (by omega) rfl (pa_cons (pe_fld (pv 0) rfl) (pa_cons (pv 3) (pa_cons (pv 1) pa_nil)))))))), ?_⟩
  refine ⟨_, rfl, p, dx, _, rfl, hp, kno "first", _, rfl, S0, p, l, t, b, v, es, sz, _, hF, rfl, hk, hok, fun k hc q ys H1 x1 k1 nq hq hd => ?_, fun hc D hD => q2 (fun ⟨k, z, _⟩ => by rw [hc] at z; cases z) D hD H (Ext.refl _) (G.less hok (by omega))⟩
  have hle := cnt_le hc
  have hl := hd.len
  rw [List.length_take, List.length_map, Nat.min_eq_left hle] at hl
  have h20 := hk.sz.2
  have hp1 := x1.ins hp
  have ct := costT_le k
  have ltk : ((es.map (leafT l)).take k).length = k := by rw [List.length_take, List.length_map, Nat.min_eq_left hle]
  refine ⟨_, rfl, p, dx, _, rfl, hp1, kno "within", _, rfl, _, rfl, q, ys, rfl, .inl (SqL.of hq), .ref p, i, _, rfl, fun hin => ?_, fun hout D hD => q2 (fun ⟨k', z, z1, z2⟩ => hout ?_) D hD H1 x1 (G.less (G.keep k1 hok) (by omega))⟩
  · obtain ⟨n, rfl⟩ := Int.eq_ofNat_of_zero_le hin.1
    have hnk : n < k := by omega
    refine ⟨_, rfl, p, CK, dx, _, _, rfl, hp1, KK.cl, KK.n_seal, kf.1, _, rfl, _, rfl, S0, q, ys, _, n, r, hF, rfl, SqL.of hq, hd, by decide, by rw [ltk]; show _ ≤ 512; omega, by omega, by omega, by rw [ltk]; exact G.less (G.keep k1 hok) (by omega), fun q3 zs H2 x2 nq3 hq3 ok2 d2 => ?_⟩
    exact q1 k n hc rfl hnk q3 zs H2 (x1.trans x2) (x1.free nq3) hq3 ok2 d2
  · rw [hc] at z
    cases z
    omega
theorem ok_kpath {cc : Addr} (T : Txt K mg cc) (A : SlA P w K mg base Fam) (KK : K_Keeper K mg CK) : MetRD P w K mg base 17 CK "path" (spKPath mg CK CT Fam) [] :=
  metRD_of 3 1 KK.cl KK.m_path (by simp) rfl (fun T kV doc pm an cdv ct us its hu hi => match us, its, hu, hi with | [_, _, _], [_], _, _ => ⟨_, rfl, rfl⟩) sc_Keeper_path (fun vs H Q E h => by obtain ⟨S0, p, l, t, b, v, es, i, sz, r, _, rfl, _⟩ := h; rfl) (kpath_body T A KK)
theorem ok_kpath0 {cc : Addr} (T : Txt K mg cc) (A : SlA P w K mg base Fam) (KK : K_Keeper K mg CK) : MetRD P w K mg base 17 CK "path" (spKPath mg CK CT Fam) [.non] :=
  metRD_of 2 0 KK.cl KK.m_path (by simp) rfl (fun T kV doc pm an cdv ct us its hu hi => match us, its, hu, hi with | [_, _], [_], _, _ => ⟨_, rfl, rfl⟩) sc_Keeper_path (fun vs H Q E h => by obtain ⟨S0, p, l, t, b, v, es, i, sz, r, _, rfl, _⟩ := h; rfl) (kpath_body T A KK)
def olIn (n : Nat) (sz : Option Int) (i : Int) : Prop := ∃ k, cntOf n sz = some k ∧ 0 ≤ i ∧ i ≤ (k : Int)
def spKGrow (mg : Str → Option Value) (CK CT : Addr) (Fam : Sys → Prop) : Sp := fun vs H Q E => ∃ (S0 : Sys) (p : Addr) (l : Nat) (t b v : Addr) (es : List En) (i : Int) (sz : Option Int) (r : Nat), Fam S0 ∧ vs = [.ref p, .int i, szV sz] ∧ KpAt CK CT S0 H p l t b v es ∧ S0.ok H (r + 320) ∧
  (∀ k n, cntOf es.length sz = some k → i = ((n : Nat) : Int) → n ≤ k → ∀ q ys H', Ext H H' → H q = none → H' q = some (.lst ys) → S0.ok H' r → DenL S0 H' ys (growT ((es.map (leafT l)).take k) n) → Q (.ref q) H') ∧
  (¬ olIn es.length sz i → ∀ D, mg "NoPlace" = some (.ref D) → ∀ H', Ext H H' → S0.ok H' r → E (.ref D) none H')
theorem kgrow_body {cc : Addr} (T : Txt K mg cc) (A : SlA P w K mg base Fam) (KK : K_Keeper K mg CK) : ∀ (f : Addr) (cdv : Value) (A' : Around) (outer : List Env) (s : Shared) (H : Hp) (vs : List V) (Q : VK) (E : XK), Room 16 (A'.deeper (envOfC "Keeper.growth" (defScope s_Keeper_growth) s.heap.objs.size f cdv)) → spKGrow mg CK CT Fam vs H Q E →
      ∃ t, PSs (cxOf (L2.CX P w) P w K mg base N_Keeper_growth "Keeper.growth" (defScope s_Keeper_growth) f cdv A' outer s H E) (defBody s_Keeper_growth) t ∧ t { nx := fun _ H' => Q .non H', rt := Q } (start N_Keeper_growth vs) H := by
  intro f cdv A' outer s H vs Q E hr h
  have Z := T.Z
  have M_first := ok_first (CT := CT) T A KK
  have M_within := ok_within (P := P) (w := w) (base := base) T KK
  have C_growth_of := ok_growth_of T A (ok_split T) (ok_top_of T A) 10
  obtain ⟨S0, p, l, t, b, v, es, i, sz, r, hF, rfl, hk, hok, q1, q2⟩ := h
  have G := A.good hF
  obtain ⟨dx, hp⟩ := hk.at_
  have kf := kpF_at S0.f (l : Int) t b v
  refine ⟨_, (pss_cons (ps_set (i := 3) sc_Keeper_growth.nd rfl (Or.inl rfl) (pe_mtx M_first (takes_of rfl rfl rfl rfl) hr (by omega) (pv 0) (pa_cons (pv 2) pa_nil)))
  (pss_cons (ps_expr (pe_mtx M_within (takes_of rfl rfl rfl rfl) hr (by omega) (pv 0) (pa_cons (pv 1) (pa_cons (pe_op op_add (pe_callB call_len_seq rfl Z.len PySem.boot_len (pa_cons (pv 3) pa_nil)) pe_int) pa_nil))))
  (pss_one (ps_ret (pe_c C_growth_of hr (by omega) rfl (pa_cons (pe_fld (pv 0) rfl) (pa_cons (pv 3) (pa_cons (pv 1) pa_nil)))))))), ?_⟩
  refine ⟨_, rfl, p, dx, _, rfl, hp, kno "first", _, rfl, S0, p, l, t, b, v, es, sz, _, hF, rfl, hk, hok, fun k hc q ys H1 x1 k1 nq hq hd => ?_, fun hc D hD => q2 (fun ⟨k, z, _⟩ => by rw [hc] at z; cases z) D hD H (Ext.refl _) (G.less hok (by omega))⟩
  have hle := cnt_le hc
  have hl := hd.len
  rw [List.length_take, List.length_map, Nat.min_eq_left hle] at hl
  have h20 := hk.sz.2
  have hp1 := x1.ins hp
  have ct := costT_le k
  have ltk : ((es.map (leafT l)).take k).length = k := by rw [List.length_take, List.length_map, Nat.min_eq_left hle]
  refine ⟨_, rfl, p, dx, _, rfl, hp1, kno "within", _, rfl, _, rfl, q, ys, rfl, .inl (SqL.of hq), _, _, rfl, rfl, .ref p, i, _, rfl, fun hin => ?_, fun hout D hD => q2 (fun ⟨k', z, z1, z2⟩ => hout ?_) D hD H1 x1 (G.less (G.keep k1 hok) (by omega))⟩
  · obtain ⟨n, rfl⟩ := Int.eq_ofNat_of_zero_le hin.1
    have hnk : n ≤ k := by omega
    refine ⟨_, rfl, p, CK, dx, _, _, rfl, hp1, KK.cl, KK.n_seal, kf.1, _, rfl, _, rfl, S0, q, ys, _, n, r, hF, rfl, SqL.of hq, hd, by decide, by rw [ltk]; show _ ≤ 512; omega, by omega, by omega, by rw [ltk]; exact G.less (G.keep k1 hok) (by omega), fun q3 zs H2 x2 nq3 hq3 ok2 d2 => ?_⟩
    exact q1 k n hc rfl hnk q3 zs H2 (x1.trans x2) (x1.free nq3) hq3 ok2 d2
  · rw [hc] at z
    cases z
    omega
theorem ok_kgrow {cc : Addr} (T : Txt K mg cc) (A : SlA P w K mg base Fam) (KK : K_Keeper K mg CK) : MetRD P w K mg base 17 CK "growth" (spKGrow mg CK CT Fam) [] :=
  metRD_of 3 1 KK.cl KK.m_growth (by simp) rfl (fun T kV doc pm an cdv ct us its hu hi => match us, its, hu, hi with | [_, _, _], [_], _, _ => ⟨_, rfl, rfl⟩) sc_Keeper_growth (fun vs H Q E h => by obtain ⟨S0, p, l, t, b, v, es, i, sz, r, _, rfl, _⟩ := h; rfl) (kgrow_body T A KK)
theorem ok_kgrow0 {cc : Addr} (T : Txt K mg cc) (A : SlA P w K mg base Fam) (KK : K_Keeper K mg CK) : MetRD P w K mg base 17 CK "growth" (spKGrow mg CK CT Fam) [.non] :=
  metRD_of 2 0 KK.cl KK.m_growth (by simp) rfl (fun T kV doc pm an cdv ct us its hu hi => match us, its, hu, hi with | [_, _], [_], _, _ => ⟨_, rfl, rfl⟩) sc_Keeper_growth (fun vs H Q E h => by obtain ⟨S0, p, l, t, b, v, es, i, sz, r, _, rfl, _⟩ := h; rfl) (kgrow_body T A KK)
end

section
variable {P : Program} {w : World} {K : PySem.W.Frag} {mg : Str → Option Value} {base : Heap} {Fam : Sys → Prop} {CK CT C B : Addr}
def spKInit (CK CT : Addr) (Fam : Sys → Prop) : Sp := fun vs H Q _ => ∃ (S0 : Sys) (p dx : Addr) (l : Nat) (r : Nat), Fam S0 ∧ vs = [.ref p, .ref S0.f, .int (l : Int)] ∧ H p = some (.ins CK dx []) ∧ l ≤ 16 ∧ S0.ok H r ∧ ∀ H' t b v, ExtO p H H' → Kp H H' → H t = none → H b = none → H v = none → S0.ok H' r → KpAt CK CT S0 H' p l t b v [] → Q .non H'
theorem free_put {H : Hp} {p d C dx : Addr} {fs : List (Str × V)} (h : upd H p (.ins C dx fs) d = none) : H d = none := by
  by_cases e : d = p
  · rw [e, upd_same] at h; cases h
  · rwa [upd_ne e] at h
theorem kinit_body (A : SlA P w K mg base Fam) (KK : K_Keeper K mg CK) : ∀ (f : Addr) (cdv : Value) (A' : Around) (outer : List Env) (s : Shared) (H : Hp) (vs : List V) (Q : VK) (E : XK), Room 0 (A'.deeper (envOfC "Keeper.__init__" (defScope s_Keeper___init__) s.heap.objs.size f cdv)) → spKInit CK CT Fam vs H Q E →
      ∃ t, PSs (cxOf L2.CX0 P w K mg base N_Keeper___init__ "Keeper.__init__" (defScope s_Keeper___init__) f cdv A' outer s H E).nox (defBody s_Keeper___init__) t ∧ t { nx := fun _ H' => Q .non H', rt := Q } (start N_Keeper___init__ vs) H := by
  intro f cdv A' outer s H vs Q E hr h
  obtain ⟨S0, p, dx, l, r, hF, rfl, hp, hl, hok, q⟩ := h
  have G := A.good hF
  refine ⟨_, (pss_cons (ps_fld (pv 0) (pv 1) rfl)
  (pss_cons (ps_fld (pv 0) (pv 2) rfl)
  (pss_cons (ps_fld (pv 0) (pe_lst pa_nil) rfl)
  (pss_cons (ps_fld (pv 0) (pe_lst pa_nil) rfl)
  (pss_one (ps_fld (pv 0) (pe_lst pa_nil) rfl)))))), ?_⟩
  refine ⟨_, rfl, _, rfl, p, CK, dx, _, rfl, hp, KK.cl, KK.n_seal, by show 0 < 1000; decide, ?_⟩
  have x1 := ExtO.put (o := .ins CK dx (putF "seal" (.ref S0.f) [])) hp
  have k1 := Kp.ins (o := .ins CK dx (putF "seal" (.ref S0.f) [])) hp
  have h1 : upd H p (.ins CK dx (putF "seal" (.ref S0.f) [])) p = some (.ins CK dx (putF "seal" (.ref S0.f) [])) := upd_same
  have n1 : ∀ d, upd H p (.ins CK dx (putF "seal" (.ref S0.f) [])) d = none → H d = none := fun d h => free_put h
  generalize upd H p (.ins CK dx (putF "seal" (.ref S0.f) [])) = H1 at x1 k1 h1 n1 ⊢
  refine ⟨_, rfl, _, rfl, p, CK, dx, _, rfl, h1, KK.cl, KK.n_depth, by show 1 < 1000; decide, ?_⟩
  have x2 := x1.trans (ExtO.put (o := .ins CK dx (putF "depth" (.int (l : Int)) (putF "seal" (.ref S0.f) []))) h1)
  have k2 := k1.trans (Kp.ins (o := .ins CK dx (putF "depth" (.int (l : Int)) (putF "seal" (.ref S0.f) []))) h1)
  have h2 : upd H1 p (.ins CK dx (putF "depth" (.int (l : Int)) (putF "seal" (.ref S0.f) []))) p = some (.ins CK dx (putF "depth" (.int (l : Int)) (putF "seal" (.ref S0.f) []))) := upd_same
  have n2 : ∀ d, upd H1 p (.ins CK dx (putF "depth" (.int (l : Int)) (putF "seal" (.ref S0.f) []))) d = none → H d = none := fun d h => n1 d (free_put h)
  generalize upd H1 p (.ins CK dx (putF "depth" (.int (l : Int)) (putF "seal" (.ref S0.f) []))) = H2 at x2 k2 h2 n2 ⊢
  have key : ∀ {H2 : Hp} {fs : List (Str × V)} {m : Str}, ExtO p H H2 → Kp H H2 → H2 p = some (.ins CK dx fs) → (∀ d, H2 d = none → H d = none) → ∀ t, H2 t = none → ∀ fs', upd (upd H2 t (.lst [])) p (.ins CK dx fs') p = some (.ins CK dx fs') ∧ ExtO p H (upd (upd H2 t (.lst [])) p (.ins CK dx fs')) ∧ Kp H (upd (upd H2 t (.lst [])) p (.ins CK dx fs')) ∧ (∀ d, upd (upd H2 t (.lst [])) p (.ins CK dx fs') d = none → H d = none) ∧ upd (upd H2 t (.lst [])) p (.ins CK dx fs') t = some (.lst []) ∧ (upd H2 t (.lst [])) p = some (.ins CK dx fs) ∧ (∀ a, H2 a = some (.lst []) → a ≠ t ∧ upd (upd H2 t (.lst [])) p (.ins CK dx fs') a = some (.lst [])) := by
    intro H2 fs m x2 k2 h2 n2 t nt fs'
    have npt : p ≠ t := ne_of_none h2 nt
    have h3 : upd H2 t (.lst []) p = some (.ins CK dx fs) := by rw [upd_ne npt]; exact h2
    refine ⟨upd_same, (x2.trans (Ext.new (o := .lst []) nt).o).trans (ExtO.put h3), (k2.trans (Kp.new (o := .lst []) nt)).trans (Kp.ins h3), fun d h => n2 d ?_, by rw [upd_ne npt.symm]; exact upd_same, h3, fun a ha => ?_⟩
    · have h := free_put h
      by_cases e : d = t
      · rw [e, upd_same] at h; cases h
      · rwa [upd_ne e] at h
    · have a1 : a ≠ t := ne_of_none ha nt
      have a2 : a ≠ p := fun z => by rw [z, h2] at ha; cases ha
      exact ⟨a1, by rw [upd_ne a2, upd_ne a1]; exact ha⟩
  refine ⟨by show 0 ≤ sizeLine; decide, fun t nt => ?_⟩
  obtain ⟨h3, x3, k3, n3, t3, g3, m3⟩ := key (m := "") x2 k2 h2 n2 t nt (putF "texts" (.ref t) (putF "depth" (.int (l : Int)) (putF "seal" (.ref S0.f) [])))
  refine ⟨_, rfl, p, CK, dx, _, rfl, g3, KK.cl, KK.n_texts, by show 2 < 1000; decide, ?_⟩
  have nt' := n2 t nt
  generalize upd (upd H2 t (.lst [])) p (.ins CK dx (putF "texts" (.ref t) (putF "depth" (.int (l : Int)) (putF "seal" (.ref S0.f) [])))) = H3 at h3 x3 k3 n3 t3 ⊢
  refine ⟨by show 0 ≤ sizeLine; decide, fun b nb => ?_⟩
  obtain ⟨h4, x4, k4, n4, b4, g4, m4⟩ := key (m := "") x3 k3 h3 n3 b nb (putF "tables" (.ref b) (putF "texts" (.ref t) (putF "depth" (.int (l : Int)) (putF "seal" (.ref S0.f) []))))
  refine ⟨_, rfl, p, CK, dx, _, rfl, g4, KK.cl, KK.n_tables, by show 3 < 1000; decide, ?_⟩
  obtain ⟨tb, t4⟩ := m4 t t3
  have nb' := n3 b nb
  generalize upd (upd H3 b (.lst [])) p (.ins CK dx (putF "tables" (.ref b) (putF "texts" (.ref t) (putF "depth" (.int (l : Int)) (putF "seal" (.ref S0.f) []))))) = H4 at h4 x4 k4 n4 b4 t4 ⊢
  refine ⟨by show 0 ≤ sizeLine; decide, fun v nv => ?_⟩
  obtain ⟨h5, x5, k5, n5, v5, g5, m5⟩ := key (m := "") x4 k4 h4 n4 v nv (putF "leaves" (.ref v) (putF "tables" (.ref b) (putF "texts" (.ref t) (putF "depth" (.int (l : Int)) (putF "seal" (.ref S0.f) [])))))
  refine ⟨_, rfl, p, CK, dx, _, rfl, g5, KK.cl, KK.n_leaves, by show 4 < 1000; decide, ?_⟩
  obtain ⟨tv, t5⟩ := m5 t t4
  obtain ⟨bv, b5⟩ := m5 b b4
  refine q _ t b v x5 k5 nt' nb' (n4 v nv) (G.keep k5 hok) ⟨⟨dx, by rw [h5, kpF_mk]⟩, t5, ⟨[], b5, rfl, fun i q e a _ => by simp at a⟩, ⟨[], v5, DenL.nil⟩, (fun e h => nomatch h), ⟨hl, by decide⟩, ⟨tb, tv, bv⟩⟩
theorem ok_kinit (A : SlA P w K mg base Fam) (KK : K_Keeper K mg CK) : Mak P w K mg base 1 "Keeper" CK (spKInit CK CT Fam) [] :=
  mak_ofD 3 1 KK.mgC KK.made (by simp) rfl (fun T kV doc pm an cdv ct us its hu hi => match us, its, hu, hi with | [_, _, _], [_], _, _ => ⟨_, rfl, rfl⟩) sc_Keeper___init__ (fun vs H Q E h => by obtain ⟨S0, p, dx, l, r, _, rfl, _⟩ := h; rfl) (kinit_body A KK)
theorem ok_kinit8 (A : SlA P w K mg base Fam) (KK : K_Keeper K mg CK) : Mak P w K mg base 1 "Keeper" CK (spKInit CK CT Fam) [.int 8] :=
  mak_ofD 2 0 KK.mgC KK.made (by simp) rfl (fun T kV doc pm an cdv ct us its hu hi => match us, its, hu, hi with | [_, _], [_], _, _ => ⟨_, rfl, rfl⟩) sc_Keeper___init__ (fun vs H Q E h => by obtain ⟨S0, p, dx, l, r, _, rfl, _⟩ := h; rfl) (kinit_body A KK)
def lastKv (es : List En) : List (Int × Str) := match es.getLast? with
  | none => []
  | some e => e.2
def spKAdd (mg : Str → Option Value) (CK CT : Addr) (Fam : Sys → Prop) : Sp := fun vs H Q E => ∃ (S0 : Sys) (p : Addr) (l : Nat) (t b v : Addr) (es : List En) (tx : List Nat) (r : Nat), Fam S0 ∧ vs = [.ref p, .str (S tx)] ∧ KpAt CK CT S0 H p l t b v es ∧ es.length < 300 ∧ AscL tx ∧ tx.length ≤ 800 ∧ S0.ok H (r + 2090) ∧
  (∀ kv, runL l 0 (TL.spl [10] 0 [] tx) (lastKv es) = .ok kv → kv.length ≤ 62 ∧ ∀ H', ExtM [t, b, v] H H' → S0.ok H' r → KpAt CK CT S0 H' p l t b v (es ++ [(tx, kv)]) → Q (.int (es.length : Int)) H') ∧
  (∀ i, runL l 0 (TL.spl [10] 0 [] tx) (lastKv es) = .error i → ∀ D, mg "BadRow" = some (.ref D) → ∀ dx H', Ext H H' → S0.ok H' r → H dx = none → H' dx = some (.xd [("row", .int (i : Int))]) → E (.ref D) (some dx) H')
theorem last_get {es : List En} (h : es ≠ []) : ∃ e, es[es.length - 1]? = some e ∧ lastKv es = e.2 := by
  have hl : 0 < es.length := List.length_pos_iff.mpr h
  have e1 : es.getLast? = es[es.length - 1]? := List.getLast?_eq_getElem? ..
  have e2 : es[es.length - 1]? = some (es[es.length - 1]'(by omega)) := List.getElem?_eq_getElem _
  refine ⟨_, e2, ?_⟩
  unfold lastKv
  rw [e1, e2]
theorem ok_kadd {cc : Addr} (T : Txt K mg cc) (A : SlA P w K mg base Fam) (KT : K_Table K mg CT) (KK : K_Keeper K mg CK) (EI : ExcI K mg "BadRow" "BookError" "row" "BadRow.__init__" s_BadRow___init__ ["self", "row"] C B) : MetR P w K mg base 26 CK "add" (spKAdd mg CK CT Fam) := by
  have Z := T.Z
  have C_Table := ok_tinit A KT
  have C_changed := ok_changed T A KT EI
  have M_head := ok_thead T A KT
  have C_leaf_seal := ok_leaf_seal T A
  refine metR_of KK.cl KK.m_add sc_Keeper_add (fun vs H Q E h => ?_) (fun f cdv A' outer s H vs Q E hr h => ?_)
  · obtain ⟨S0, p, l, t, b, v, es, tx, r, _, rfl, _⟩ := h
    rfl
  obtain ⟨S0, p, l, t, b, v, es, tx, r, hF, rfl, hk, hel, ha, htl, hok, q1, q2⟩ := h
  have G := A.good hF
  have e16 : sizeLine = 16777216 := sizeLine_eq
  obtain ⟨dx, hp⟩ := hk.at_
  have kf := kpF_at S0.f (l : Int) t b v
  refine ⟨_, (pss_cons (ps_set (i := 2) sc_Keeper_add.nd rfl (Or.inl rfl) (pe_mk C_Table hr (by omega) rfl (pa_cons (pe_fld (pv 0) rfl) (pa_cons (pe_fld (pv 0) rfl) pa_nil))))
  (Evl.pss_cut (ps_if (pt_cmpR op_gt (pe_callB call_len_seq rfl Z.len PySem.boot_len (pa_cons (pe_fld (pv 0) rfl) pa_nil)) pe_int (nomark _)) (pss_one (ps_set (i := 2) sc_Keeper_add.nd rfl (Or.inl rfl) (pe_ix ix_list (pe_fld (pv 0) rfl) (pe_op op_sub (pe_callB call_len_seq rfl Z.len PySem.boot_len (pa_cons (pe_fld (pv 0) rfl) pa_nil)) pe_int) (fun _ _ => rfl)))) pss_nil)
  (pss_cons (ps_set (i := 3) sc_Keeper_add.nd rfl (Or.inl rfl) (pe_cx C_changed (takes_of rfl rfl rfl rfl) hr (by omega) rfl (pa_cons (pv 2) (pa_cons (pv 1) (pa_cons (pe_fld (pv 0) rfl) pa_nil)))))
  (pss_cons (ps_expr (pe_bm PySem.F.plainAttrs_list PySem.F.slot_list_append PySem.F.type_list_append mt_append (pe_fld (pv 0) rfl) (pa_cons (pv 1) pa_nil)))
  (pss_cons (ps_expr (pe_bm PySem.F.plainAttrs_list PySem.F.slot_list_append PySem.F.type_list_append mt_append (pe_fld (pv 0) rfl) (pa_cons (pv 3) pa_nil)))
  (pss_cons (ps_expr (pe_bm PySem.F.plainAttrs_list PySem.F.slot_list_append PySem.F.type_list_append mt_append (pe_fld (pv 0) rfl) (pa_cons (pe_c C_leaf_seal hr (by omega) rfl (pa_cons (pe_fld (pv 0) rfl) (pa_cons (pv 1) (pa_cons (pe_mt0 M_head hr (by omega) (pv 3)) pa_nil)))) pa_nil)))
  (pss_one (ps_ret (pe_op op_sub (pe_callB call_len_seq rfl Z.len PySem.boot_len (pa_cons (pe_fld (pv 0) rfl) pa_nil)) pe_int))))))))), ?_⟩
  refine ⟨_, rfl, p, CK, dx, _, _, rfl, hp, KK.cl, KK.n_seal, kf.1, _, rfl, p, CK, dx, _, _, rfl, hp, KK.cl, KK.n_depth, kf.2.1, fun o ox no nox nex => ?_⟩
  have y1 : Ext H (upd (upd H ox (.own o)) o (.ins CT ox [])) := (Ext.new nox).trans (Ext.new (by rw [upd_ne nex.symm]; exact no))
  have ky1 : Kp H (upd (upd H ox (.own o)) o (.ins CT ox [])) := (Kp.new nox).trans (Kp.new (by rw [upd_ne nex.symm]; exact no))
  refine ⟨S0, o, ox, l, r + 2090, hF, rfl, upd_same, by have := hk.sz.1; omega, G.keep ky1 hok, fun H1 d1 xo1 kp1 nd1 ok1 tb1 => ⟨rfl, ?_⟩⟩
  have x1 : Ext H H1 := xo1.ext y1 no
  have hk1 := hk.ext G x1
  have hp1 := x1.ins hp
  obtain ⟨qs, hb, hql, hq⟩ := hk1.tb
  have nonr : ∀ {kv : List (Int × Str)}, kv = [] → TbOk l kv := fun {kv} e => by subst e; exact ⟨List.nodup_nil, (fun e h => nomatch h), (fun e h => nomatch h)⟩
  refine ⟨fun σ H' => ∃ q d kv, σ = [some (.ref p), some (.str (S tx)), some (.ref q), none] ∧ H1 = H' ∧ TbAt CT S0.f H1 q d l kv ∧ kv.Perm (lastKv es) ∧ TbOk l (lastKv es) ∧ (lastKv es).length ≤ 62, ?_, ?_⟩
  · refine ⟨_, rfl, p, CK, dx, _, _, rfl, hp1, KK.cl, KK.n_tables, kf.2.2.2.1, b, _, rfl, .inl (SqL.of hb), _, _, rfl, rfl, _, rfl, ?_⟩
    rw [List.length_map, hql]
    by_cases c : es = []
    · subst c
      exact iteF ⟨o, d1, [], rfl, rfl, tb1, .nil, nonr rfl, Nat.zero_le _⟩
    · have hl : 0 < es.length := List.length_pos_iff.mpr c
      rw [decide_eq_true (show (0 : Int) < (es.length : Int) by omega)]
      refine iteT ?_
      obtain ⟨e, he, hle⟩ := last_get c
      have hqn : qs[es.length - 1]? = some (qs[es.length - 1]'(by omega)) := List.getElem?_eq_getElem _
      generalize qs[es.length - 1]'(by omega) = qn at hqn
      obtain ⟨d, kv, pm, tb⟩ := hq _ qn e hqn he
      obtain ⟨hke, hkl, _⟩ := hk.ok e (List.mem_of_getElem? he)
      refine ⟨_, rfl, p, CK, dx, _, _, rfl, hp1, KK.cl, KK.n_tables, kf.2.2.2.1, _, rfl, p, CK, dx, _, _, rfl, hp1, KK.cl, KK.n_tables, kf.2.2.2.1, b, _, rfl, .inl (SqL.of hb), _, _, rfl, rfl, b, _, _, .ref qn, rfl, rfl, SqL.of hb, ?_, ?_⟩
      · rw [List.length_map, hql, show (es.length : Int) - 1 = ((es.length - 1 : Nat) : Int) by omega]
        exact atI_nat (by rw [List.getElem?_map, hqn]; rfl)
      · exact ⟨qn, d, kv, rfl, rfl, tb, by rw [hle]; exact pm, by rw [hle]; exact hke, by rw [hle]; exact hkl⟩
  rintro σ H' ⟨q, d, kv, rfl, rfl, tbl, pml, hkl, hll⟩
  have hkv := hkl.perm pml
  have rl := pml.length_eq
  refine ⟨_, rfl, _, rfl, _, rfl, p, CK, dx, _, _, rfl, hp1, KK.cl, KK.n_depth, kf.2.1, S0, q, d, l, kv, tx, r + 2090, hF, rfl, tbl, hkv, ha, by omega, ok1, fun rows kv' o2 d2 H2 perm hrun x2 no2 nd2 ok2 tb2 hk2 => ?_, fun rows i perm hrun D hD dx2 H2 x2 ok2 ndx hdx => ?_⟩
  · obtain ⟨kvc, hrc, pmc⟩ := (hrun ▸ run_perm (TL.spl [10] 0 [] tx) 0 rows (lastKv es) ((hkv.perm perm).nd) (perm.trans pml)).ok
    obtain ⟨hlen, q1⟩ := q1 kvc hrc
    have hkc : TbOk l kvc := hk2.perm pmc.symm
    have xx := x1.trans x2
    have hk2' := hk.ext G xx
    have hp2 := xx.ins hp
    obtain ⟨qs2, hb2, hql2, hq2⟩ := hk2'.tb
    obtain ⟨ls, hv2, hls⟩ := hk2'.lv
    have htx2 := hk2'.tx
    have h20 := hk.sz
    obtain ⟨n1, n2, n3⟩ := hk.ne
    have hlsl := hls.len
    rw [List.length_map] at hlsl
    have wasM : ∀ a ∈ [t, b, v], ∃ xs, H a = some (.lst xs) := fun a h => by
      rcases List.mem_cons.mp h with rfl | h
      · exact ⟨_, hk.tx⟩
      rcases List.mem_cons.mp h with rfl | h
      · obtain ⟨_, z, _⟩ := hk.tb; exact ⟨_, z⟩
      rcases List.mem_cons.mp h with rfl | h
      · obtain ⟨_, z, _⟩ := hk.lv; exact ⟨_, z⟩
      cases h
    have m0 : ExtM [t, b, v] H H2 := xx.m _ wasM
    have it : t ∈ [t, b, v] := List.mem_cons_self
    have ib : b ∈ [t, b, v] := List.mem_cons_of_mem _ List.mem_cons_self
    have iv : v ∈ [t, b, v] := List.mem_cons_of_mem _ (List.mem_cons_of_mem _ List.mem_cons_self)
    have was2 : ∀ a ∈ [t, b, v], ∃ xs, H2 a = some (.lst xs) := fun a h => by
      obtain ⟨xs, z⟩ := wasM a h
      exact ⟨xs, xx.lst z⟩
    have m2 : ExtM [t, b, v] H2 H2 := (Ext.refl H2).m _ was2
    refine ⟨_, rfl, p, CK, dx, _, _, rfl, hp2, KK.cl, KK.n_texts, kf.2.2.1, .inl ⟨rfl, _, SqL.of htx2⟩, _, rfl, t, _, .str (S tx), rfl, rfl, htx2, by rw [List.length_map]; omega, ?_⟩
    have m3 := m2.set (o := .lst ((es.map fun e => V.str (S e.1)) ++ [.str (S tx)])) it
    have k3 := Kp.lst (o := .lst ((es.map fun e => V.str (S e.1)) ++ [.str (S tx)])) htx2
    have t3 : upd H2 t (.lst ((es.map fun e => V.str (S e.1)) ++ [.str (S tx)])) t = some (.lst ((es.map fun e => V.str (S e.1)) ++ [.str (S tx)])) := upd_same
    have b3 : upd H2 t (.lst ((es.map fun e => V.str (S e.1)) ++ [.str (S tx)])) b = some (.lst (qs2.map V.ref)) := by rw [upd_ne n1.symm]; exact hb2
    have v3 : upd H2 t (.lst ((es.map fun e => V.str (S e.1)) ++ [.str (S tx)])) v = some (.lst ls) := by rw [upd_ne n2.symm]; exact hv2
    have ok3 := G.keep k3 ok2
    generalize upd H2 t (.lst ((es.map fun e => V.str (S e.1)) ++ [.str (S tx)])) = H3 at m3 t3 b3 v3 ok3 ⊢
    have hp3 := m3.ins hp2
    refine ⟨_, rfl, p, CK, dx, _, _, rfl, hp3, KK.cl, KK.n_tables, kf.2.2.2.1, .inl ⟨rfl, _, SqL.of b3⟩, _, rfl, b, _, .ref o2, rfl, rfl, b3, by rw [List.length_map, hql2]; omega, ?_⟩
    have m4 := m3.set (o := .lst (qs2.map V.ref ++ [.ref o2])) ib
    have k4 := Kp.lst (o := .lst (qs2.map V.ref ++ [.ref o2])) b3
    have t4 : upd H3 b (.lst (qs2.map V.ref ++ [.ref o2])) t = some (.lst ((es.map fun e => V.str (S e.1)) ++ [.str (S tx)])) := by rw [upd_ne n1]; exact t3
    have b4 : upd H3 b (.lst (qs2.map V.ref ++ [.ref o2])) b = some (.lst (qs2.map V.ref ++ [.ref o2])) := upd_same
    have v4 : upd H3 b (.lst (qs2.map V.ref ++ [.ref o2])) v = some (.lst ls) := by rw [upd_ne n3.symm]; exact v3
    have ok4 := G.keep k4 ok3
    generalize upd H3 b (.lst (qs2.map V.ref ++ [.ref o2])) = H4 at m4 t4 b4 v4 ok4 ⊢
    have hp4 := m4.ins hp2
    have tb4 := tb2.extM m4
    obtain ⟨⟨dxo, hpo⟩, _, _⟩ := id tb4
    have htx : txtOk (S tx) = true := txt_of_tl fun c hc => by
      have := ha c hc
      omega
    have cp := costP_le h20.1 (show kv'.length ≤ 63 by rw [pmc.length_eq]; omega)
    refine ⟨_, rfl, p, CK, dx, _, _, rfl, hp4, KK.cl, KK.n_leaves, kf.2.2.2.2, .inl ⟨rfl, _, SqL.of v4⟩, _, rfl, p, CK, dx, _, _, rfl, hp4, KK.cl, KK.n_seal, kf.1, _, rfl, _, rfl, o2, dxo, _, rfl, hpo, (tbF_no _ _ _).2.2.2.2.2.1, S0, o2, d2, l, kv', r + 1, hF, rfl, tb4, hk2, by omega, G.less ok4 (by omega), fun u rws H5 x5 ok5 pr pw du => ?_⟩
    rw [srt_eq hkc pmc pr pw] at du
    refine ⟨S0, .str (S tx), u, .str (S tx), _, r, hF, rfl, ok5, G.str _ ok5 htx, du, fun lf H6 x6 ok6 dl => ?_⟩
    have m6 := (m4.then x5).then x6
    have v6 := x6.lst (x5.lst v4)
    refine ⟨v, ls, lf, rfl, rfl, v6, by omega, ?_⟩
    have m7 := m6.set (o := .lst (ls ++ [lf])) iv
    have k7 := Kp.lst (o := .lst (ls ++ [lf])) v6
    have t7 : upd H6 v (.lst (ls ++ [lf])) t = some (.lst ((es.map fun e => V.str (S e.1)) ++ [.str (S tx)])) := by rw [upd_ne n2]; exact x6.lst (x5.lst t4)
    have b7 : upd H6 v (.lst (ls ++ [lf])) b = some (.lst (qs2.map V.ref ++ [.ref o2])) := by rw [upd_ne n3]; exact x6.lst (x5.lst b4)
    have v7 : upd H6 v (.lst (ls ++ [lf])) v = some (.lst (ls ++ [lf])) := upd_same
    have ok7 := G.keep k7 ok6
    have dl7 := G.mono k7.gr dl
    generalize upd H6 v (.lst (ls ++ [lf])) = H7 at m7 t7 b7 v7 ok7 dl7 ⊢
    have hp7 := m7.ins hp2
    have m8 : ExtM [t, b, v] H H7 := by
      refine ⟨fun a o hm e n => m7.keep a o hm (m0.keep a o hm e n) n, fun a ks e => ?_, wasM⟩
      obtain ⟨g1, e1⟩ := m0.grow a ks e
      obtain ⟨g2, e2⟩ := m7.grow a _ e1
      exact ⟨g1 ++ g2, by rw [e2, List.append_assoc]⟩
    refine ⟨_, rfl, p, CK, dx, _, _, rfl, hp7, KK.cl, KK.n_texts, kf.2.2.1, t, _, rfl, .inl (SqL.of t7), _, _, rfl, rfl, ?_⟩
    have e9 : (((((es.map fun e => V.str (S e.1)) ++ [V.str (S tx)]).length : Nat) : Int) - 1) = (es.length : Int) := by
      rw [List.length_append, List.length_map]
      show ((es.length + 1 : Nat) : Int) - 1 = _
      omega
    show Q (.int ((((es.map fun e => V.str (S e.1)) ++ [V.str (S tx)]).length : Int) - 1)) H7
    rw [e9]
    refine q1 H7 m8 ok7 ⟨⟨dx, hp7⟩, by rw [t7, List.map_append]; rfl, ⟨qs2 ++ [o2], by rw [b7, List.map_append]; rfl, by rw [List.length_append, List.length_append, hql2]; rfl, fun i q e a c => ?_⟩, ⟨ls ++ [lf], v7, ?_⟩, fun e he => ?_, ⟨h20.1, by rw [List.length_append]; show es.length + 1 ≤ 300; omega⟩, ⟨n1, n2, n3⟩⟩
    · by_cases ci : i < qs2.length
      · rw [List.getElem?_append_left ci] at a
        rw [List.getElem?_append_left (by omega)] at c
        obtain ⟨d', kv0, g1, g2⟩ := hq2 i q e a c
        exact ⟨d', kv0, g1, g2.extM m7⟩
      · rw [List.getElem?_append_right (by omega)] at a c
        rw [← hql2] at c
        cases hj : i - qs2.length with
        | zero =>
          rw [hj] at a c
          cases a
          cases c
          exact ⟨d2, kv', pmc, tb2.extM m7⟩
        | succ j =>
          rw [hj] at a
          simp at a
    · rw [List.map_append]
      exact (hls.mono G m7.gr).append (DenL.one dl7)
    · rcases List.mem_append.mp he with h | h
      · exact hk.ok e h
      · rw [List.mem_singleton.mp h]
        exact ⟨hkc, hlen, htx⟩
  · have hr2 := (hrun ▸ run_perm (TL.spl [10] 0 [] tx) 0 rows (lastKv es) ((hkv.perm perm).nd) (perm.trans pml)).error
    exact q2 i hr2 D hD dx2 H2 (x1.trans x2) (G.less ok2 (by omega)) (x1.free ndx) hdx
end

/-! ### a leaf and a path come to a top, or BadPaper -/
/-- no list by its type, and none equal to the empty list -/
structure Odd (K : PySem.W.Frag) (H : Hp) (v : V) : Prop where
  ty : ∃ t, TyX K H v t ∧ PySem.W.kitOne K t (.type "list") = some false
  ne : ∃ d, Dp K H v d ∧ SeqAt.shaped d = true ∧ PyData.eqv d (.list []) = false
def spLast (K : PySem.W.Frag) (mg : Str → Option Value) : Sp := fun vs H Q E => ∃ v, vs = [v] ∧
  ((∃ a ys, v = .ref a ∧ H a = some (.lst ys) ∧ (∀ y, ys.getLast? = some y → Q y H) ∧ (ys = [] → ∀ C, mg "BadPaper" = some (.ref C) → E (.ref C) none H)) ∨
   ((∃ t, TyX K H v t ∧ PySem.W.kitOne K t (.type "list") = some false) ∧ ∀ C, mg "BadPaper" = some (.ref C) → E (.ref C) none H))
/-- the sides, as they are kept -/
structure SideL (S : Sys) (H : Hp) (vs : List V) (ss : List (Tm × Bool)) : Prop where
  len : vs.length = ss.length
  at_ : ∀ (i : Nat) (v : V) (s : Tm × Bool), vs[i]? = some v → ss[i]? = some s → ∃ q u, v = .ref q ∧ H q = some (.tup [u, .bl s.2]) ∧ S.den H u s.1
theorem SideL.nil {S : Sys} {H : Hp} : SideL S H [] [] := ⟨rfl, fun i v t a _ => by simp at a⟩
theorem SideL.mono {K : PySem.W.Frag} {S : Sys} (G : S.Good K) {H H' : Hp} {vs : List V} {ss : List (Tm × Bool)} (e : Gr H H') (h : SideL S H vs ss) : SideL S H' vs ss := by
  refine ⟨h.len, fun i v s a b => ?_⟩
  obtain ⟨q, u, rfl, h1, h2⟩ := h.at_ i v s a b
  exact ⟨q, u, rfl, e.keep _ _ h1 True.intro (fun _ z => nomatch z), G.mono e h2⟩
theorem SideL.snoc {S : Sys} {H : Hp} {vs : List V} {ss : List (Tm × Bool)} {q : Addr} {u : V} {s : Tm × Bool} (h : SideL S H vs ss) (hq : H q = some (.tup [u, .bl s.2])) (hu : S.den H u s.1) : SideL S H (vs ++ [.ref q]) (ss ++ [s]) := by
  refine ⟨by rw [List.length_append, List.length_append, h.len]; rfl, fun i v t a b => ?_⟩
  have hl := h.len
  by_cases c : i < vs.length
  · rw [List.getElem?_append_left c] at a
    rw [List.getElem?_append_left (by omega)] at b
    exact h.at_ i v t a b
  · rw [List.getElem?_append_right (by omega)] at a b
    rw [← hl] at b
    cases hj : i - vs.length with
    | zero =>
      rw [hj] at a b
      cases a
      cases b
      exact ⟨q, u, rfl, hq, hu⟩
    | succ j =>
      rw [hj] at a
      simp at a
theorem getLast_at {α : Type} {l : List α} {x : α} (h : l.getLast? = some x) : l[l.length - 1]? = some x := by
  rw [← h, List.getLast?_eq_getElem?]
section
variable {P : Program} {w : World} {K : PySem.W.Frag} {mg : Str → Option Value} {base : Heap} {Fam : Sys → Prop}
theorem ok_last {cc : Addr} (T : Txt K mg cc) : CalX P w K mg base 1 "last_of" (spLast K mg) := by
  have Z := T.Z
  obtain ⟨C_BadPaper, g_BadPaper, F_BadPaper⟩ := T.x_BadPaper.ex
  refine calX_of T.d_last_of sc_last_of (fun vs H Q E h => ?_) (fun f cdv A' outer s H vs Q E hr h => ?_)
  · obtain ⟨v, rfl, _⟩ := h
    rfl
  obtain ⟨v, rfl, h⟩ := h
  refine ⟨_, (pss_cons (ps_if (PW.pt (pw_or (pt_not (pt_val (pe_callB call_isi rfl Z.isinstance (by decide +kernel) (pa_cons (pv 0) (pa_cons (pe_bltn (v := .ty "list") rfl Z.list (by decide +kernel) rfl) pa_nil))))) (pw_or1 (pt_cmpR op_eq (pe_callB call_len_seq rfl Z.len PySem.boot_len (pa_cons (pv 0) pa_nil)) pe_int (nomark _))))) (pss_one (ps_raiseX F_BadPaper g_BadPaper rfl (takes_of rfl rfl rfl rfl) rfl)) pss_nil)
  (pss_one (ps_ret (pe_ix ix_list (pv 0) (pe_op op_sub (pe_callB call_len_seq rfl Z.len PySem.boot_len (pa_cons (pv 0) pa_nil)) pe_int) (fun _ _ => rfl))))), ?_⟩
  rcases h with ⟨a, ys, rfl, ha, q1, q2⟩ | ⟨⟨t, hty, hk⟩, q⟩
  · refine ⟨_, rfl, .ref a, .ty "list", _, _, true, rfl, .ty "list", .base (.lst ha), kit_ty (by decide +kernel), true, rfl, ?_⟩
    refine ⟨_, rfl, a, ys, rfl, .inl (SqL.of ha), rfl, _, rfl, ite2 (fun c => ?_) (fun c => ?_)⟩
    · have c' : (ys.length : Int) = 0 := V.int.inj (of_decide_eq_true c)
      exact q2 (List.eq_nil_of_length_eq_zero (by omega)) _ g_BadPaper
    · have c' : ys.length ≠ 0 := fun z => c (decide_eq_true (by rw [z] <;> rfl))
      obtain ⟨y, hy⟩ : ∃ y, ys.getLast? = some y := by
        cases hl : ys.getLast? with
        | none => rw [List.getLast?_eq_none_iff] at hl; rw [hl] at c'; exact absurd rfl c'
        | some y => exact ⟨y, rfl⟩
      refine ⟨_, rfl, _, rfl, a, ys, rfl, .inl (SqL.of ha), _, 1, rfl, rfl, a, ys, _, y, rfl, rfl, SqL.of ha, ?_, q1 y hy⟩
      rw [show (ys.length : Int) - 1 = ((ys.length - 1 : Nat) : Int) by omega, atI_nat]
      exact getLast_at hy
  · exact ⟨_, rfl, v, .ty "list", _, _, false, rfl, .ty "list", hty, hk, false, rfl, q _ g_BadPaper⟩
theorem splitN_log {n L : Nat} (h : 2 ≤ n) (hl : n.log2 ≤ L) : (splitN n).log2 ≤ L ∧ (n - splitN n).log2 ≤ L := by
  have h1 := splitN_lt h
  have h2 := splitN_pos n
  refine ⟨?_, ?_⟩
  · have h3 : splitN n < 2 ^ (L + 1) := Nat.lt_trans h1 ((Nat.log2_lt (by omega)).mp (by omega))
    exact Nat.le_of_lt_succ ((Nat.log2_lt (by omega)).mpr h3)
  · by_cases e : n - splitN n = 0
    · rw [e]; exact Nat.zero_le _
    · have h3 : n - splitN n < 2 ^ (L + 1) := Nat.lt_of_le_of_lt (Nat.sub_le _ _) ((Nat.log2_lt (by omega)).mp (by omega))
      exact Nat.le_of_lt_succ ((Nat.log2_lt e).mpr h3)
theorem eqv_cons_nil {d : PyData} {ds : List PyData} : PyData.eqv (.list (d :: ds)) (.list []) = false := rfl
theorem DenL.odd {S : Sys} (G : S.Good K) {H : Hp} {a p : Addr} {ys : List V} {ts : List Tm} (ha : SqL K H a ys) (hp : SqL K H p []) (h : DenL S H ys ts) (hd : ∀ t ∈ ts, t.dep ≤ 60) :
    ∃ d e, Dp K H (.ref a) d ∧ Dp K H (.ref p) e ∧ SeqAt.shaped d = true ∧ SeqAt.shaped e = true ∧ PyData.eqv d e = decide (ts.length = 0) := by
  obtain ⟨ds, a1, b, c, e⟩ := DenL.same G h h hd
  have c' : (PyData.list ds).canLay0 = true := c
  refine ⟨.list ds, .list [], .lst ha a1, .lst hp .nil, shaped_of c' (by show PyData.depthAll ds + 1 ≤ 64; omega), by decide +kernel, ?_⟩
  cases a1 with
  | nil =>
    rw [decide_eq_true (show ts.length = 0 from h.len.symm)]
    rfl
  | cons _ _ =>
    rw [decide_eq_false (show ts.length ≠ 0 from fun z => by rw [← h.len] at z; cases z), eqv_cons_nil]
end

def spRisen (K : PySem.W.Frag) (mg : Str → Option Value) (Fam : Sys → Prop) : Sp := fun vs H Q E => ∃ (S : Sys) (leaf : V) (lt : Tm) (place n : Nat) (v : V) (r : Nat), Fam S ∧ vs = [.ref S.f, leaf, .int (place : Int), .int (n : Int), v] ∧ S.den H leaf lt ∧ place < n ∧ n.log2 ≤ 1000 ∧ S.ok H (r + plen place n) ∧
  ((∃ a ys ts, v = .ref a ∧ H a = some (.lst ys) ∧ DenL S H ys ts ∧ ts.length ≤ 100000 ∧ (∀ t ∈ ts, t.dep ≤ 60) ∧
      (ts.length = plen place n → ∀ u H', Ext H H' → S.ok H' r → S.den H' u (riseT lt (sidesT place n ts)) → Q u H') ∧
      (ts.length ≠ plen place n → ∀ C H', mg "BadPaper" = some (.ref C) → Ext H H' → S.ok H' r → E (.ref C) none H')) ∨
   ((∀ H', Ext H H' → Odd K H' v) ∧ ∀ C H', mg "BadPaper" = some (.ref C) → Ext H H' → S.ok H' r → E (.ref C) none H'))
section
variable {P : Program} {w : World} {K : PySem.W.Frag} {mg : Str → Option Value} {base : Heap} {Fam : Sys → Prop}
theorem ok_risen {cc : Addr} (T : Txt K mg cc) (A : SlA P w K mg base Fam) (C_last_of : CalX P w K mg base 1 "last_of" (spLast K mg)) (C_split : Cal P w K mg base 1 "split" spSplit []) (C_pair_seal : Cal P w K mg base 2 "pair_seal" (spPair Fam) []) : CalX P w K mg base 3 "risen" (spRisen K mg Fam) := by
  have Z := T.Z
  obtain ⟨C_BadPaper, g_BadPaper, F_BadPaper⟩ := T.x_BadPaper.ex
  refine calX_of T.d_risen sc_risen (fun vs H Q E h => ?_) (fun f cdv A' outer s H vs Q E hr h => ?_)
  · obtain ⟨S, leaf, lt, place, n, v, r, _, rfl, _⟩ := h
    rfl
  obtain ⟨S, leaf, lt, place, n, v, r, hF, rfl, hleaf, hpn, hlog, hok, h⟩ := h
  have G := A.good hF
  refine ⟨_, (pss_cons (ps_par (i := 5) (j := 6) rfl sc_risen.nd rfl rfl (by decide) rfl rfl (pa_cons (pv 4) (pa_cons (pe_lst pa_nil) pa_nil)) (by rfl))
  (pss_cons (ps_while (passes_of rfl) (pt_cmpR op_gt (pv 3) pe_int (nomark _)) (pss_cons (ps_set (i := 7) sc_risen.nd rfl (Or.inl rfl) (pe_cx C_last_of (takes_of rfl rfl rfl rfl) hr (by omega) rfl (pa_cons (pv 5) pa_nil)))
  (pss_cons (ps_set (i := 5) sc_risen.nd rfl (Or.inl rfl) (pe_slice sl_list (pv 5) po_none (po_some (pe_op op_sub (pe_callB call_len_seq rfl Z.len PySem.boot_len (pa_cons (pv 5) pa_nil)) pe_int))))
  (pss_cons (ps_set (i := 8) sc_risen.nd rfl (Or.inl rfl) (pe_c C_split hr (by omega) rfl (pa_cons (pv 3) pa_nil)))
  (pss_cons (ps_expr (pe_bm PySem.F.plainAttrs_list PySem.F.slot_list_append PySem.F.type_list_append mt_append (pv 6) (pa_cons (pe_tup (pa_cons (pv 7) (pa_cons (pe_cmpR op_lt (pv 2) (pv 8) (nomark _)) pa_nil))) pa_nil)))
  (pss_one (ps_if (pt_cmpR op_lt (pv 2) (pv 8) (nomark _)) (pss_one (ps_set (i := 3) sc_risen.nd rfl (Or.inl rfl) (pv 8))) (pss_one (ps_par (i := 2) (j := 3) rfl sc_risen.nd rfl rfl (by decide) rfl rfl (pa_cons (pe_op op_sub (pv 2) (pv 8)) (pa_cons (pe_op op_sub (pv 3) (pv 8)) pa_nil)) (by rfl))))))))))
  (pss_cons (ps_if (pt_cmpR (op_neD hr.units) (pv 5) (pe_lst pa_nil) (nomark _)) (pss_one (ps_raiseX F_BadPaper g_BadPaper rfl (takes_of rfl rfl rfl rfl) rfl)) pss_nil)
  (pss_cons (ps_set (i := 9) sc_risen.nd rfl (Or.inl rfl) (pv 1))
  (pss_cons (ps_for (passes_of rfl) rfl (pi_list (pe_revL (pv 6))) (pg_tup rfl (pgs_cons (pg_name (i := 7) sc_risen.nd rfl (Or.inl rfl)) (pgs_cons (pg_name (i := 10) sc_risen.nd rfl (Or.inl rfl)) pgs_nil))) (pss_one (ps_set (i := 9) sc_risen.nd rfl (Or.inl rfl) (pe_ifExp (pt_val (pv 10)) (pe_c C_pair_seal hr (by omega) rfl (pa_cons (pv 0) (pa_cons (pv 9) (pa_cons (pv 7) pa_nil)))) (pe_c C_pair_seal hr (by omega) rfl (pa_cons (pv 0) (pa_cons (pv 7) (pa_cons (pv 9) pa_nil))))))))
  (pss_one (ps_ret (pv 9)))))))), ?_⟩
  refine ⟨_, rfl, by show 0 ≤ sizeLine; decide, fun p hp => ⟨_, _, rfl, fun m σ H' => ∃ (place' n' : Nat) (w' : V) (ss : List (Tm × Bool)) (ssv : List V) (y7 y8 : Option V), n' = m ∧ σ = [some (.ref S.f), some leaf, some (.int (place' : Int)), some (.int (n' : Int)), some v, some w', some (.ref p), y7, y8, none, none] ∧
    Ext H H' ∧ S.ok H' (r + plen place n) ∧ H' p = some (.lst ssv) ∧ SideL S H' ssv ss ∧ place' < n' ∧ n'.log2 ≤ 1000 ∧ ss.length ≤ 100000 ∧ plen place' n' + ss.length = plen place n ∧
    ((∃ b ys ts, w' = .ref b ∧ H' b = some (.lst ys) ∧ b ≠ p ∧ DenL S H' ys ts ∧ ts.length + ss.length ≤ 100000 ∧ (∀ t ∈ ts, t.dep ≤ 60) ∧
      (ts.length = plen place' n' → ∀ u H', Ext H H' → S.ok H' r → S.den H' u (riseT lt (ss ++ sidesT place' n' ts)) → Q u H') ∧
      (ts.length ≠ plen place' n' → ∀ C H', mg "BadPaper" = some (.ref C) → Ext H H' → S.ok H' r → E (.ref C) none H')) ∨
     (ss = [] ∧ (∀ H2, Ext H H2 → Odd K H2 w') ∧ ∀ C H', mg "BadPaper" = some (.ref C) → Ext H H' → S.ok H' r → E (.ref C) none H')), ?_, ?_⟩⟩
  · refine ⟨n, place, n, v, [], [], none, none, rfl, rfl, Ext.new hp, G.keep (Kp.new hp) hok, upd_same, .nil, hpn, hlog, Nat.zero_le _, rfl, ?_⟩
    rcases h with ⟨a, ys, ts, rfl, ha, hd, hl, hdep, q1, q2⟩ | ⟨o, q⟩
    · exact .inl ⟨a, ys, ts, rfl, by rw [upd_ne (ne_of_none ha hp)]; exact ha, ne_of_none ha hp, hd.mono G (Kp.new hp).gr, hl, hdep, q1, q2⟩
    · exact .inr ⟨rfl, o, q⟩
  rintro m σ H1 ⟨place', n', w', ss, ssv, y7, y8, rfl, rfl, x1, ok1, hp1, hss, hlt, hlog', hsl, hpl, hw⟩
  refine ⟨_, rfl, _, 1, rfl, rfl, _, rfl, ite2 (fun c => ?_) (fun c => ?_)⟩
  · have c' : 1 < (n' : Int) := of_decide_eq_true c
    have h2 : 2 ≤ n' := by omega
    have hs1 := splitN_lt h2
    have hs2 := splitN_pos n'
    obtain ⟨lg1, lg2⟩ := splitN_log h2 hlog'
    refine ⟨_, fun σ' H' h => h, ?_⟩
    refine ⟨_, rfl, w', rfl, ?_⟩
    rcases hw with ⟨b, ys, ts, rfl, hb, hbp, hd, hl, hdep, q1, q2⟩ | ⟨rfl, o, q⟩
    · refine .inl ⟨b, ys, rfl, hb, fun y hy => ?_, fun e C hC => ?_⟩
      · have hy' := getLast_at hy
        have hlen := hd.len
        obtain ⟨t, ht⟩ : ∃ t, ts[ys.length - 1]? = some t := ⟨ts[ys.length - 1]'(by have := (List.getElem?_eq_some_iff.mp hy').1; omega), List.getElem?_eq_getElem _⟩
        have hyt := hd.at_ _ _ _ hy' ht
        have hpos : 0 < ts.length := by have := (List.getElem?_eq_some_iff.mp ht).1; omega
        refine ⟨_, rfl, _, rfl, b, ys, rfl, .inl (SqL.of hb), _, 1, rfl, rfl, ((ys.length - 1 : Nat) : Int), ?_, b, ys, rfl, SqL.of hb, fun p1 np1 => ?_⟩
        · rw [show ((ys.length - 1 : Nat) : Int) = (ys.length : Int) - 1 by omega]
        rw [cut_to]
        have y1 := Ext.new (o := .lst (ys.take (ys.length - 1))) np1
        have k1 := Kp.new (o := .lst (ys.take (ys.length - 1))) np1
        refine ⟨_, rfl, n', rfl, h2, by omega, ?_⟩
        have np1p : p1 ≠ p := fun z => by rw [z, hp1] at np1; cases np1
        refine ⟨_, rfl, .inl ⟨rfl, ssv, SqL.of (by rw [upd_ne np1p.symm]; exact hp1)⟩, _, rfl, _, rfl, _, rfl, _, _, rfl, rfl, by show 2 ≤ sizeLine; decide, fun q hq => ?_⟩
        have npq : q ≠ p := fun z => by rw [z, upd_ne np1p.symm, hp1] at hq; cases hq
        have z1 : (upd (upd H1 p1 (.lst (ys.take (ys.length - 1)))) q (.tup [y, .bl (decide ((place' : Int) < ((splitN n' : Nat) : Int)))])) p = some (.lst ssv) := by rw [upd_ne npq.symm, upd_ne np1p.symm]; exact hp1
        have y2 := y1.trans (Ext.new (o := .tup [y, .bl (decide ((place' : Int) < ((splitN n' : Nat) : Int)))]) hq)
        have k2 := k1.trans (Kp.new (o := .tup [y, .bl (decide ((place' : Int) < ((splitN n' : Nat) : Int)))]) hq)
        have z2 : (upd (upd H1 p1 (.lst (ys.take (ys.length - 1)))) q (.tup [y, .bl (decide ((place' : Int) < ((splitN n' : Nat) : Int)))])) q = some (.tup [y, .bl (decide ((place' : Int) < ((splitN n' : Nat) : Int)))]) := upd_same
        have z3 : (upd (upd H1 p1 (.lst (ys.take (ys.length - 1)))) q (.tup [y, .bl (decide ((place' : Int) < ((splitN n' : Nat) : Int)))])) p1 = some (.lst (ys.take (ys.length - 1))) := by rw [upd_ne (ne_of_none upd_same hq)]; exact upd_same
        generalize upd (upd H1 p1 (.lst (ys.take (ys.length - 1)))) q (.tup [y, .bl (decide ((place' : Int) < ((splitN n' : Nat) : Int)))]) = H2 at y2 k2 z1 z2 z3 ⊢
        have hsl2 := hss.len
        refine ⟨p, ssv, _, rfl, rfl, z1, by rw [hsl2, sizeLine_eq]; omega, ?_⟩
        have k3 : Kp H2 (upd H2 p (.lst (ssv ++ [.ref q]))) := Kp.lst z1
        have x3 : Ext H (upd H2 p (.lst (ssv ++ [.ref q]))) := (x1.trans y2).mut hp
        have z4 : (upd H2 p (.lst (ssv ++ [.ref q]))) p1 = some (.lst (ys.take (ys.length - 1))) := by rw [upd_ne np1p]; exact z3
        have z5 : (upd H2 p (.lst (ssv ++ [.ref q]))) q = some (.tup [y, .bl (decide ((place' : Int) < ((splitN n' : Nat) : Int)))]) := by rw [upd_ne npq]; exact z2
        have ok3 := G.keep (k2.trans k3) ok1
        have gr3 := (k2.trans k3).gr
        refine ⟨_, rfl, _, rfl, _, _, rfl, rfl, _, rfl, ite2 (fun c2 => ?_) (fun c2 => ?_)⟩
        · have c2' : (place' : Int) < ((splitN n' : Nat) : Int) := of_decide_eq_true c2
          have el : ts.getLastD nonT = t := by
            rw [List.getLastD_eq_getLast?, List.getLast?_eq_getElem?, ← hlen, ht]
            rfl
          have esd : sidesT place' n' ts = (t, true) :: sidesT place' (splitN n') ts.dropLast := by rw [sidesT_low h2 (by omega), el]
          have epl := plen_low (place := place') h2 (by omega)
          refine ⟨_, rfl, ?_⟩
          refine ⟨splitN n', hs1, place', splitN n', .ref p1, ss ++ [(t, true)], ssv ++ [.ref q], _, _, rfl, rfl, x3, ok3, upd_same, (hss.mono G gr3).snoc (by rw [z5, decide_eq_true c2'] ) (G.mono gr3 hyt), by omega, lg1, by rw [List.length_append]; show ss.length + 1 ≤ _; omega, by rw [List.length_append]; show plen place' (splitN n') + (ss.length + 1) = _; omega, .inl ⟨p1, _, ts.dropLast, rfl, z4, np1p, ?_, ?_, fun t ht => hdep t (List.dropLast_subset _ ht), fun el2 => ?_, fun el2 => q2 ?_⟩⟩
          · have := (hd.take (ts.length - 1)).mono G gr3
            rwa [← List.dropLast_eq_take, ← hlen] at this
          · rw [List.length_dropLast, List.length_append]
            show _ + (ss.length + 1) ≤ _
            omega
          · rw [List.length_dropLast] at el2
            have := q1 (by omega)
            rw [esd] at this
            rw [List.append_assoc]
            exact this
          · rw [List.length_dropLast] at el2
            omega
        · have c2' : ¬ (place' : Int) < ((splitN n' : Nat) : Int) := of_decide_eq_false (Bool.eq_false_iff.mpr c2)
          have el : ts.getLastD nonT = t := by
            rw [List.getLastD_eq_getLast?, List.getLast?_eq_getElem?, ← hlen, ht]
            rfl
          have esd : sidesT place' n' ts = (t, false) :: sidesT (place' - splitN n') (n' - splitN n') ts.dropLast := by rw [sidesT_high h2 (by omega), el]
          have epl := plen_high (place := place') h2 (by omega)
          refine ⟨_, rfl, _, rfl, _, _, rfl, rfl, _, rfl, _, rfl, _, _, rfl, rfl, _, _, rfl, ?_⟩
          refine ⟨n' - splitN n', by omega, place' - splitN n', n' - splitN n', .ref p1, ss ++ [(t, false)], ssv ++ [.ref q], some y, some (.int ((splitN n' : Nat) : Int)), rfl, ?_, x3, ok3, upd_same, (hss.mono G gr3).snoc (by rw [z5, decide_eq_false c2'] ) (G.mono gr3 hyt), by omega, lg2, by rw [List.length_append]; show ss.length + 1 ≤ _; omega, by rw [List.length_append]; show plen (place' - splitN n') (n' - splitN n') + (ss.length + 1) = _; omega, .inl ⟨p1, _, ts.dropLast, rfl, z4, np1p, ?_, ?_, fun t ht => hdep t (List.dropLast_subset _ ht), fun el2 => ?_, fun el2 => q2 ?_⟩⟩
          · rw [show ((place' - splitN n' : Nat) : Int) = (place' : Int) - ((splitN n' : Nat) : Int) by omega, show ((n' - splitN n' : Nat) : Int) = (n' : Int) - ((splitN n' : Nat) : Int) by omega]
            rfl
          · have := (hd.take (ts.length - 1)).mono G gr3
            rwa [← List.dropLast_eq_take, ← hlen] at this
          · rw [List.length_dropLast, List.length_append]
            show _ + (ss.length + 1) ≤ _
            omega
          · rw [List.length_dropLast] at el2
            have := q1 (by omega)
            rw [esd] at this
            rw [List.append_assoc]
            exact this
          · rw [List.length_dropLast] at el2
            omega
      · refine q2 ?_ C H1 hC x1 (G.less ok1 (by omega))
        have hlen := hd.len
        rw [e] at hlen
        have : plen place' n' ≠ 0 := by
          by_cases hp : place' < splitN n'
          · rw [plen_low h2 hp]
            omega
          · rw [plen_high h2 hp]
            omega
        rw [← hlen]
        exact this.symm
    · exact .inr ⟨(o H1 x1).ty, fun C hC => q C H1 hC x1 (G.less ok1 (by omega))⟩
  · have c' : ¬ 1 < (n' : Int) := of_decide_eq_false (Bool.eq_false_iff.mpr c)
    have pz : plen place' n' = 0 := plen_one (by omega)
    refine ⟨_, rfl, by show 0 ≤ sizeLine; decide, fun p2 hp2 => ?_⟩
    have x2 := x1.trans (Ext.new (o := .lst []) hp2)
    have k2 := Kp.new (o := .lst []) hp2
    rcases hw with ⟨b, ys, ts, rfl, hb, hbp, hd, hl, hdep, q1, q2⟩ | ⟨rfl, o, q⟩
    · obtain ⟨d, e, a1, a2, a3, a4, a5⟩ := (hd.mono G k2.gr).odd (K := K) G (a := b) (p := p2) (SqL.of (by rw [upd_ne (ne_of_none hb hp2)]; exact hb)) (SqL.of upd_same) hdep
      refine ⟨d, e, a1, a2, a3, a4, _, rfl, ?_⟩
      rw [a5]
      by_cases hz : ts.length = 0
      · rw [decide_eq_true hz]
        refine ⟨_, rfl, ?_⟩
        have x4 : Ext H (upd H1 p2 (.lst [])) := x2
        have hp4 : (upd H1 p2 (.lst [])) p = some (.lst ssv) := by rw [upd_ne (ne_of_none hp1 hp2)]; exact hp1
        have ok4 := G.keep k2 ok1
        have hss4 := hss.mono G k2.gr
        refine ⟨_, rfl, p, ssv, rfl, SqL.of hp4, fun p3 np3 => ⟨p3, rfl, ⟨_, SqL.of upd_same⟩, ?_⟩⟩
        have x5 := x4.trans (Ext.new (o := .lst ssv.reverse) np3)
        have k5 := Kp.new (o := .lst ssv.reverse) np3
        have hp5 : (upd (upd H1 p2 (.lst [])) p3 (.lst ssv.reverse)) p3 = some (.lst ssv.reverse) := upd_same
        have ok5 := G.keep k5 ok4
        have hss5 := hss4.mono G k5.gr
        have hleaf5 := G.mono x5.gr hleaf
        generalize upd (upd H1 p2 (.lst [])) p3 (.lst ssv.reverse) = H5 at x5 hp5 ok5 hss5 hleaf5 ⊢
        have hsl2 := hss.len
        refine for_list (K := K) (a := p3) (xs := ssv.reverse) (fun i σ H' => ∃ (u : V) (z7 z8 z10 : Option V), σ = [some (.ref S.f), some leaf, some (.int (place' : Int)), some (.int (n' : Int)), some v, some (.ref b), some (.ref p), z7, z8, some u, z10] ∧ Ext H5 H' ∧ S.ok H' (r + (ss.length - i)) ∧ S.den H' u (riseT lt (ss.drop (ss.length - i))))
          ⟨leaf, _, _, _, rfl, Ext.refl _, G.less ok5 (by omega), by rw [Nat.sub_zero, List.drop_length]; exact hleaf5⟩ (fun i σ H' _ ⟨_, _, _, _, _, x, _⟩ => SqL.of (x.lst hp5)) ?_ ?_
        · rintro i y σ H' hi ⟨u, z7, z8, z10, rfl, x, ok, hu⟩
          have hlt := (List.getElem?_eq_some_iff.mp hi).1
          rw [List.length_reverse] at hlt
          rw [List.getElem?_reverse hlt] at hi
          have hj : ssv.length - 1 - i < ss.length := by omega
          obtain ⟨q, a, rfl, hq, ha⟩ := (hss5.mono G x.gr).at_ _ y (ss[ssv.length - 1 - i]) hi (List.getElem?_eq_getElem hj)
          have ed : ss.drop (ss.length - (i + 1)) = ss[ssv.length - 1 - i] :: ss.drop (ss.length - i) := by
            rw [show ss.length - (i + 1) = ssv.length - 1 - i by omega, List.drop_eq_getElem_cons hj, show ssv.length - 1 - i + 1 = ss.length - i by omega]
          refine ⟨q, _, rfl, SqT.of hq, rfl, ?_⟩
          rw [ed, riseT_cons]
          generalize ss[ssv.length - 1 - i] = sd at hq ha ⊢
          obtain ⟨st, sb⟩ := sd
          refine ⟨_, _, rfl, _, _, rfl, rfl, ?_⟩
          refine ⟨_, rfl, _, rfl, ?_⟩
          cases sb with
          | true =>
            refine iteT ?_
            refine ⟨_, rfl, _, rfl, _, rfl, S, u, a, _, _, r + (ss.length - (i + 1)), hF, rfl, G.less ok (by omega), hu, ha, fun v' H'' x' ok' d' => ?_⟩
            exact ⟨v', _, _, _, rfl, x.trans x', ok', d'⟩
          | false =>
            refine iteF ?_
            refine ⟨_, rfl, _, rfl, _, rfl, S, a, u, _, _, r + (ss.length - (i + 1)), hF, rfl, G.less ok (by omega), ha, hu, fun v' H'' x' ok' d' => ?_⟩
            exact ⟨v', _, _, _, rfl, x.trans x', ok', d'⟩
        · rintro σ H6 ⟨u, z7, z8, z10, rfl, x6, ok6, hu⟩
          rw [List.length_reverse, hsl2, Nat.sub_self] at hu
          refine ⟨u, rfl, q1 (by omega) u H6 (x5.trans x6) (G.less ok6 (by omega)) ?_⟩
          rw [sidesT_one (by omega), List.append_nil]
          exact hu
      · rw [decide_eq_false hz]
        exact q2 (by omega) _ _ g_BadPaper x2 (G.less (G.keep k2 ok1) (by omega))
    · obtain ⟨d, a1, a2, a3⟩ := (o _ x2).ne
      refine ⟨d, .list [], a1, .lst (SqL.of upd_same) .nil, a2, by decide +kernel, _, rfl, ?_⟩
      rw [a3]
      exact q _ _ g_BadPaper x2 (G.less (G.keep k2 ok1) (by omega))
end

/-! ### a leaf comes to the top by the right path alone -/
theorem pairT_inj {a b c d : Tm} (h : pairT a b = pairT c d) : a = c ∧ b = d := by
  unfold pairT at h
  exact ⟨(Tm.sl.inj h).2.1, (Tm.sl.inj h).2.2⟩
theorem last_split {α : Type} {l : List α} {d : α} (h : l.length ≠ 0) : l = l.dropLast ++ [l.getLastD d] := by
  rcases List.eq_nil_or_concat l with e | ⟨l', x, e⟩
  · rw [e] at h
    exact absurd rfl h
  · rw [e, List.concat_eq_append, getLastD_concat, List.dropLast_concat]
theorem rise_inj (L : Tm) (us : List Tm) (place : Nat) (ps : List Tm) (h : place < us.length) (hl : ps.length = plen place us.length) : riseT L (sidesT place us.length ps) = topT us ↔ (L = us.getD place nonT ∧ ps = pathT us place) := by
  by_cases h2 : us.length < 2
  · rw [plen_one h2] at hl
    rw [sidesT_one h2, topT_single (by omega), pathT_one h2, show place = 0 by omega, List.eq_nil_of_length_eq_zero hl]
    show L = _ ↔ _
    simp
  · have hs := splitN_lt (n := us.length) (by omega)
    have hs0 := splitN_pos us.length
    have e1 : (us.take (splitN us.length)).length = splitN us.length := by
      rw [List.length_take]
      omega
    have e2 : (us.drop (splitN us.length)).length = us.length - splitN us.length := List.length_drop
    by_cases hp : place < splitN us.length
    · rw [plen_low (by omega) hp] at hl
      have hps := last_split (l := ps) (d := nonT) (by omega)
      have ih := rise_inj L (us.take (splitN us.length)) place ps.dropLast (by omega) (by rw [List.length_dropLast, e1]; omega)
      rw [e1] at ih
      have eg : (us.take (splitN us.length)).getD place nonT = us.getD place nonT := by
        rw [List.getD_eq_getElem?_getD, List.getD_eq_getElem?_getD, List.getElem?_take_of_lt hp]
      rw [eg] at ih
      rw [sidesT_low (by omega) hp, riseT_cons, topT_more (ts := us) (by omega), pathT_low (by omega) hp]
      show pairT _ _ = pairT _ _ ↔ _
      constructor
      · intro q
        obtain ⟨q1, q2⟩ := pairT_inj q
        obtain ⟨q3, q4⟩ := ih.mp q1
        refine ⟨q3, ?_⟩
        rw [hps, q4]
        exact congrArg (fun z => pathT (us.take (splitN us.length)) place ++ [z]) q2
      · rintro ⟨q1, q2⟩
        have q3 : ps.dropLast = pathT (us.take (splitN us.length)) place := by rw [q2, List.dropLast_concat]
        have q4 : ps.getLastD nonT = topT (us.drop (splitN us.length)) := by rw [q2, getLastD_concat]
        rw [ih.mpr ⟨q1, q3⟩, q4]
    · rw [plen_high (by omega) hp] at hl
      have hps := last_split (l := ps) (d := nonT) (by omega)
      have ih := rise_inj L (us.drop (splitN us.length)) (place - splitN us.length) ps.dropLast (by omega) (by rw [List.length_dropLast, e2]; omega)
      rw [e2] at ih
      have eg : (us.drop (splitN us.length)).getD (place - splitN us.length) nonT = us.getD place nonT := by
        rw [List.getD_eq_getElem?_getD, List.getD_eq_getElem?_getD, List.getElem?_drop, show splitN us.length + (place - splitN us.length) = place by omega]
      rw [eg] at ih
      rw [sidesT_high (by omega) hp, riseT_cons, topT_more (ts := us) (by omega), pathT_high (by omega) hp]
      show pairT _ _ = pairT _ _ ↔ _
      constructor
      · intro q
        obtain ⟨q1, q2⟩ := pairT_inj q
        obtain ⟨q3, q4⟩ := ih.mp q2
        refine ⟨q3, ?_⟩
        rw [hps, q4]
        exact congrArg (fun z => pathT (us.drop (splitN us.length)) (place - splitN us.length) ++ [z]) q1
      · rintro ⟨q1, q2⟩
        have q3 : ps.dropLast = pathT (us.drop (splitN us.length)) (place - splitN us.length) := by rw [q2, List.dropLast_concat]
        have q4 : ps.getLastD nonT = topT (us.take (splitN us.length)) := by rw [q2, getLastD_concat]
        rw [ih.mpr ⟨q1, q3⟩, q4]
termination_by us.length
decreasing_by
  · rw [List.length_take]; omega
  · rw [List.length_drop]; omega
theorem riseT_ws {L : Tm} {ss : List (Tm × Bool)} (hL : WS L) (h : ∀ s ∈ ss, WS s.1) : WS (riseT L ss) := by
  induction ss with
  | nil => exact hL
  | cons s ss ih =>
    have i := ih fun s hs => h s (List.mem_cons_of_mem _ hs)
    have j := h s List.mem_cons_self
    rw [riseT_cons]
    unfold stepT
    split
    · exact .pair i j
    · exact .pair j i
theorem riseT_dep {L : Tm} {ss : List (Tm × Bool)} {n : Nat} (hL : L.dep ≤ n) (h : ∀ s ∈ ss, s.1.dep ≤ n) : (riseT L ss).dep ≤ n + ss.length := by
  induction ss with
  | nil => exact hL
  | cons s ss ih =>
    have i := ih fun s hs => h s (List.mem_cons_of_mem _ hs)
    have j := h s List.mem_cons_self
    rw [riseT_cons, List.length_cons]
    unfold stepT
    split
    · show max _ _ + 1 ≤ _
      omega
    · show max _ _ + 1 ≤ _
      omega
theorem sidesT_mem {place n : Nat} {ps : List Tm} (hl : ps.length = plen place n) : ∀ s ∈ sidesT place n ps, s.1 ∈ ps := by
  by_cases h2 : n < 2
  · rw [sidesT_one h2]
    intro s hs
    cases hs
  · have hs := splitN_lt (n := n) (by omega)
    have hs0 := splitN_pos n
    have lastin : ps.length ≠ 0 → ps.getLastD nonT ∈ ps := fun z => by
      have := last_split (l := ps) (d := nonT) z
      rw [this]
      rw [getLastD_concat]
      exact List.mem_append_right _ (List.mem_singleton.mpr rfl)
    by_cases hp : place < splitN n
    · rw [plen_low (by omega) hp] at hl
      rw [sidesT_low (by omega) hp]
      intro s hs
      rcases List.mem_cons.mp hs with e | e
      · rw [e]
        exact lastin (by omega)
      · exact List.dropLast_subset _ (sidesT_mem (by rw [List.length_dropLast]; omega) s e)
    · rw [plen_high (by omega) hp] at hl
      rw [sidesT_high (by omega) hp]
      intro s hs
      rcases List.mem_cons.mp hs with e | e
      · rw [e]
        exact lastin (by omega)
      · exact List.dropLast_subset _ (sidesT_mem (by rw [List.length_dropLast]; omega) s e)
termination_by n

/-! ### a growth comes to both tops -/
def glen (old n : Nat) : Nat :=
  if h : old < n ∧ 0 < old then if old ≤ splitN n then glen old (splitN n) + 1 else glen (old - splitN n) (n - splitN n) + 1 else 1
termination_by n
decreasing_by
  · exact splitN_lt (by omega)
  · have := splitN_pos n
    omega
theorem glen_all {n : Nat} : glen n n = 1 := by rw [glen, dif_neg (by omega)]
theorem glen_low {old n : Nat} (h0 : 0 < old) (h1 : old < n) (h : old ≤ splitN n) : glen old n = glen old (splitN n) + 1 := by rw [glen, dif_pos ⟨h1, h0⟩, if_pos h]
theorem glen_high {old n : Nat} (h0 : 0 < old) (h1 : old < n) (h : ¬ old ≤ splitN n) : glen old n = glen (old - splitN n) (n - splitN n) + 1 := by rw [glen, dif_pos ⟨h1, h0⟩, if_neg h]
theorem glen_le : ∀ (k old n : Nat), n ≤ 2 ^ k → glen old n ≤ k + 1
  | k, old, n, h => by
    by_cases h2 : old < n ∧ 0 < old
    · obtain ⟨h1, h0⟩ := h2
      cases k with
      | zero => simp at h; omega
      | succ k =>
        obtain ⟨a, b⟩ := splitN_le_pow (show 2 ≤ n by omega) h
        by_cases hp : old ≤ splitN n
        · rw [glen_low h0 h1 hp]
          have := glen_le k old (splitN n) a
          omega
        · rw [glen_high h0 h1 hp]
          have := glen_le k (old - splitN n) (n - splitN n) b
          omega
    · rw [glen, dif_neg h2]
      omega
theorem glen_pos (old n : Nat) : 0 < glen old n := by
  rw [glen]
  split
  · split <;> omega
  · omega
def regT (old n : Nat) (ps : List Tm) : Tm × Tm :=
  if h : old < n ∧ 0 < old then
    if old ≤ splitN n then ((regT old (splitN n) ps.dropLast).1, pairT (regT old (splitN n) ps.dropLast).2 (ps.getLastD nonT))
    else (pairT (ps.getLastD nonT) (regT (old - splitN n) (n - splitN n) ps.dropLast).1, pairT (ps.getLastD nonT) (regT (old - splitN n) (n - splitN n) ps.dropLast).2)
  else (ps.getLastD nonT, ps.getLastD nonT)
termination_by n
decreasing_by
  all_goals first | exact splitN_lt (by omega) | (have := splitN_pos n; omega)
theorem regT_all {n : Nat} {ps : List Tm} : regT n n ps = (ps.getLastD nonT, ps.getLastD nonT) := by rw [regT, dif_neg (by omega)]
theorem regT_low {old n : Nat} {ps : List Tm} (h0 : 0 < old) (h1 : old < n) (h : old ≤ splitN n) : regT old n ps = ((regT old (splitN n) ps.dropLast).1, pairT (regT old (splitN n) ps.dropLast).2 (ps.getLastD nonT)) := by
  rw [regT, dif_pos ⟨h1, h0⟩, if_pos h]
theorem regT_high {old n : Nat} {ps : List Tm} (h0 : 0 < old) (h1 : old < n) (h : ¬ old ≤ splitN n) : regT old n ps = (pairT (ps.getLastD nonT) (regT (old - splitN n) (n - splitN n) ps.dropLast).1, pairT (ps.getLastD nonT) (regT (old - splitN n) (n - splitN n) ps.dropLast).2) := by
  rw [regT, dif_pos ⟨h1, h0⟩, if_neg h]
theorem growT_glen {us : List Tm} {old : Nat} (h0 : 0 < old) (h1 : old ≤ us.length) : (growT us old).length = glen old us.length := by
  by_cases e : old = us.length
  · subst e
    rw [growT_all (by omega), glen_all]
    rfl
  · have hs := splitN_lt (n := us.length) (by omega)
    have hs0 := splitN_pos us.length
    have e1 : (us.take (splitN us.length)).length = splitN us.length := by
      rw [List.length_take]
      omega
    have e2 : (us.drop (splitN us.length)).length = us.length - splitN us.length := List.length_drop
    by_cases hp : old ≤ splitN us.length
    · rw [growT_low h0 (by omega) hp, glen_low h0 (by omega) hp, List.length_append, growT_glen h0 (by omega), e1]
      rfl
    · rw [growT_high h0 (by omega) hp, glen_high h0 (by omega) hp, List.length_append, growT_glen (by omega) (by omega), e2]
      rfl
termination_by us.length
decreasing_by
  · rw [List.length_take]; omega
  · rw [List.length_drop]; omega
/-- by the right growth: both tops -/
theorem reg_grow {us : List Tm} {old : Nat} (h0 : 0 < old) (h1 : old ≤ us.length) : regT old us.length (growT us old) = (topT (us.take old), topT us) := by
  by_cases e : old = us.length
  · subst e
    rw [growT_all (by omega), regT_all, List.take_length]
    rfl
  · have hs := splitN_lt (n := us.length) (by omega)
    have hs0 := splitN_pos us.length
    have hg := splitN_ge (n := us.length) (by omega)
    have e1 : (us.take (splitN us.length)).length = splitN us.length := by
      rw [List.length_take]
      omega
    have e2 : (us.drop (splitN us.length)).length = us.length - splitN us.length := List.length_drop
    by_cases hp : old ≤ splitN us.length
    · rw [growT_low h0 (by omega) hp, regT_low h0 (by omega) hp, List.dropLast_concat, getLastD_concat]
      have ih := reg_grow (us := us.take (splitN us.length)) h0 (by omega)
      rw [e1, List.take_take, Nat.min_eq_left hp] at ih
      rw [ih, topT_more (ts := us) (by omega)]
    · rw [growT_high h0 (by omega) hp, regT_high h0 (by omega) hp, List.dropLast_concat, getLastD_concat]
      have ih := reg_grow (us := us.drop (splitN us.length)) (old := old - splitN us.length) (by omega) (by omega)
      rw [e2] at ih
      have lo : (us.take old).length = old := by
        rw [List.length_take]
        omega
      have so : splitN old = splitN us.length := splitN_of (i := (us.length - 1).log2) (by show splitN us.length < old; omega) (by show old ≤ 2 * splitN us.length; omega)
      rw [ih, topT_more (ts := us) (by omega), topT_more (ts := us.take old) (by omega), lo, so, List.take_take, Nat.min_eq_left (by omega), List.drop_take]
termination_by us.length
decreasing_by
  · rw [List.length_take]; omega
  · rw [List.length_drop]; omega
/-- the new top is the row's by the right growth alone -/
theorem reg_inj (us : List Tm) (old : Nat) (ps : List Tm) (h0 : 0 < old) (h1 : old ≤ us.length) (hl : ps.length = glen old us.length) (h : (regT old us.length ps).2 = topT us) : ps = growT us old := by
  have hps := last_split (l := ps) (d := nonT) (by have := glen_pos old us.length; omega)
  by_cases e : old = us.length
  · subst e
    rw [growT_all (by omega)]
    rw [regT_all] at h
    rw [glen_all] at hl
    have : ps.dropLast = [] := List.eq_nil_of_length_eq_zero (by rw [List.length_dropLast]; omega)
    rw [hps, this]
    exact congrArg (fun z => [z]) h
  · have hs := splitN_lt (n := us.length) (by omega)
    have hs0 := splitN_pos us.length
    have e1 : (us.take (splitN us.length)).length = splitN us.length := by
      rw [List.length_take]
      omega
    have e2 : (us.drop (splitN us.length)).length = us.length - splitN us.length := List.length_drop
    by_cases hp : old ≤ splitN us.length
    · rw [regT_low h0 (by omega) hp, topT_more (ts := us) (by omega)] at h
      rw [glen_low h0 (by omega) hp] at hl
      obtain ⟨q1, q2⟩ := pairT_inj h
      have ih := reg_inj (us.take (splitN us.length)) old ps.dropLast h0 (by omega) (by rw [List.length_dropLast, e1]; omega) (by rw [e1]; exact q1)
      rw [growT_low h0 (by omega) hp, ← ih, ← q2]
      exact hps
    · rw [regT_high h0 (by omega) hp, topT_more (ts := us) (by omega)] at h
      rw [glen_high h0 (by omega) hp] at hl
      obtain ⟨q1, q2⟩ := pairT_inj h
      have ih := reg_inj (us.drop (splitN us.length)) (old - splitN us.length) ps.dropLast (by omega) (by omega) (by rw [List.length_dropLast, e2]; omega) (by rw [e2]; exact q2)
      rw [growT_high h0 (by omega) hp, ← ih, ← q1]
      exact hps
termination_by us.length
decreasing_by
  · rw [List.length_take]; omega
  · rw [List.length_drop]; omega
theorem reg_ws {old n : Nat} {ps : List Tm} (hl : ps.length = glen old n) (h : ∀ t ∈ ps, WS t) : WS (regT old n ps).1 ∧ WS (regT old n ps).2 := by
  have hin : ps.getLastD nonT ∈ ps := by
    have := last_split (l := ps) (d := nonT) (by have := glen_pos old n; omega)
    rw [this, getLastD_concat]
    exact List.mem_append_right _ (List.mem_singleton.mpr rfl)
  have hd : ∀ t ∈ ps.dropLast, WS t := fun t ht => h t (List.dropLast_subset _ ht)
  by_cases e : old < n ∧ 0 < old
  · obtain ⟨h1, h0⟩ := e
    have hs := splitN_lt (n := n) (by omega)
    have hs0 := splitN_pos n
    by_cases hp : old ≤ splitN n
    · rw [glen_low h0 h1 hp] at hl
      rw [regT_low h0 h1 hp]
      obtain ⟨a, b⟩ := reg_ws (old := old) (n := splitN n) (ps := ps.dropLast) (by rw [List.length_dropLast]; omega) hd
      exact ⟨a, .pair b (h _ hin)⟩
    · rw [glen_high h0 h1 hp] at hl
      rw [regT_high h0 h1 hp]
      obtain ⟨a, b⟩ := reg_ws (old := old - splitN n) (n := n - splitN n) (ps := ps.dropLast) (by rw [List.length_dropLast]; omega) hd
      exact ⟨.pair (h _ hin) a, .pair (h _ hin) b⟩
  · rw [regT, dif_neg e]
    exact ⟨h _ hin, h _ hin⟩
termination_by n
theorem reg_dep {d old n : Nat} {ps : List Tm} (hl : ps.length = glen old n) (h : ∀ t ∈ ps, t.dep ≤ d) : (regT old n ps).1.dep ≤ d + ps.length ∧ (regT old n ps).2.dep ≤ d + ps.length := by
  have hin : ps.getLastD nonT ∈ ps := by
    have := last_split (l := ps) (d := nonT) (by have := glen_pos old n; omega)
    rw [this, getLastD_concat]
    exact List.mem_append_right _ (List.mem_singleton.mpr rfl)
  have hd : ∀ t ∈ ps.dropLast, t.dep ≤ d := fun t ht => h t (List.dropLast_subset _ ht)
  have hi := h _ hin
  by_cases e : old < n ∧ 0 < old
  · obtain ⟨h1, h0⟩ := e
    have hs := splitN_lt (n := n) (by omega)
    have hs0 := splitN_pos n
    by_cases hp : old ≤ splitN n
    · rw [glen_low h0 h1 hp] at hl
      rw [regT_low h0 h1 hp]
      obtain ⟨a, b⟩ := reg_dep (d := d) (old := old) (n := splitN n) (ps := ps.dropLast) (by rw [List.length_dropLast]; omega) hd
      rw [List.length_dropLast] at a b
      exact ⟨Nat.le_trans a (by omega), by show max _ _ + 1 ≤ _; omega⟩
    · rw [glen_high h0 h1 hp] at hl
      rw [regT_high h0 h1 hp]
      obtain ⟨a, b⟩ := reg_dep (d := d) (old := old - splitN n) (n := n - splitN n) (ps := ps.dropLast) (by rw [List.length_dropLast]; omega) hd
      rw [List.length_dropLast] at a b
      exact ⟨by show max _ _ + 1 ≤ _; omega, by show max _ _ + 1 ≤ _; omega⟩
  · rw [regT, dif_neg e]
    exact ⟨Nat.le_trans hi (by omega), Nat.le_trans hi (by omega)⟩
termination_by n

/-! ### list(reversed(a list)) -/
section
variable {prog : Program} {w : World} {A : Around} {E : Value → Shared → Prop} {s : Shared}
theorem list_rev {it l : Addr} {items : Array Value} {Q : Value → Shared → Prop} (hh : A.handled = none) (hit : s.heap.IsRevIter it l ((items.size : Int) - 1)) (hl : s.heap.IsList l items) (hne : l ≠ it) (hn : items.size ≤ sizeLine)
    (hQ : ∀ (h' : Heap) (tk : Nat) (acc : Array Value) (c : Nat), (∀ b o, b ≠ it → s.heap.get? b = some o → h'.get? b = some o) → h'.get? s.heap.objs.size = some { cls := .type "list", dict := none, data := .seq acc c, slots := #[] } → ItemsOf (fun i v => items[items.size - 1 - i]? = some v) acc items.size → Q (.ref s.heap.objs.size) { s with heap := h', toks := tk }) :
    wpAny (model prog w) A (call (.type "list") [.ref it]) Q E s := by
  have W := (Walks.listRev (prog := prog) (w := w) (A := A.in1.in1) hh it l hne items).toS
  obtain ⟨oi, hoi, _⟩ := id hit
  obtain ⟨ol, hol, _⟩ := id hl
  have hSi : s.heap.objs.size ≠ it := Nat.ne_of_gt (Heap.lt_size hoi)
  have hSl : s.heap.objs.size ≠ l := Nat.ne_of_gt (Heap.lt_size hol)
  have hSf : s.heap.objs.size ∉ [it, l] := by simp only [List.mem_cons, List.not_mem_nil, or_false, not_or]; exact ⟨hSi, hSl⟩
  refine callType_codes (Q₁ := fun obj s₁ => obj = .ref s.heap.objs.size ∧ s₁ = { s with heap := s.heap.push { cls := .type "list", data := .seq #[] } }) F.called_list (F.typeCall_list_1 _) F.entry_list_init
    (code_list_new _ ⟨rfl, rfl⟩) fun obj s₁ h₁ => ?_
  obtain ⟨rfl, rfl⟩ := h₁
  have hS : (s.heap.push { cls := .type "list", data := .seq #[] }).get? s.heap.objs.size = some { cls := .type "list", data := .seq #[] } := Heap.get?_push_size _ rfl
  refine ⟨⟨_, hS, rfl⟩, F.args_list_init_2 _ _, ?_⟩
  show wpAny _ A.in1.in1 (do let old ← Builtin.List.listItems (.ref s.heap.objs.size); Builtin.List.listUpdate (.ref s.heap.objs.size) (fun _ => #[]); letGo old.toList.reverse; Builtin.List.listExtendWith (.ref s.heap.objs.size) (.ref it) .none) _ _ _
  refine wpAny_bind ?_
  unfold Builtin.List.listItems
  refine wpAny_bind (wpAny_seqItems hS rfl (wpAny_pure ?_))
  show wpAny _ A.in1.in1 (updateSeq s.heap.objs.size (fun _ => #[]) >>= fun _ => letGo (#[] : Array Value).toList.reverse >>= fun _ => Builtin.List.listExtendWith (.ref s.heap.objs.size) (.ref it) .none) _ _ _
  refine wpAny_bind (wpAny_updateSeq hS rfl ?_)
  have hS2 := Heap.get?_update_self (Obj.mapSeq (fun _ => (#[] : Array Value))) hS rfl
  refine wpAny_bind (wpAny_letGo ?_)
  have up : ∀ (h : Heap) (f : Obj → Obj), (∀ b o, s.heap.get? b = some o → h.get? b = some o) → ∀ b o, s.heap.get? b = some o → (h.update s.heap.objs.size f).get? b = some o := fun h f q b o e =>
    (Heap.get?_update_other _ _ (Ne.symm (Nat.ne_of_lt (Heap.lt_size e)))).trans (q b o e)
  have k1 : ∀ b o, s.heap.get? b = some o → (s.heap.push { cls := .type "list", data := .seq #[] }).get? b = some o := fun b o e => Heap.get?_push_of_some _ e
  have k2 := up _ (Obj.mapSeq (fun _ => (#[] : Array Value))) k1
  generalize ((s.heap.push { cls := .type "list", data := .seq #[] }).update s.heap.objs.size (Obj.mapSeq (fun _ => (#[] : Array Value)))) = h2 at hS2 k2 ⊢
  have hit1 : h2.IsRevIter it l ((items.size : Int) - 1) := hit.at fun o e => k2 _ _ e
  have hl1 : h2.IsList l items := by
    obtain ⟨o, ho, q⟩ := id hl
    exact ⟨o, k2 _ _ ho, q⟩
  have hT : ({ s with heap := h2 } : Shared).TypeIs (.ref it) "list_reverseiterator" := Heap.IsRevIter.typeIs (s := { s with heap := h2 }) hit1
  have h1 : Builtin.List.listSameRef (.ref s.heap.objs.size) (.ref it) = false := by simp [Builtin.List.listSameRef, hSi]
  unfold Builtin.List.listExtendWith
  refine wpAny_bind (wpAny_typeOf hT ?_)
  rw [if_neg (by rw [h1]; decide)]
  refine wpAny_bind (wpAny_pyIter_revIter (s := { s with heap := h2 }) hit1 ?_)
  refine wpAny_bind (wpAny_holding ?_)
  unfold Builtin.List.listLengthHint
  refine wpAny_bind (wpAny_specialOf hT RT.nolen_lri ?_)
  show wpAny _ A.in1.in1 (specialOf (Value.ref it) (Str.ofString "__length_hint__") >>= _) _ _ _
  refine wpAny_bind (wpAny_specialOf hT RT.hint_lri ?_)
  generalize hid : ("list_reverseiterator.__length_hint__" : String) = id0
  wp_delta
  rw [show splitId id0 = some ("list_reverseiterator", "__length_hint__") from by subst hid; decide +kernel]
  subst hid
  refine wpAny_bind (wpAny_isInstance (b := true) hT (by rw [isSubtype_type]; kernel_rfl) ?_)
  refine wpAny_pure ?_
  rw [if_neg (by decide)]
  have e0 : ((items.size : Nat) : Int) - 1 - ((0 : Nat) : Int) = (items.size : Int) - 1 := by omega
  refine wpAny_pure ⟨plainId_quiet F.plain_extend_loop _, codeAny_extend_loopS W hn _ hSf _ items.size 0 _ _ _ rfl (Nat.zero_le _) ⟨Nat.zero_le _, by rw [e0]; exact hit1, hl1⟩ hS2 (ItemsOf.nil _) fun s' acc' c' hm hS' hacc => ?_⟩
  rw [Moved.eq_with hm]
  refine ⟨rfl, hQ s'.heap s'.toks acc' c' (fun b o hb e => hm.heap b o (fun hmem => ?_) (k2 _ _ e)) hS' hacc⟩
  rcases List.mem_cons.mp hmem with e' | hmem
  · exact absurd (Heap.lt_size e) (by rw [e']; exact Nat.lt_irrefl _)
  · exact hb (List.mem_singleton.mp hmem)
end
section
variable {X : Cx}
def tLstRev (K : PySem.W.Frag) (te : TE) : TE := fun σ H Q => te σ H fun v H1 => ∃ (a : Addr) (xs : List V), v = .ref a ∧ SqL K H1 a xs ∧ ∀ q, H1 q = none → Q (.ref q) (upd H1 q (.lst xs.reverse))
theorem pe_lstRev {e : Expr} {te : TE} {p p2 pos pos2 : Pos} (hc : X.calm = true) (hg : Gl X "list") (hm : X.mg "list" = none) (hg2 : Gl X "reversed") (hm2 : X.mg "reversed" = none) (he : PE X e te)
    (hs : starEach [e] X.env = (false, eval e X.env) :: starEach [] X.env := by rfl)
    (hs2 : starEach [.Call (.Name "reversed" p2) [e] [] pos2] X.env = (false, eval (.Call (.Name "reversed" p2) [e] [] pos2) X.env) :: starEach [] X.env := by rfl) :
    PE X (.Call (.Name "list" p) [.Call (.Name "reversed" p2) [e] [] pos2] [] pos) (tLstRev X.K te) := by
  refine ⟨fun pins s σ H Q I h => ?_⟩
  refine Call_ (ld_blt I hg hm boot_list (PyProof.Rows.callWith_type1 (args_cons (Call_ (ld_blt I hg2 hm2 PyProof.Rows.boot_reversed (PyProof.Rows.callWith_type1 (args_cons (thn (he.run pins s σ H _ I h) fun u s1 ⟨v, H1, I1, r1, q1⟩ => args_nil ?_) hs) hs rfl))) hs2) hs2 rfl))
  obtain ⟨a, xs, ev, hq, q⟩ := q1
  subst ev
  obtain rfl : u = Value.ref a := r1
  obtain ⟨its, rv, p', hz⟩ := I1.list hq
  refine call_reversed_list p'.isList (args_nil ?_)
  have hl := p'.isList
  obtain ⟨ol, hol, _⟩ := id hl
  have hne : a ≠ s1.heap.objs.size := Nat.ne_of_lt (Heap.lt_size hol)
  have hn : its.toArray.size ≤ sizeLine := by rw [List.size_toArray, ← rv.length]; exact hz
  refine list_rev (s := { s1 with heap := s1.heap.push (revObj a ((its.toArray.size : Int) - 1)) }) (I1.ok.hd hc) ⟨_, Heap.get?_push_size _ rfl, rfl, rfl⟩ (hl.push _) hne hn fun h' tk acc c hk hS hi => ?_
  have ext : ∀ b o, s1.heap.get? b = some o → h'.get? b = some o := fun b o e => hk b o (Nat.ne_of_lt (Heap.lt_size e)) (Heap.get?_push_of_some _ e)
  refine ⟨.ref _, upd H1 (s1.heap.push (revObj a ((its.toArray.size : Int) - 1))).objs.size (.lst xs.reverse), I1.laid (t' := tk) ext (Nat.le_of_lt (by simp [Heap.push])) (show ObjOk X.prog X.w _ _ _ (.lst xs.reverse) from ⟨by rw [List.length_reverse]; exact hz, acc.toList, c, RT.vals_rev rv hi, ?_⟩), rfl, q _ (I1.hok.fresh (Nat.le_of_lt (by simp [Heap.push])))⟩
  exact hS
end

/-! ### regrown -/
def gsides (old n : Nat) (ps : List Tm) : List (Tm × Bool) :=
  if h : old < n ∧ 0 < old then
    if old ≤ splitN n then (ps.getLastD nonT, true) :: gsides old (splitN n) ps.dropLast
    else (ps.getLastD nonT, false) :: gsides (old - splitN n) (n - splitN n) ps.dropLast
  else []
termination_by n
decreasing_by
  all_goals first | exact splitN_lt (by omega) | (have := splitN_pos n; omega)
def gb (old n : Nat) (ps : List Tm) : Tm :=
  if h : old < n ∧ 0 < old then
    if old ≤ splitN n then gb old (splitN n) ps.dropLast
    else gb (old - splitN n) (n - splitN n) ps.dropLast
  else ps.getLastD nonT
termination_by n
decreasing_by
  all_goals first | exact splitN_lt (by omega) | (have := splitN_pos n; omega)
theorem gs_all {n : Nat} {ps : List Tm} : gsides n n ps = [] ∧ gb n n ps = ps.getLastD nonT := ⟨by rw [gsides, dif_neg (by omega)], by rw [gb, dif_neg (by omega)]⟩
theorem gs_low {old n : Nat} {ps : List Tm} (h0 : 0 < old) (h1 : old < n) (h : old ≤ splitN n) : gsides old n ps = (ps.getLastD nonT, true) :: gsides old (splitN n) ps.dropLast ∧ gb old n ps = gb old (splitN n) ps.dropLast :=
  ⟨by rw [gsides, dif_pos ⟨h1, h0⟩, if_pos h], by rw [gb, dif_pos ⟨h1, h0⟩, if_pos h]⟩
theorem gs_high {old n : Nat} {ps : List Tm} (h0 : 0 < old) (h1 : old < n) (h : ¬ old ≤ splitN n) : gsides old n ps = (ps.getLastD nonT, false) :: gsides (old - splitN n) (n - splitN n) ps.dropLast ∧ gb old n ps = gb (old - splitN n) (n - splitN n) ps.dropLast :=
  ⟨by rw [gsides, dif_pos ⟨h1, h0⟩, if_neg h], by rw [gb, dif_pos ⟨h1, h0⟩, if_neg h]⟩
def stepO (s : Tm × Bool) (t : Tm) : Tm := if s.2 = true then t else pairT s.1 t
theorem regT_fold (old n : Nat) (ps : List Tm) : regT old n ps = ((gsides old n ps).foldr stepO (gb old n ps), (gsides old n ps).foldr stepT (gb old n ps)) := by
  by_cases e : old < n ∧ 0 < old
  · obtain ⟨h1, h0⟩ := e
    have hs := splitN_lt (n := n) (by omega)
    have hs0 := splitN_pos n
    by_cases hp : old ≤ splitN n
    · rw [regT_low h0 h1 hp, (gs_low h0 h1 hp).1, (gs_low h0 h1 hp).2, regT_fold old (splitN n)]
      rfl
    · rw [regT_high h0 h1 hp, (gs_high h0 h1 hp).1, (gs_high h0 h1 hp).2, regT_fold (old - splitN n) (n - splitN n)]
      rfl
  · rw [regT, dif_neg e, gsides, dif_neg e, gb, dif_neg e]
    rfl
termination_by n
theorem gsides_len {old n : Nat} (ps : List Tm) : (gsides old n ps).length + 1 = glen old n := by
  by_cases e : old < n ∧ 0 < old
  · obtain ⟨h1, h0⟩ := e
    have hs := splitN_lt (n := n) (by omega)
    have hs0 := splitN_pos n
    by_cases hp : old ≤ splitN n
    · rw [(gs_low h0 h1 hp).1, glen_low h0 h1 hp, List.length_cons, gsides_len]
    · rw [(gs_high h0 h1 hp).1, glen_high h0 h1 hp, List.length_cons, gsides_len]
  · rw [gsides, dif_neg e, glen, dif_neg e]
    rfl
termination_by n
def spRegrown (K : PySem.W.Frag) (mg : Str → Option Value) (Fam : Sys → Prop) : Sp := fun vs H Q E => ∃ (S : Sys) (old n : Nat) (v : V) (r : Nat), Fam S ∧ vs = [.ref S.f, .int (old : Int), .int (n : Int), v] ∧ 0 < old ∧ old ≤ n ∧ n ≤ 1000 ∧ S.ok H (r + 2 * glen old n) ∧
  ((∃ a ys ts, v = .ref a ∧ H a = some (.lst ys) ∧ DenL S H ys ts ∧ ts.length ≤ 100000 ∧
      (ts.length = glen old n → ∀ q va vb H', Ext H H' → S.ok H' r → H' q = some (.tup [va, vb]) → S.den H' va (regT old n ts).1 → S.den H' vb (regT old n ts).2 → Q (.ref q) H') ∧
      (ts.length ≠ glen old n → ∀ C H', mg "BadPaper" = some (.ref C) → Ext H H' → S.ok H' r → E (.ref C) none H')) ∨
   ((∃ t, TyX K H v t ∧ PySem.W.kitOne K t (.type "list") = some false) ∧ ∀ C H', mg "BadPaper" = some (.ref C) → Ext H H' → S.ok H' r → E (.ref C) none H'))
section
variable {P : Program} {w : World} {K : PySem.W.Frag} {mg : Str → Option Value} {base : Heap} {Fam : Sys → Prop}
theorem ok_regrown {cc : Addr} (T : Txt K mg cc) (A : SlA P w K mg base Fam) (C_last_of : CalX P w K mg base 1 "last_of" (spLast K mg)) (C_split : Cal P w K mg base 1 "split" spSplit []) (C_pair_seal : Cal P w K mg base 2 "pair_seal" (spPair Fam) []) : CalX P w K mg base 3 "regrown" (spRegrown K mg Fam) := by
  have Z := T.Z
  obtain ⟨C_BadPaper, g_BadPaper, F_BadPaper⟩ := T.x_BadPaper.ex
  refine calX_of T.d_regrown sc_regrown (fun vs H Q E h => ?_) (fun f cdv A' outer s H vs Q E hr h => ?_)
  · obtain ⟨S, old, n, v, r, _, rfl, _⟩ := h
    rfl
  obtain ⟨S, old, n, v, r, hF, rfl, ho0, hon, hn, hok, h⟩ := h
  have G := A.good hF
  have e16 : sizeLine = 16777216 := sizeLine_eq
  refine ⟨_, (pss_cons (ps_set (i := 4) sc_regrown.nd rfl (Or.inl rfl) (pe_cx C_last_of (takes_of rfl rfl rfl rfl) hr (by omega) rfl (pa_cons (pv 3) pa_nil)))
  (pss_cons (ps_par (i := 5) (j := 6) rfl sc_regrown.nd rfl rfl (by decide) rfl rfl (pa_cons (pe_slice sl_list (pv 3) po_none (po_some (pe_op op_sub (pe_callB call_len_seq rfl Z.len PySem.boot_len (pa_cons (pv 3) pa_nil)) pe_int))) (pa_cons (pe_lst pa_nil) pa_nil)) (by rfl))
  (pss_cons (ps_while (passes_of rfl) (pt_cmpR op_ne (pv 1) (pv 2) (nomark _)) (pss_cons (ps_set (i := 7) sc_regrown.nd rfl (Or.inl rfl) (pe_c C_split hr (by omega) rfl (pa_cons (pv 2) pa_nil)))
  (pss_cons (ps_expr (pe_bm PySem.F.plainAttrs_list PySem.F.slot_list_append PySem.F.type_list_append mt_append (pv 6) (pa_cons (pe_tup (pa_cons (pv 4) (pa_cons (pe_cmpR op_le (pv 1) (pv 7) (nomark _)) pa_nil))) pa_nil)))
  (pss_cons (ps_if (pt_cmpR op_le (pv 1) (pv 7) (nomark _)) (pss_one (ps_set (i := 2) sc_regrown.nd rfl (Or.inl rfl) (pv 7))) (pss_one (ps_par (i := 1) (j := 2) rfl sc_regrown.nd rfl rfl (by decide) rfl rfl (pa_cons (pe_op op_sub (pv 1) (pv 7)) (pa_cons (pe_op op_sub (pv 2) (pv 7)) pa_nil)) (by rfl))))
  (pss_cons (ps_set (i := 4) sc_regrown.nd rfl (Or.inl rfl) (pe_cx C_last_of (takes_of rfl rfl rfl rfl) hr (by omega) rfl (pa_cons (pv 5) pa_nil)))
  (pss_one (ps_set (i := 5) sc_regrown.nd rfl (Or.inl rfl) (pe_slice sl_list (pv 5) po_none (po_some (pe_op op_sub (pe_callB call_len_seq rfl Z.len PySem.boot_len (pa_cons (pv 5) pa_nil)) pe_int))))))))))
  (pss_cons (ps_if (pt_cmpR op_gt (pe_callB call_len_seq rfl Z.len PySem.boot_len (pa_cons (pv 5) pa_nil)) pe_int (nomark _)) (pss_one (ps_raiseX F_BadPaper g_BadPaper rfl (takes_of rfl rfl rfl rfl) rfl)) pss_nil)
  (pss_cons (ps_par (i := 8) (j := 9) rfl sc_regrown.nd rfl rfl (by decide) rfl rfl (pa_cons (pv 4) (pa_cons (pv 4) pa_nil)) (by rfl))
  (pss_cons (ps_for (passes_of rfl) rfl (pi_list (pe_revL (pv 6))) (pg_tup rfl (pgs_cons (pg_name (i := 4) sc_regrown.nd rfl (Or.inl rfl)) (pgs_cons (pg_name (i := 10) sc_regrown.nd rfl (Or.inl rfl)) pgs_nil))) (pss_cons (ps_if (pt_not (pt_val (pv 10))) (pss_one (ps_set (i := 8) sc_regrown.nd rfl (Or.inl rfl) (pe_c C_pair_seal hr (by omega) rfl (pa_cons (pv 0) (pa_cons (pv 4) (pa_cons (pv 8) pa_nil)))))) pss_nil)
  (pss_one (ps_set (i := 9) sc_regrown.nd rfl (Or.inl rfl) (pe_ifExp (pt_val (pv 10)) (pe_c C_pair_seal hr (by omega) rfl (pa_cons (pv 0) (pa_cons (pv 9) (pa_cons (pv 4) pa_nil)))) (pe_c C_pair_seal hr (by omega) rfl (pa_cons (pv 0) (pa_cons (pv 4) (pa_cons (pv 9) pa_nil)))))))))
  (pss_one (ps_ret (pe_tup (pa_cons (pv 8) (pa_cons (pv 9) pa_nil))))))))))), ?_⟩
  rcases h with ⟨a, ys, ts, rfl, ha, hd, hl, q1, q2⟩ | ⟨o, q⟩
  case inr => exact ⟨_, rfl, v, rfl, .inr ⟨o, fun C hC => q C H hC (Ext.refl _) (G.less hok (by omega))⟩⟩
  have hlen := hd.len
  refine ⟨_, rfl, .ref a, rfl, .inl ⟨a, ys, rfl, ha, fun y hy => ?_, fun e C hC => q2 ?_ C H hC (Ext.refl _) (G.less hok (by omega))⟩⟩
  case refine_2 =>
    have := glen_pos old n
    rw [e] at hlen
    rw [← hlen]
    show 0 ≠ _
    omega
  have hy' := getLast_at hy
  have hyl := (List.getElem?_eq_some_iff.mp hy').1
  obtain ⟨t, ht⟩ : ∃ t, ts[ys.length - 1]? = some t := ⟨ts[ys.length - 1]'(by omega), List.getElem?_eq_getElem _⟩
  have hyt := hd.at_ _ _ _ hy' ht
  have el : ts.getLastD nonT = t := by
    rw [List.getLastD_eq_getLast?, List.getLast?_eq_getElem?, ← hlen, ht]
    rfl
  have hts := last_split (l := ts) (d := nonT) (by omega)
  rw [el] at hts
  refine ⟨_, rfl, _, rfl, a, ys, rfl, .inl (SqL.of ha), _, 1, rfl, rfl, ((ys.length - 1 : Nat) : Int), by rw [show ((ys.length - 1 : Nat) : Int) = (ys.length : Int) - 1 by omega], a, ys, rfl, SqL.of ha, fun p1 np1 => ?_⟩
  rw [cut_to]
  have x1 := Ext.new (o := .lst (ys.take (ys.length - 1))) np1
  have k1 := Kp.new (o := .lst (ys.take (ys.length - 1))) np1
  refine ⟨by show 0 ≤ sizeLine; decide, fun p np => ⟨_, _, rfl, ?_⟩⟩
  have x2 := x1.trans (Ext.new (o := .lst []) np)
  have k2 := k1.trans (Kp.new (o := .lst []) np)
  have np0 := x1.free np
  have np1p : p1 ≠ p := ne_of_none upd_same np
  have hp1 : upd (upd H p1 (.lst (ys.take (ys.length - 1)))) p (.lst []) p1 = some (.lst (ys.take (ys.length - 1))) := by rw [upd_ne np1p]; exact upd_same
  have hpp : upd (upd H p1 (.lst (ys.take (ys.length - 1)))) p (.lst []) p = some (.lst []) := upd_same
  have hd1 : DenL S (upd (upd H p1 (.lst (ys.take (ys.length - 1)))) p (.lst [])) (ys.take (ys.length - 1)) ts.dropLast := by
    have := (hd.take (ts.length - 1)).mono G k2.gr
    rwa [show ts.take (ts.length - 1) = ts.dropLast from List.dropLast_eq_take.symm, ← hlen] at this
  have ok2 := G.keep k2 hok
  have hyt2 := G.mono k2.gr hyt
  generalize upd (upd H p1 (.lst (ys.take (ys.length - 1)))) p (.lst []) = H2 at x2 k2 hp1 hpp hd1 ok2 hyt2 ⊢
  refine ⟨fun m σ H' => ∃ (old' n' : Nat) (lv : V) (lt : Tm) (b : Addr) (us : List V) (ts' : List Tm) (ss : List (Tm × Bool)) (ssv : List V) (y7 : Option V), n' = m ∧ σ = [some (.ref S.f), some (.int (old' : Int)), some (.int (n' : Int)), some (.ref a), some lv, some (.ref b), some (.ref p), y7, none, none, none] ∧
    Ext H H' ∧ S.ok H' (r + 2 * glen old n) ∧ H' p = some (.lst ssv) ∧ SideL S H' ssv ss ∧ H' b = some (.lst us) ∧ b ≠ p ∧ DenL S H' us ts' ∧ S.den H' lv lt ∧ 0 < old' ∧ old' ≤ n' ∧ n' ≤ n ∧
    ts'.length + 1 + ss.length = ts.length ∧ glen old' n' + ss.length = glen old n ∧ ss ++ gsides old' n' (ts' ++ [lt]) = gsides old n ts ∧ gb old' n' (ts' ++ [lt]) = gb old n ts, ⟨_, old, n, y, t, p1, _, ts.dropLast, [], [], none, rfl, rfl, x2, ok2, hpp, .nil, hp1, np1p, hd1, hyt2, ho0, hon, Nat.le_refl _, ?_, rfl, ?_, ?_⟩, ?_⟩
  · rw [List.length_dropLast]
    show _ + 1 + 0 = _
    omega
  · rw [← hts]
    rfl
  · rw [← hts]
  rintro m σ H3 ⟨old', n', lv, lt, b, us, ts', ss, ssv, y7, rfl, rfl, x3, ok3, hp3, hss, hb, hbp, hd3, hlv, ho', hon', hnn, hc1, hc2, hc3, hc4⟩
  have hsl := hss.len
  have hul := hd3.len
  have glb := glen_le 10 old n (by show n ≤ 1024; omega)
  refine ⟨_, rfl, _, rfl, rfl, _, rfl, ?_⟩
  by_cases heq : old' = n'
  · subst heq
    rw [decide_eq_true rfl]
    refine iteF ?_
    refine ⟨_, rfl, b, us, rfl, .inl (SqL.of hb), _, 0, rfl, rfl, _, rfl, ite2 (fun c => ?_) (fun c => ?_)⟩
    · have c' : (0 : Int) < (us.length : Int) := of_decide_eq_true c
      refine q2 ?_ _ _ g_BadPaper x3 (G.less ok3 (by omega))
      rw [glen_all] at hc2
      omega
    have c' : ¬ (0 : Int) < (us.length : Int) := of_decide_eq_false (Bool.eq_false_iff.mpr c)
    have tsz : ts' = [] := List.eq_nil_of_length_eq_zero (by omega)
    subst tsz
    rw [glen_all] at hc2
    rw [gs_all.1, List.append_nil] at hc3
    rw [gs_all.2] at hc4
    have elt : lt = gb old n ts := hc4
    have hl2 : ts.length = glen old n := by
      have : ([] : List Tm).length = 0 := rfl
      omega
    refine ⟨_, rfl, _, rfl, _, _, rfl, ?_⟩
    refine ⟨_, rfl, p, ssv, rfl, SqL.of hp3, fun p4 np4 => ⟨p4, rfl, ⟨_, SqL.of upd_same⟩, ?_⟩⟩
    have x4 := x3.trans (Ext.new (o := .lst ssv.reverse) np4)
    have k4 := Kp.new (o := .lst ssv.reverse) np4
    have hp4 : upd H3 p4 (.lst ssv.reverse) p4 = some (.lst ssv.reverse) := upd_same
    have ok4 := G.keep k4 ok3
    have hss4 := hss.mono G k4.gr
    have hlv4 := G.mono k4.gr hlv
    generalize upd H3 p4 (.lst ssv.reverse) = H4 at x4 hp4 ok4 hss4 hlv4 ⊢
    refine for_list (K := K) (a := p4) (xs := ssv.reverse) (fun i σ H' => ∃ (u1 u2 : V) (z4 z10 : Option V), σ = [some (.ref S.f), some (.int (old' : Int)), some (.int (old' : Int)), some (.ref a), z4, some (.ref b), some (.ref p), y7, some u1, some u2, z10] ∧ Ext H4 H' ∧ S.ok H' (r + 2 * (ss.length - i)) ∧ S.den H' u1 ((ss.drop (ss.length - i)).foldr stepO lt) ∧ S.den H' u2 ((ss.drop (ss.length - i)).foldr stepT lt))
      ⟨lv, lv, _, _, rfl, Ext.refl _, G.less ok4 (by omega), by rw [Nat.sub_zero, List.drop_length]; exact hlv4, by rw [Nat.sub_zero, List.drop_length]; exact hlv4⟩ (fun i σ H' _ ⟨_, _, _, _, _, x, _⟩ => SqL.of (x.lst hp4)) ?_ ?_
    · rintro i y2 σ H' hi ⟨u1, u2, z4, z10, rfl, x, ok, hu1, hu2⟩
      have hlt := (List.getElem?_eq_some_iff.mp hi).1
      rw [List.length_reverse] at hlt
      rw [List.getElem?_reverse hlt] at hi
      have hj : ssv.length - 1 - i < ss.length := by omega
      obtain ⟨q, aa, rfl, hq, haa⟩ := (hss4.mono G x.gr).at_ _ y2 (ss[ssv.length - 1 - i]) hi (List.getElem?_eq_getElem hj)
      have ed : ss.drop (ss.length - (i + 1)) = ss[ssv.length - 1 - i] :: ss.drop (ss.length - i) := by
        rw [show ss.length - (i + 1) = ssv.length - 1 - i by omega, List.drop_eq_getElem_cons hj, show ssv.length - 1 - i + 1 = ss.length - i by omega]
      refine ⟨q, _, rfl, SqT.of hq, rfl, ?_⟩
      rw [ed, List.foldr_cons, List.foldr_cons]
      generalize ss[ssv.length - 1 - i] = sd at hq haa ⊢
      obtain ⟨st, sb⟩ := sd
      refine ⟨_, _, rfl, _, _, rfl, rfl, ?_⟩
      refine ⟨_, rfl, _, rfl, ?_⟩
      cases sb with
      | true =>
        refine iteF ?_
        refine ⟨_, rfl, _, rfl, iteT ?_⟩
        refine ⟨_, rfl, _, rfl, _, rfl, S, u2, aa, _, _, r + 2 * (ss.length - (i + 1)), hF, rfl, G.less ok (by omega), hu2, haa, fun v' H'' x' ok' d' => ?_⟩
        exact ⟨u1, v', _, _, rfl, x.trans x', ok', G.mono x'.gr hu1, d'⟩
      | false =>
        refine iteT ?_
        refine ⟨_, rfl, _, rfl, _, rfl, S, aa, u1, _, _, r + 2 * (ss.length - (i + 1)) + 1, hF, rfl, G.less ok (by omega), haa, hu1, fun v1 H5 x5 ok5 d5 => ?_⟩
        refine ⟨_, rfl, _, rfl, iteF ?_⟩
        refine ⟨_, rfl, _, rfl, _, rfl, S, aa, u2, _, _, r + 2 * (ss.length - (i + 1)), hF, rfl, ok5, G.mono x5.gr haa, G.mono x5.gr hu2, fun v' H'' x' ok' d' => ?_⟩
        exact ⟨v1, v', _, _, rfl, (x.trans x5).trans x', ok', G.mono x'.gr d5, d'⟩
    · rintro σ H6 ⟨u1, u2, z4, z10, rfl, x6, ok6, hu1, hu2⟩
      rw [List.length_reverse, hsl, Nat.sub_self, List.drop_zero] at hu1 hu2
      refine ⟨_, rfl, _, rfl, by show 2 ≤ sizeLine; decide, fun q nq => ?_⟩
      have e6 := Ext.new (o := .tup [u1, u2]) nq
      refine q1 hl2 q u1 u2 _ ((x4.trans x6).trans e6) (G.less (G.keep (Kp.new nq) ok6) (by omega)) upd_same ?_ ?_
      · rw [regT_fold, ← hc3, ← elt]
        exact G.mono e6.gr hu1
      · rw [regT_fold, ← hc3, ← elt]
        exact G.mono e6.gr hu2
  · rw [decide_eq_false (show ¬ V.int (old' : Int) = V.int (n' : Int) from fun z => heq (by have := V.int.inj z; omega))]
    refine iteT ?_
    have h2 : 2 ≤ n' := by omega
    have hs1 := splitN_lt h2
    have hs2 := splitN_pos n'
    refine ⟨_, fun σ' H' h => h, ?_⟩
    refine ⟨_, rfl, n', rfl, h2, Nat.le_trans (Nat.log2_le_self _) (by omega), ?_⟩
    refine ⟨_, rfl, .inl ⟨rfl, _, SqL.of hp3⟩, _, rfl, _, rfl, _, rfl, _, _, rfl, rfl, by show 2 ≤ sizeLine; decide, fun q hq => ?_⟩
    have npq : q ≠ p := fun z => by rw [z, hp3] at hq; cases hq
    have nqb : q ≠ b := fun z => by rw [z, hb] at hq; cases hq
    have u1 := Ext.new (o := .tup [lv, .bl (decide ((old' : Int) ≤ ((splitN n' : Nat) : Int)))]) hq
    have j1 := Kp.new (o := .tup [lv, .bl (decide ((old' : Int) ≤ ((splitN n' : Nat) : Int)))]) hq
    have hp4 := u1.lst hp3
    have hq4 : upd H3 q (.tup [lv, .bl (decide ((old' : Int) ≤ ((splitN n' : Nat) : Int)))]) q = some (.tup [lv, .bl (decide ((old' : Int) ≤ ((splitN n' : Nat) : Int)))]) := upd_same
    have hb4 := u1.lst hb
    generalize upd H3 q (.tup [lv, .bl (decide ((old' : Int) ≤ ((splitN n' : Nat) : Int)))]) = H4 at u1 j1 hp4 hq4 hb4 ⊢
    refine ⟨p, ssv, _, rfl, rfl, hp4, by rw [hsl, e16]; omega, ?_⟩
    have k5 := j1.trans (Kp.lst (o := .lst (ssv ++ [.ref q])) hp4)
    have x5 := (x3.trans u1).mut (o := .lst (ssv ++ [.ref q])) np0
    have hp5 : upd H4 p (.lst (ssv ++ [.ref q])) p = some (.lst (ssv ++ [.ref q])) := upd_same
    have hq5 : upd H4 p (.lst (ssv ++ [.ref q])) q = some (.tup [lv, .bl (decide ((old' : Int) ≤ ((splitN n' : Nat) : Int)))]) := by rw [upd_ne npq]; exact hq4
    have hb5 : upd H4 p (.lst (ssv ++ [.ref q])) b = some (.lst us) := by rw [upd_ne hbp]; exact hb4
    generalize upd H4 p (.lst (ssv ++ [.ref q])) = H5 at k5 x5 hp5 hq5 hb5 ⊢
    have ok5 := G.keep k5 ok3
    have hd5 := hd3.mono G k5.gr
    -- the next one, or none
    have nx : ∀ R : VK, (∀ y t, us.getLast? = some y → ts'.getLast? = some t → S.den H5 y t → R y H5) → spLast K mg [.ref b] H5 R (fun cls d H' => E cls d H') := fun R hR => by
      refine ⟨.ref b, rfl, .inl ⟨b, us, rfl, hb5, fun y hy => ?_, fun e C hC => q2 ?_ C H5 hC x5 (G.less ok5 (by omega))⟩⟩
      · have hy' := getLast_at hy
        have hyl := (List.getElem?_eq_some_iff.mp hy').1
        obtain ⟨t, ht⟩ : ∃ t, ts'[us.length - 1]? = some t := ⟨ts'[us.length - 1]'(by omega), List.getElem?_eq_getElem _⟩
        exact hR y t hy (by rw [List.getLast?_eq_getElem?, ← hul, ht]) (hd5.at_ _ _ _ hy' ht)
      · rw [e] at hul
        have hul' : ts'.length = 0 := hul.symm
        have : 2 ≤ glen old' n' := by
          by_cases hp : old' ≤ splitN n'
          · rw [glen_low ho' (by omega) hp]
            have := glen_pos old' (splitN n')
            omega
          · rw [glen_high ho' (by omega) hp]
            have := glen_pos (old' - splitN n') (n' - splitN n')
            omega
        omega
    refine ⟨_, rfl, _, rfl, _, _, rfl, rfl, _, rfl, ite2 (fun c2 => ?_) (fun c2 => ?_)⟩
    · have c2' : (old' : Int) ≤ ((splitN n' : Nat) : Int) := of_decide_eq_true c2
      have hp : old' ≤ splitN n' := by omega
      have g1 := gs_low (ps := ts' ++ [lt]) ho' (by omega) hp
      rw [List.dropLast_concat, getLastD_concat] at g1
      have g2 := glen_low ho' (by omega) hp
      refine ⟨_, rfl, ?_⟩
      refine ⟨_, rfl, nx _ fun y2 t2 hy2 ht2 hyt2 => ?_⟩
      have ht2' := getLast_at ht2
      have htl := (List.getElem?_eq_some_iff.mp ht2').1
      refine ⟨_, rfl, _, rfl, b, us, rfl, .inl (SqL.of hb5), _, 1, rfl, rfl, ((us.length - 1 : Nat) : Int), by rw [show ((us.length - 1 : Nat) : Int) = (us.length : Int) - 1 by omega], b, us, rfl, SqL.of hb5, fun p6 np6 => ?_⟩
      rw [cut_to]
      have x6 := Ext.new (o := .lst (us.take (us.length - 1))) np6
      have k6 := Kp.new (o := .lst (us.take (us.length - 1))) np6
      have ht4 : ts' = ts'.dropLast ++ [t2] := by
        have := last_split (l := ts') (d := nonT) (by omega)
        rwa [List.getLastD_eq_getLast?, ht2] at this
      have np6p : p6 ≠ p := fun z => by rw [z, hp5] at np6; cases np6
      refine ⟨splitN n', hs1, old', splitN n', y2, t2, p6, us.take (us.length - 1), ts'.dropLast, ss ++ [(lt, true)], ssv ++ [.ref q], _, rfl, rfl, x5.trans x6, G.keep k6 ok5, x6.lst hp5, ((hss.mono G k5.gr).snoc (by rw [hq5, decide_eq_true c2']) (G.mono k5.gr hlv)).mono G k6.gr, upd_same, np6p, ?_, G.mono k6.gr hyt2, ho', hp, by omega, ?_, ?_, ?_, ?_⟩
      · have := (hd5.take (ts'.length - 1)).mono G k6.gr
        rwa [show ts'.take (ts'.length - 1) = ts'.dropLast from List.dropLast_eq_take.symm, ← hul] at this
      · rw [List.length_dropLast, List.length_append]
        show _ + 1 + (_ + 1) = _
        omega
      · rw [List.length_append]
        show _ + (_ + 1) = _
        omega
      · rw [← hc3, g1.1, ← ht4, List.append_assoc]
        rfl
      · rw [← hc4, g1.2, ← ht4]
    · have c2' : ¬ (old' : Int) ≤ ((splitN n' : Nat) : Int) := of_decide_eq_false (Bool.eq_false_iff.mpr c2)
      have hp : ¬ old' ≤ splitN n' := by omega
      have g1 := gs_high (ps := ts' ++ [lt]) ho' (by omega) hp
      rw [List.dropLast_concat, getLastD_concat] at g1
      have g2 := glen_high ho' (by omega) hp
      refine ⟨_, rfl, _, rfl, _, _, rfl, rfl, _, rfl, _, rfl, _, _, rfl, rfl, _, _, rfl, ?_⟩
      refine ⟨_, rfl, nx _ fun y2 t2 hy2 ht2 hyt2 => ?_⟩
      have ht2' := getLast_at ht2
      have htl := (List.getElem?_eq_some_iff.mp ht2').1
      refine ⟨_, rfl, _, rfl, b, us, rfl, .inl (SqL.of hb5), _, 1, rfl, rfl, ((us.length - 1 : Nat) : Int), by rw [show ((us.length - 1 : Nat) : Int) = (us.length : Int) - 1 by omega], b, us, rfl, SqL.of hb5, fun p6 np6 => ?_⟩
      rw [cut_to]
      have x6 := Ext.new (o := .lst (us.take (us.length - 1))) np6
      have k6 := Kp.new (o := .lst (us.take (us.length - 1))) np6
      have ht4 : ts' = ts'.dropLast ++ [t2] := by
        have := last_split (l := ts') (d := nonT) (by omega)
        rwa [List.getLastD_eq_getLast?, ht2] at this
      have np6p : p6 ≠ p := fun z => by rw [z, hp5] at np6; cases np6
      refine ⟨n' - splitN n', by omega, old' - splitN n', n' - splitN n', y2, t2, p6, us.take (us.length - 1), ts'.dropLast, ss ++ [(lt, false)], ssv ++ [.ref q], some (.int ((splitN n' : Nat) : Int)), rfl, ?_, x5.trans x6, G.keep k6 ok5, x6.lst hp5, ((hss.mono G k5.gr).snoc (by rw [hq5, decide_eq_false c2']) (G.mono k5.gr hlv)).mono G k6.gr, upd_same, np6p, ?_, G.mono k6.gr hyt2, by omega, by omega, by omega, ?_, ?_, ?_, ?_⟩
      · rw [show ((old' - splitN n' : Nat) : Int) = (old' : Int) - ((splitN n' : Nat) : Int) by omega, show ((n' - splitN n' : Nat) : Int) = (n' : Int) - ((splitN n' : Nat) : Int) by omega]
        rfl
      · have := (hd5.take (ts'.length - 1)).mono G k6.gr
        rwa [show ts'.take (ts'.length - 1) = ts'.dropLast from List.dropLast_eq_take.symm, ← hul] at this
      · rw [List.length_dropLast, List.length_append]
        show _ + 1 + (_ + 1) = _
        omega
      · rw [List.length_append]
        show _ + (_ + 1) = _
        omega
      · rw [← hc3, g1.1, ← ht4, List.append_assoc]
        rfl
      · rw [← hc4, g1.2, ← ht4]
end

/-! ### a claim that an entry stands at a place -/
def judgeS (place : Int) (lt : Tm) (n : Nat) (ht : Tm) : Option (List Tm) → Bool
  | none => false
  | some ps => decide (0 ≤ place ∧ place < (n : Int) ∧ ps.length = plen place.toNat n ∧ Tm.sl "book" (.int (n : Int)) (riseT lt (sidesT place.toNat n ps)) = ht)
/-- a paper: a row of tops, or no list -/
def Pap (K : PySem.W.Frag) (S : Sys) (H : Hp) (v : V) : Option (List Tm) → Prop
  | none => ∀ H', Ext H H' → Odd K H' v
  | some ps => ∃ a ys, v = .ref a ∧ H a = some (.lst ys) ∧ DenL S H ys ps ∧ ps.length ≤ 100 ∧ ∀ t ∈ ps, WS t ∧ t.dep ≤ 20
theorem Pap.ext {K : PySem.W.Frag} {S : Sys} (G : S.Good K) {H H' : Hp} {v : V} {p : Option (List Tm)} (h : Pap K S H v p) (e : Ext H H') : Pap K S H' v p := by
  cases p with
  | none => exact fun H2 e2 => h H2 (e.trans e2)
  | some ps =>
    obtain ⟨a, ys, rfl, ha, hd, hl, hp⟩ := h
    exact ⟨a, ys, rfl, e.lst ha, hd.mono G e.gr, hl, hp⟩

def stF (place : Int) (x : Str) (tv : V) : List (Str × V) := [("place", .int place), ("words", .str x), ("table", tv)]
theorem stF_place (place : Int) (x : Str) (tv : V) : (stF place x tv).lookup ("place" : Str) = some (.int place) := by kernel_rfl
theorem stF_words (place : Int) (x : Str) (tv : V) : (stF place x tv).lookup ("words" : Str) = some (.str x) := by kernel_rfl
theorem stF_table (place : Int) (x : Str) (tv : V) : (stF place x tv).lookup ("table" : Str) = some tv := by kernel_rfl
theorem stF_no (place : Int) (x : Str) (tv : V) : (stF place x tv).lookup ("judged" : Str) = none ∧ (stF place x tv).lookup ("shown" : Str) = none := ⟨by kernel_rfl, by kernel_rfl⟩
theorem stF_mk (place : Int) (x : Str) (tv : V) : putF "table" tv (putF "words" (.str x) (putF "place" (.int place) [])) = stF place x tv := by kernel_rfl
section
variable {P : Program} {w : World} {K : PySem.W.Frag} {mg : Str → Option Value} {base : Heap} {Fam : Sys → Prop} {C : Addr}
def spStInit (C : Addr) : Sp := fun vs H Q _ => ∃ (p dx : Addr) (place : Int) (x : Str) (tv : V), vs = [.ref p, .int place, .str x, tv] ∧ H p = some (.ins C dx []) ∧ ∀ H', ExtO p H H' → Kp H H' → H' p = some (.ins C dx (stF place x tv)) → Q .non H'
theorem ok_stinit (KS : K_Stands K mg C) : Mak P w K mg base 1 "Stands" C (spStInit C) [] := by
  refine mak_of KS.mgC KS.made sc_Stands___init__ (fun vs H Q E h => ?_) (fun f cdv A' outer s H vs Q E hr h => ?_)
  · obtain ⟨p, dx, place, x, tv, rfl, _⟩ := h
    rfl
  obtain ⟨p, dx, place, x, tv, rfl, hp, q⟩ := h
  refine ⟨_, (pss_cons (ps_fld (pv 0) (pv 1) rfl)
  (pss_cons (ps_fld (pv 0) (pv 2) rfl)
  (pss_one (ps_fld (pv 0) (pv 3) rfl)))), ?_⟩
  refine ⟨_, rfl, _, rfl, p, C, dx, _, rfl, hp, KS.cl, KS.n_place, by show 0 < 1000; decide, ?_⟩
  refine ⟨_, rfl, _, rfl, p, C, dx, _, rfl, upd_same, KS.cl, KS.n_words, by show 1 < 1000; decide, ?_⟩
  refine ⟨_, rfl, _, rfl, p, C, dx, _, rfl, upd_same, KS.cl, KS.n_table, by show 2 < 1000; decide, ?_⟩
  have x1 := ExtO.put (o := .ins C dx (putF "place" (.int place) [])) hp
  have k1 := Kp.ins (o := .ins C dx (putF "place" (.int place) [])) hp
  have x2 := x1.trans (ExtO.put (o := .ins C dx (putF "words" (.str x) (putF "place" (.int place) []))) upd_same)
  have k2 := k1.trans (Kp.ins (o := .ins C dx (putF "words" (.str x) (putF "place" (.int place) []))) upd_same)
  refine q _ (x2.trans (ExtO.put upd_same)) (k2.trans (Kp.ins upd_same)) ?_
  rw [upd_same, stF_mk]
def spShownS (K : PySem.W.Frag) (mg : Str → Option Value) (C : Addr) (Fam : Sys → Prop) : Sp := fun vs H Q E => ∃ (S : Sys) (p dx : Addr) (place : Int) (x : Str) (tv : V) (ta : Tm) (n : Nat) (m : Int) (Y : Tm) (head v : V) (paper : Option (List Tm)) (r : Nat), Fam S ∧ vs = [.ref p, .ref S.f, .int (n : Int), head, v] ∧ H p = some (.ins C dx (stF place x tv)) ∧ txtOk x = true ∧ S.den H tv ta ∧ WS ta ∧ ta.dep ≤ 18 ∧ n ≤ 1000 ∧
  S.den H head (.sl "book" (.int m) Y) ∧ WS Y ∧ Y.dep ≤ 40 ∧ Pap K S H v paper ∧ S.ok H (r + 20) ∧
  (∀ H', Ext H H' → S.ok H' r → Q (.bl (judgeS place (.sl "leaf" (.str x) ta) n (.sl "book" (.int m) Y) paper)) H') ∧
  (judgeS place (.sl "leaf" (.str x) ta) n (.sl "book" (.int m) Y) paper = false → ∀ D H', mg "BadPaper" = some (.ref D) → Ext H H' → S.ok H' r → E (.ref D) none H')
theorem ok_shownS {cc : Addr} (T : Txt K mg cc) (A : SlA P w K mg base Fam) (I3 : ∀ {S}, Fam S → S.Inj K) (KS : K_Stands K mg C) : MetR P w K mg base 4 C "shown" (spShownS K mg C Fam) := by
  have Z := T.Z
  have C_leaf_seal := ok_leaf_seal T A
  have C_book_seal := ok_book_seal T A
  have C_risen := ok_risen T A (ok_last T) (ok_split T) (ok_pair_seal T A)
  refine metR_of KS.cl KS.m_shown sc_Stands_shown (fun vs H Q E h => ?_) (fun f cdv A' outer s H vs Q E hr h => ?_)
  · obtain ⟨S, p, dx, place, x, tv, ta, n, m, Y, head, v, paper, r, _, rfl, _⟩ := h
    rfl
  obtain ⟨S, p, dx, place, x, tv, ta, n, m, Y, head, v, paper, r, hF, rfl, hp, hx, htv, hws, hta, hn, hh, hY, hYd, hpap, hok, q1, q2⟩ := h
  have G := A.good hF
  refine ⟨_, (pss_cons (ps_if (pt_not (pt_chain op_le op_lt pe_int (pe_fld (pv 0) rfl) (pv 2))) (pss_one (ps_ret pe_bl)) pss_nil)
  (pss_cons (ps_set (i := 5) sc_Stands_shown.nd rfl (Or.inl rfl) (pe_c C_leaf_seal hr (by omega) rfl (pa_cons (pv 1) (pa_cons (pe_fld (pv 0) rfl) (pa_cons (pe_fld (pv 0) rfl) pa_nil)))))
  (pss_one (ps_ret (pe_cmpR (op_eqD hr.units) (pe_c C_book_seal hr (by omega) rfl (pa_cons (pv 1) (pa_cons (pv 2) (pa_cons (pe_cx C_risen (takes_of rfl rfl rfl rfl) hr (by omega) rfl (pa_cons (pv 1) (pa_cons (pv 5) (pa_cons (pe_fld (pv 0) rfl) (pa_cons (pv 2) (pa_cons (pv 4) pa_nil)))))) pa_nil)))) (pv 3) (nomark _)))))), ?_⟩
  have bad : ¬ (0 ≤ place ∧ place < (n : Int)) → judgeS place (.sl "leaf" (.str x) ta) n (.sl "book" (.int m) Y) paper = false := fun z => by
    cases paper with
    | none => rfl
    | some ps => exact decide_eq_false fun h => z ⟨h.1, h.2.1⟩
  refine ⟨_, rfl, p, C, dx, _, _, rfl, hp, KS.cl, KS.n_place, stF_place _ _ _, _, _, rfl, rfl, _, rfl, ite2 (fun c1 => ?_) (fun c1 => ?_)⟩
  · have c1' : (0 : Int) ≤ place := of_decide_eq_true c1
    refine ⟨_, rfl, _, _, rfl, rfl, _, rfl, ?_⟩
    by_cases c2 : place < (n : Int)
    · rw [decide_eq_true c2]
      refine iteF ?_
      obtain ⟨pl, rfl⟩ := Int.eq_ofNat_of_zero_le c1'
      have hpl : pl < n := by omega
      refine ⟨_, rfl, _, rfl, p, C, dx, _, _, rfl, hp, KS.cl, KS.n_words, stF_words _ _ _, _, rfl, p, C, dx, _, _, rfl, hp, KS.cl, KS.n_table, stF_table _ _ _, S, _, _, .str x, ta, r + 19, hF, rfl, hok, G.str _ hok hx, htv, fun vl H1 x1 ok1 d1 => ?_⟩
      have plb := plen_le 10 pl n (by show n ≤ 1024; omega)
      refine ⟨_, rfl, _, rfl, _, rfl, _, rfl, _, rfl, p, C, dx, _, _, rfl, x1.ins hp, KS.cl, KS.n_place, stF_place _ _ _, _, rfl, _, rfl, S, vl, _, pl, n, v, r + 5, hF, rfl, d1, hpl, Nat.le_trans (Nat.log2_le_self _) hn, G.less ok1 (by omega), ?_⟩
      have hpap1 := hpap.ext G x1
      cases paper with
      | none => exact .inr ⟨hpap1, fun D H' hD e ok => q2 rfl D H' hD (x1.trans e) (G.less ok (by omega))⟩
      | some ps =>
        obtain ⟨a, ys, rfl, ha, hd, hl, hps⟩ := hpap1
        refine .inl ⟨a, ys, ps, rfl, ha, hd, by omega, fun t ht => Nat.le_trans (hps t ht).2 (by decide), fun hlen u H2 x2 ok2 d2 => ?_, fun hlen D H' hD e ok => q2 (decide_eq_false fun h => hlen h.2.2.1) D H' hD (x1.trans e) (G.less ok (by omega))⟩
        refine ⟨S, _, u, .int (n : Int), _, r + 4, hF, rfl, ok2, G.int _ ok2, d2, fun ub H3 x3 ok3 d3 => ?_⟩
        have x13 := (x1.trans x2).trans x3
        have smem := sidesT_mem hlen
        have hlt : (Tm.sl "leaf" (.str x) ta).dep ≤ 20 := by show max 0 ta.dep + 1 ≤ 20; omega
        have rw1 : WS (riseT (.sl "leaf" (.str x) ta) (sidesT pl n ps)) := riseT_ws (.leaf x hws) fun s hs => (hps _ (smem s hs)).1
        have rd1 := riseT_dep (n := 20) hlt (fun s hs => (hps _ (smem s hs)).2)
        rw [sidesT_len] at rd1
        have cmp : cmpT (.sl "book" (.int (n : Int)) (riseT (.sl "leaf" (.str x) ta) (sidesT pl n ps))) (.sl "book" (.int m) Y) := .inr ⟨True.intro, rw1.cmp hY⟩
        obtain ⟨d, d', e1, e2, e3, e4, e5, e6, e7⟩ := (I3 hF).inj ok3 d3 (G.mono x13.gr hh) cmp
        have dd1 : (Tm.sl "book" (.int (n : Int)) (riseT (.sl "leaf" (.str x) ta) (sidesT pl n ps))).dep ≤ 60 := by show max 0 _ + 1 ≤ 60; omega
        have dd2 : (Tm.sl "book" (.int m) Y).dep ≤ 60 := by show max 0 Y.dep + 1 ≤ 60; omega
        refine ⟨_, rfl, d, d', e1, e2, shaped_of e3 (by omega), shaped_of e4 (by omega), ?_⟩
        rw [e7]
        have q3 := q1 H3 x13 (G.less ok3 (by omega))
        have ej : judgeS ((pl : Nat) : Int) (.sl "leaf" (.str x) ta) n (.sl "book" (.int m) Y) (some ps) = decide (Tm.sl "book" (.int (n : Int)) (riseT (.sl "leaf" (.str x) ta) (sidesT pl n ps)) = .sl "book" (.int m) Y) := by
          show decide _ = decide _
          rw [Int.toNat_natCast]
          congr 1
          exact propext ⟨fun h => h.2.2.2, fun h => ⟨c1', c2, hlen, h⟩⟩
        rw [ej] at q3
        exact q3
    · rw [decide_eq_false c2]
      refine iteT ?_
      have := q1 H (Ext.refl _) (G.less hok (by omega))
      rw [bad fun z => c2 z.2] at this
      exact this
  · have c1' : ¬ (0 : Int) ≤ place := of_decide_eq_false (Bool.eq_false_iff.mpr c1)
    refine ⟨_, rfl, iteT ?_⟩
    have := q1 H (Ext.refl _) (G.less hok (by omega))
    rw [bad fun z => c1' z.1] at this
    exact this
def spJudgedS (K : PySem.W.Frag) (C : Addr) (Fam : Sys → Prop) : Sp := fun vs H Q _ => ∃ (S : Sys) (p dx : Addr) (place : Int) (x : Str) (tv : V) (ta : Tm) (n : Nat) (m : Int) (Y : Tm) (head v : V) (paper : Option (List Tm)) (r : Nat), Fam S ∧ vs = [.ref p, .ref S.f, .int (n : Int), head, v] ∧ H p = some (.ins C dx (stF place x tv)) ∧ txtOk x = true ∧ S.den H tv ta ∧ WS ta ∧ ta.dep ≤ 18 ∧ n ≤ 1000 ∧
  S.den H head (.sl "book" (.int m) Y) ∧ WS Y ∧ Y.dep ≤ 40 ∧ Pap K S H v paper ∧ S.ok H (r + 20) ∧
  (∀ H', Ext H H' → S.ok H' r → Q (.bl (judgeS place (.sl "leaf" (.str x) ta) n (.sl "book" (.int m) Y) paper)) H')
theorem ok_judgedS {cc : Addr} (T : Txt K mg cc) (A : SlA P w K mg base Fam) (I3 : ∀ {S}, Fam S → S.Inj K) (KS : K_Stands K mg C) : Met P w K mg base 5 C "judged" (spJudgedS K C Fam) [] := by
  obtain ⟨C_BadPaper, g_BadPaper, F_BadPaper⟩ := T.x_BadPaper.ex
  have M_shown := ok_shownS T A I3 KS
  refine met_of KS.cl KS.m_judged sc_Claim_judged (fun vs H Q E h => ?_) (fun f cdv A' outer s H vs Q E hr h => ?_)
  · obtain ⟨S, p, dx, place, x, tv, ta, n, m, Y, head, v, paper, r, _, rfl, _⟩ := h
    rfl
  obtain ⟨S, p, dx, place, x, tv, ta, n, m, Y, head, v, paper, r, hF, rfl, hp, hx, htv, hws, hta, hn, hh, hY, hYd, hpap, hok, q⟩ := h
  refine ⟨_, (pss_one (ps_try_onlyE (pss_one (ps_ret (pv 5))) rfl rfl ⟨rfl, by decide, .inl g_BadPaper⟩ takes0 (fun W pn xe tk po => (pss_one (ps_set (i := 5) sc_Claim_judged.nd rfl (Or.inl rfl) (pe_mtx M_shown tk hr (by omega) (pv 0) (pa_cons (pv 1) (pa_cons (pv 2) (pa_cons (pv 3) (pa_cons (pv 4) pa_nil)))))))) (fun a oe cls d pn hz hf => (pss_when (P := cls = .ref C_BadPaper ∧ d = none) fun hsu => (pss_one (ps_ret pe_bl)))))), ?_⟩
  refine ⟨_, rfl, p, dx, _, rfl, hp, (stF_no _ _ _).2, _, rfl, _, rfl, _, rfl, _, rfl, S, p, dx, place, x, tv, ta, n, m, Y, head, v, paper, r, hF, rfl, hp, hx, htv, hws, hta, hn, hh, hY, hYd, hpap, hok, fun H' e ok => ⟨_, rfl, q H' e ok⟩, fun hj D H' hD e ok => ?_⟩
  rw [g_BadPaper] at hD
  cases hD
  refine ⟨true, F_BadPaper.eP, fun _ p2 hp2 => ⟨⟨rfl, rfl⟩, ?_⟩, fun z => nomatch z⟩
  have := q H' e ok
  rw [hj] at this
  exact this
end

/-! ### a claim of a growth -/
def emptyT : Tm := .sl "book" (.int 0) nonT
def judgeG (old : Int) (n : Nat) (said ht : Tm) (paper : Option (List Tm)) : Bool :=
  if old = 0 then decide (said = emptyT ∧ paper = some [] ∧ (0 < n ∨ ht = emptyT)) else
    match paper with
    | none => false
    | some ps => decide (0 < old ∧ old ≤ (n : Int) ∧ ps.length = glen old.toNat n ∧ Tm.sl "book" (.int old) (regT old.toNat n ps).1 = said ∧ Tm.sl "book" (.int (n : Int)) (regT old.toNat n ps).2 = ht)
def BkT (t : Tm) : Prop := ∃ m Y, t = .sl "book" (.int m) Y ∧ WS Y ∧ Y.dep ≤ 40
theorem BkT.cmp {a b : Tm} (h : BkT a) (h' : BkT b) : cmpT a b := by
  obtain ⟨m, Y, rfl, hY, _⟩ := h
  obtain ⟨m', Y', rfl, hY', _⟩ := h'
  exact .inr ⟨True.intro, hY.cmp hY'⟩
theorem BkT.dep {a : Tm} (h : BkT a) : a.dep ≤ 60 := by
  obtain ⟨m, Y, rfl, _, hd⟩ := h
  show max 0 Y.dep + 1 ≤ 60
  omega
theorem empty_bk : BkT emptyT := ⟨0, nonT, rfl, .non, by decide⟩
theorem bk_apart {K : PySem.W.Frag} {S : Sys} (I : S.Inj K) {H : Hp} {r : Nat} (ok : S.ok H r) {v v' : V} {t t' : Tm} (h : S.den H v t) (h' : S.den H v' t') (b : BkT t) (b' : BkT t') :
    ∃ d d', Dp K H v d ∧ Dp K H v' d' ∧ SeqAt.shaped d = true ∧ SeqAt.shaped d' = true ∧ PyData.eqv d d' = decide (t = t') := by
  obtain ⟨d, d', e1, e2, e3, e4, e5, e6, e7⟩ := I.inj ok h h' (b.cmp b')
  have := b.dep
  have := b'.dep
  exact ⟨d, d', e1, e2, shaped_of e3 (by omega), shaped_of e4 (by omega), e7⟩
def grF (old : Int) (bv : V) : List (Str × V) := [("old", .int old), ("before", bv)]
theorem grF_old (old : Int) (bv : V) : (grF old bv).lookup ("old" : Str) = some (.int old) := by kernel_rfl
theorem grF_before (old : Int) (bv : V) : (grF old bv).lookup ("before" : Str) = some bv := by kernel_rfl
theorem grF_no (old : Int) (bv : V) : (grF old bv).lookup ("judged" : Str) = none ∧ (grF old bv).lookup ("shown" : Str) = none := ⟨by kernel_rfl, by kernel_rfl⟩
theorem grF_mk (old : Int) (bv : V) : putF "before" bv (putF "old" (.int old) []) = grF old bv := by kernel_rfl
section
variable {P : Program} {w : World} {K : PySem.W.Frag} {mg : Str → Option Value} {base : Heap} {Fam : Sys → Prop} {C : Addr}
def spGrInit (C : Addr) : Sp := fun vs H Q _ => ∃ (p dx : Addr) (old : Int) (bv : V), vs = [.ref p, .int old, bv] ∧ H p = some (.ins C dx []) ∧ ∀ H', ExtO p H H' → Kp H H' → H' p = some (.ins C dx (grF old bv)) → Q .non H'
theorem ok_grinit (KS : K_Grows K mg C) : Mak P w K mg base 1 "Grows" C (spGrInit C) [] := by
  refine mak_of KS.mgC KS.made sc_Grows___init__ (fun vs H Q E h => ?_) (fun f cdv A' outer s H vs Q E hr h => ?_)
  · obtain ⟨p, dx, old, bv, rfl, _⟩ := h
    rfl
  obtain ⟨p, dx, old, bv, rfl, hp, q⟩ := h
  refine ⟨_, (pss_cons (ps_fld (pv 0) (pv 1) rfl)
  (pss_one (ps_fld (pv 0) (pv 2) rfl))), ?_⟩
  refine ⟨_, rfl, _, rfl, p, C, dx, _, rfl, hp, KS.cl, KS.n_old, by show 0 < 1000; decide, ?_⟩
  refine ⟨_, rfl, _, rfl, p, C, dx, _, rfl, upd_same, KS.cl, KS.n_before, by show 1 < 1000; decide, ?_⟩
  refine q _ ((ExtO.put hp).trans (ExtO.put upd_same)) ((Kp.ins hp).trans (Kp.ins upd_same)) ?_
  rw [upd_same, grF_mk]
def spShownG (K : PySem.W.Frag) (mg : Str → Option Value) (C : Addr) (Fam : Sys → Prop) : Sp := fun vs H Q E => ∃ (S : Sys) (p dx : Addr) (old : Int) (bv : V) (said : Tm) (n : Nat) (ht : Tm) (head v : V) (paper : Option (List Tm)) (r : Nat), Fam S ∧ vs = [.ref p, .ref S.f, .int (n : Int), head, v] ∧ H p = some (.ins C dx (grF old bv)) ∧ S.den H bv said ∧ BkT said ∧ n ≤ 1000 ∧
  S.den H head ht ∧ BkT ht ∧ Pap K S H v paper ∧ S.ok H (r + 60) ∧
  (∀ H', Ext H H' → S.ok H' r → Q (.bl (judgeG old n said ht paper)) H') ∧
  (judgeG old n said ht paper = false → ∀ D H', mg "BadPaper" = some (.ref D) → Ext H H' → S.ok H' r → E (.ref D) none H')
theorem ok_shownG {cc : Addr} (T : Txt K mg cc) (A : SlA P w K mg base Fam) (I3 : ∀ {S}, Fam S → S.Inj K) (KS : K_Grows K mg C) : MetR P w K mg base 4 C "shown" (spShownG K mg C Fam) := by
  have Z := T.Z
  have C_none_seal := ok_none_seal T A
  have C_book_seal := ok_book_seal T A
  have C_regrown := ok_regrown T A (ok_last T) (ok_split T) (ok_pair_seal T A)
  refine metR_of KS.cl KS.m_shown sc_Grows_shown (fun vs H Q E h => ?_) (fun f cdv A' outer s H vs Q E hr h => ?_)
  · obtain ⟨S, p, dx, old, bv, said, n, ht, head, v, paper, r, _, rfl, _⟩ := h
    rfl
  obtain ⟨S, p, dx, old, bv, said, n, ht, head, v, paper, r, hF, rfl, hp, hbv, hsaid, hn, hhead, hht, hpap, hok, q1, q2⟩ := h
  have G := A.good hF
  refine ⟨_, (pss_cons (ps_if (pt_cmpR op_eq (pe_fld (pv 0) rfl) pe_int (nomark _)) (pss_cons (ps_set (i := 5) sc_Grows_shown.nd rfl (Or.inl rfl) (pe_c C_book_seal hr (by omega) rfl (pa_cons (pv 1) (pa_cons pe_int (pa_cons (pe_c C_none_seal hr (by omega) rfl (pa_cons (pv 1) pa_nil)) pa_nil)))))
  (pss_one (ps_ret (pe_and (pe_cmpR (op_eqD hr.units) (pe_fld (pv 0) rfl) (pv 5) (nomark _)) (pe_and (pe_cmpR (op_eqD hr.units) (pv 4) (pe_lst pa_nil) (nomark _)) (pe_one (pe_or (pe_cmpR op_gt (pv 2) pe_int (nomark _)) (pe_one (pe_and (pe_cmpR op_eq (pv 2) pe_int (nomark _)) (pe_one (pe_cmpR (op_eqD hr.units) (pv 3) (pv 5) (nomark _)))))))))))) pss_nil)
  (pss_cons (ps_if (pt_not (pt_chain op_lt op_le pe_int (pe_fld (pv 0) rfl) (pv 2))) (pss_one (ps_ret pe_bl)) pss_nil)
  (pss_cons (ps_set (i := 6) sc_Grows_shown.nd rfl (Or.inl rfl) (pe_cx C_regrown (takes_of rfl rfl rfl rfl) hr (by omega) rfl (pa_cons (pv 1) (pa_cons (pe_fld (pv 0) rfl) (pa_cons (pv 2) (pa_cons (pv 4) pa_nil))))))
  (pss_one (ps_ret (pe_and (pe_cmpR (op_eqD hr.units) (pe_c C_book_seal hr (by omega) rfl (pa_cons (pv 1) (pa_cons (pe_fld (pv 0) rfl) (pa_cons (pe_ix ix_tup (pv 6) pe_int (fun _ _ => rfl)) pa_nil)))) (pe_fld (pv 0) rfl) (nomark _)) (pe_one (pe_cmpR (op_eqD hr.units) (pe_c C_book_seal hr (by omega) rfl (pa_cons (pv 1) (pa_cons (pv 2) (pa_cons (pe_ix ix_tup (pv 6) pe_int (fun _ _ => rfl)) pa_nil)))) (pv 3) (nomark _))))))))), ?_⟩
  refine ⟨_, rfl, p, C, dx, _, _, rfl, hp, KS.cl, KS.n_old, grF_old _ _, rfl, _, rfl, ite2 (fun c => ?_) (fun c => ?_)⟩
  · have c' : old = 0 := V.int.inj (of_decide_eq_true c)
    subst c'
    have ej : judgeG 0 n said ht paper = decide (said = emptyT ∧ paper = some [] ∧ (0 < n ∨ ht = emptyT)) := by
      unfold judgeG
      rw [if_pos rfl]
    rw [ej] at q1
    refine ⟨_, rfl, _, rfl, S, r + 59, hF, rfl, hok, fun v0 H1 x1 ok1 d1 => ?_⟩
    refine ⟨S, .int 0, v0, .int 0, nonT, r + 58, hF, rfl, ok1, G.int _ ok1, d1, fun ve H2 x2' ok2 de => ?_⟩
    have x2 := x1.trans x2'
    obtain ⟨d, d', a1, a2, a3, a4, a5⟩ := bk_apart (I3 hF) ok2 (G.mono x2.gr hbv) de hsaid empty_bk
    refine ⟨_, rfl, p, C, dx, _, _, rfl, x2.ins hp, KS.cl, KS.n_before, grF_before _ _, _, rfl, d, d', a1, a2, a3, a4, _, rfl, ?_⟩
    rw [a5]
    refine ite2 (fun b1 => ?_) (fun b1 => ?_)
    · have b1' : said = emptyT := of_decide_eq_true b1
      refine ⟨_, rfl, by show 0 ≤ sizeLine; decide, fun q3 nq3 => ?_⟩
      have u3 := Ext.new (o := .lst []) nq3
      have x3 := x2.trans u3
      have ok3 := G.keep (Kp.new (o := .lst []) nq3) ok2
      have hq3 : upd H2 q3 (.lst []) q3 = some (.lst []) := upd_same
      generalize upd H2 q3 (.lst []) = H3 at u3 x3 ok3 hq3 ⊢
      have hpp : ∃ d e, Dp K H3 v d ∧ Dp K H3 (.ref q3) e ∧ SeqAt.shaped d = true ∧ SeqAt.shaped e = true ∧ PyData.eqv d e = decide (paper = some []) := by
        cases paper with
        | none =>
          obtain ⟨d, h1, h2, h3⟩ := (hpap H3 x3).ne
          exact ⟨d, .list [], h1, .lst (SqL.of hq3) .nil, h2, by decide +kernel, by rw [h3]; rfl⟩
        | some ps =>
          obtain ⟨a, ys, rfl, ha, hd, hl, hps⟩ := hpap
          obtain ⟨d, e, b1, b2, b3, b4, b5⟩ := (hd.mono G x3.gr).odd (K := K) G (a := a) (p := q3) (SqL.of (x3.lst ha)) (SqL.of hq3) fun t ht => Nat.le_trans (hps t ht).2 (by decide)
          refine ⟨d, e, b1, b2, b3, b4, ?_⟩
          rw [b5]
          exact decide_eq_decide.mpr ⟨fun h => by rw [List.eq_nil_of_length_eq_zero h], fun h => by rw [Option.some.inj h]; rfl⟩
      obtain ⟨d3, e3, g1, g2, g3, g4, g5⟩ := hpp
      refine ⟨d3, e3, g1, g2, g3, g4, _, rfl, ?_⟩
      rw [g5]
      refine ite2 (fun b2 => ?_) (fun b2 => ?_)
      · have b2' : paper = some [] := of_decide_eq_true b2
        refine ⟨_, rfl, _, 0, rfl, rfl, _, rfl, ite2 (fun b3 => ?_) (fun b3 => ?_)⟩
        · have b3' : (0 : Int) < (n : Int) := of_decide_eq_true b3
          have := q1 H3 x3 (G.less ok3 (by omega))
          rw [decide_eq_true (show said = emptyT ∧ paper = some [] ∧ (0 < n ∨ ht = emptyT) from ⟨b1', b2', .inl (by omega)⟩)] at this
          exact this
        · have b3' : ¬ (0 : Int) < (n : Int) := of_decide_eq_false (Bool.eq_false_iff.mpr b3)
          have n0 : n = 0 := by omega
          refine ⟨_, rfl, rfl, _, rfl, ?_⟩
          rw [decide_eq_true (show V.int (n : Int) = V.int 0 by rw [n0]; rfl)]
          refine iteT ?_
          obtain ⟨d4, e4, h1, h2, h3, h4, h5⟩ := bk_apart (I3 hF) ok3 (G.mono x3.gr hhead) (G.mono u3.gr de) hht empty_bk
          refine ⟨_, rfl, _, rfl, d4, e4, h1, h2, h3, h4, ?_⟩
          rw [h5]
          have := q1 H3 x3 (G.less ok3 (by omega))
          rw [show decide (said = emptyT ∧ paper = some [] ∧ (0 < n ∨ ht = emptyT)) = decide (ht = emptyT) from decide_eq_decide.mpr ⟨fun h => h.2.2.resolve_left (by omega), fun h => ⟨b1', b2', .inr h⟩⟩] at this
          exact this
      · have b2' : ¬ paper = some [] := of_decide_eq_false (Bool.eq_false_iff.mpr b2)
        have := q1 H3 x3 (G.less ok3 (by omega))
        rw [decide_eq_false (show ¬ (said = emptyT ∧ paper = some [] ∧ (0 < n ∨ ht = emptyT)) from fun h => b2' h.2.1)] at this
        exact this
    · have b1' : ¬ said = emptyT := of_decide_eq_false (Bool.eq_false_iff.mpr b1)
      have := q1 H2 x2 (G.less ok2 (by omega))
      rw [decide_eq_false (show ¬ (said = emptyT ∧ paper = some [] ∧ (0 < n ∨ ht = emptyT)) from fun h => b1' h.1)] at this
      exact this
  · have c' : ¬ old = 0 := fun z => c (decide_eq_true (by rw [z]))
    have bad : ¬ (0 < old ∧ old ≤ (n : Int)) → judgeG old n said ht paper = false := fun z => by
      unfold judgeG
      rw [if_neg c']
      cases paper with
      | none => rfl
      | some ps => exact decide_eq_false fun h => z ⟨h.1, h.2.1⟩
    refine ⟨_, rfl, p, C, dx, _, _, rfl, hp, KS.cl, KS.n_old, grF_old _ _, _, _, rfl, rfl, _, rfl, ite2 (fun c1 => ?_) (fun c1 => ?_)⟩
    · have c1' : (0 : Int) < old := of_decide_eq_true c1
      refine ⟨_, rfl, _, _, rfl, rfl, _, rfl, ?_⟩
      by_cases c2 : old ≤ (n : Int)
      · rw [decide_eq_true c2]
        refine iteF ?_
        obtain ⟨o, rfl⟩ := Int.eq_ofNat_of_zero_le (show 0 ≤ old by omega)
        have gl := glen_le 10 o n (by show n ≤ 1024; omega)
        refine ⟨_, rfl, _, rfl, p, C, dx, _, _, rfl, hp, KS.cl, KS.n_old, grF_old _ _, _, rfl, _, rfl, S, o, n, v, r + 30, hF, rfl, by omega, by omega, hn, G.less hok (by omega), ?_⟩
        cases paper with
        | none => exact .inr ⟨(hpap H (Ext.refl _)).ty, fun D H' hD e ok => q2 (by unfold judgeG; rw [if_neg c']) D H' hD e (G.less ok (by omega))⟩
        | some ps =>
          obtain ⟨a, ys, rfl, ha, hd, hl, hps⟩ := hpap
          have ej : judgeG ((o : Nat) : Int) n said ht (some ps) = decide (0 < ((o : Nat) : Int) ∧ ((o : Nat) : Int) ≤ (n : Int) ∧ ps.length = glen o n ∧ Tm.sl "book" (.int ((o : Nat) : Int)) (regT o n ps).1 = said ∧ Tm.sl "book" (.int (n : Int)) (regT o n ps).2 = ht) := by
            unfold judgeG
            rw [if_neg c']
            rfl
          rw [ej] at q1 q2
          refine .inl ⟨a, ys, ps, rfl, ha, hd, by omega, fun hlen qb va vb H2 x2 ok2 hqb dva dvb => ?_, fun hlen D H' hD e ok => q2 (decide_eq_false fun h => hlen h.2.2.1) D H' hD e (G.less ok (by omega))⟩
          obtain ⟨w1, w2⟩ := reg_ws hlen fun t ht => (hps t ht).1
          obtain ⟨e1, e2⟩ := reg_dep (d := 20) hlen fun t ht => (hps t ht).2
          refine ⟨_, rfl, _, rfl, p, C, dx, _, _, rfl, x2.ins hp, KS.cl, KS.n_old, grF_old _ _, _, rfl, qb, _, 0, va, rfl, rfl, SqT.of hqb, rfl, S, _, va, .int ((o : Nat) : Int), _, r + 29, hF, rfl, ok2, G.int _ ok2, dva, fun u1 H3 x3 ok3 du1 => ?_⟩
          have x23 := x2.trans x3
          have bk1 : BkT (.sl "book" (.int ((o : Nat) : Int)) (regT o n ps).1) := ⟨_, _, rfl, w1, by omega⟩
          have bk2 : BkT (.sl "book" (.int (n : Int)) (regT o n ps).2) := ⟨_, _, rfl, w2, by omega⟩
          obtain ⟨d3, e3, g1, g2, g3, g4, g5⟩ := bk_apart (I3 hF) ok3 du1 (G.mono x23.gr hbv) bk1 hsaid
          refine ⟨_, rfl, p, C, dx, _, _, rfl, x23.ins hp, KS.cl, KS.n_before, grF_before _ _, d3, e3, g1, g2, g3, g4, _, rfl, ?_⟩
          rw [g5]
          refine ite2 (fun b1 => ?_) (fun b1 => ?_)
          · have b1' := of_decide_eq_true b1
            refine ⟨_, rfl, _, rfl, _, rfl, qb, _, 1, vb, rfl, rfl, SqT.of (x3.tup hqb), rfl, S, _, vb, .int (n : Int), _, r + 28, hF, rfl, ok3, G.int _ ok3, G.mono x3.gr dvb, fun u2 H4 x4 ok4 du2 => ?_⟩
            have x24 := x23.trans x4
            obtain ⟨d4, e4, h1, h2, h3, h4, h5⟩ := bk_apart (I3 hF) ok4 du2 (G.mono x24.gr hhead) bk2 hht
            refine ⟨_, rfl, d4, e4, h1, h2, h3, h4, ?_⟩
            rw [h5]
            have := q1 H4 x24 (G.less ok4 (by omega))
            rw [show decide (0 < ((o : Nat) : Int) ∧ ((o : Nat) : Int) ≤ (n : Int) ∧ ps.length = glen o n ∧ Tm.sl "book" (.int ((o : Nat) : Int)) (regT o n ps).1 = said ∧ Tm.sl "book" (.int (n : Int)) (regT o n ps).2 = ht) = decide (Tm.sl "book" (.int (n : Int)) (regT o n ps).2 = ht) from decide_eq_decide.mpr ⟨fun h => h.2.2.2.2, fun h => ⟨c1', c2, hlen, b1', h⟩⟩] at this
            exact this
          · have b1' := of_decide_eq_false (Bool.eq_false_iff.mpr b1)
            have := q1 H3 x23 (G.less ok3 (by omega))
            rw [decide_eq_false (show ¬ (0 < ((o : Nat) : Int) ∧ ((o : Nat) : Int) ≤ (n : Int) ∧ ps.length = glen o n ∧ Tm.sl "book" (.int ((o : Nat) : Int)) (regT o n ps).1 = said ∧ Tm.sl "book" (.int (n : Int)) (regT o n ps).2 = ht) from fun h => b1' h.2.2.2.1)] at this
            exact this
      · rw [decide_eq_false c2]
        refine iteT ?_
        have := q1 H (Ext.refl _) (G.less hok (by omega))
        rw [bad fun z => c2 z.2] at this
        exact this
    · have c1' : ¬ (0 : Int) < old := of_decide_eq_false (Bool.eq_false_iff.mpr c1)
      refine ⟨_, rfl, iteT ?_⟩
      have := q1 H (Ext.refl _) (G.less hok (by omega))
      rw [bad fun z => c1' z.1] at this
      exact this
def spJudgedG (K : PySem.W.Frag) (C : Addr) (Fam : Sys → Prop) : Sp := fun vs H Q _ => ∃ (S : Sys) (p dx : Addr) (old : Int) (bv : V) (said : Tm) (n : Nat) (ht : Tm) (head v : V) (paper : Option (List Tm)) (r : Nat), Fam S ∧ vs = [.ref p, .ref S.f, .int (n : Int), head, v] ∧ H p = some (.ins C dx (grF old bv)) ∧ S.den H bv said ∧ BkT said ∧ n ≤ 1000 ∧
  S.den H head ht ∧ BkT ht ∧ Pap K S H v paper ∧ S.ok H (r + 60) ∧ (∀ H', Ext H H' → S.ok H' r → Q (.bl (judgeG old n said ht paper)) H')
theorem ok_judgedG {cc : Addr} (T : Txt K mg cc) (A : SlA P w K mg base Fam) (I3 : ∀ {S}, Fam S → S.Inj K) (KS : K_Grows K mg C) : Met P w K mg base 5 C "judged" (spJudgedG K C Fam) [] := by
  obtain ⟨C_BadPaper, g_BadPaper, F_BadPaper⟩ := T.x_BadPaper.ex
  have M_shown := ok_shownG T A I3 KS
  refine met_of KS.cl KS.m_judged sc_Claim_judged (fun vs H Q E h => ?_) (fun f cdv A' outer s H vs Q E hr h => ?_)
  · obtain ⟨S, p, dx, old, bv, said, n, ht, head, v, paper, r, _, rfl, _⟩ := h
    rfl
  obtain ⟨S, p, dx, old, bv, said, n, ht, head, v, paper, r, hF, rfl, hp, hbv, hsaid, hn, hhead, hht, hpap, hok, q⟩ := h
  refine ⟨_, (pss_one (ps_try_onlyE (pss_one (ps_ret (pv 5))) rfl rfl ⟨rfl, by decide, .inl g_BadPaper⟩ takes0 (fun W pn xe tk po => (pss_one (ps_set (i := 5) sc_Claim_judged.nd rfl (Or.inl rfl) (pe_mtx M_shown tk hr (by omega) (pv 0) (pa_cons (pv 1) (pa_cons (pv 2) (pa_cons (pv 3) (pa_cons (pv 4) pa_nil)))))))) (fun a oe cls d pn hz hf => (pss_when (P := cls = .ref C_BadPaper ∧ d = none) fun hsu => (pss_one (ps_ret pe_bl)))))), ?_⟩
  refine ⟨_, rfl, p, dx, _, rfl, hp, (grF_no _ _).2, _, rfl, _, rfl, _, rfl, _, rfl, S, p, dx, old, bv, said, n, ht, head, v, paper, r, hF, rfl, hp, hbv, hsaid, hn, hhead, hht, hpap, hok, fun H' e ok => ⟨_, rfl, q H' e ok⟩, fun hj D H' hD e ok => ?_⟩
  rw [g_BadPaper] at hD
  cases hD
  refine ⟨true, F_BadPaper.eP, fun _ p2 hp2 => ⟨⟨rfl, rfl⟩, ?_⟩, fun z => nomatch z⟩
  have := q H' e ok
  rw [hj] at this
  exact this
end

/-! ### a follower -/
def fwF (f : Addr) (n : Int) (hv : V) : List (Str × V) := [("seal", .ref f), ("count", .int n), ("newest", hv)]
theorem fwF_seal (f : Addr) (n : Int) (hv : V) : (fwF f n hv).lookup ("seal" : Str) = some (.ref f) := by kernel_rfl
theorem fwF_count (f : Addr) (n : Int) (hv : V) : (fwF f n hv).lookup ("count" : Str) = some (.int n) := by kernel_rfl
theorem fwF_newest (f : Addr) (n : Int) (hv : V) : (fwF f n hv).lookup ("newest" : Str) = some hv := by kernel_rfl
theorem fwF_no (f : Addr) (n : Int) (hv : V) : (fwF f n hv).lookup ("take" : Str) = none ∧ (fwF f n hv).lookup ("judge" : Str) = none ∧ (fwF f n hv).lookup ("size" : Str) = none ∧ (fwF f n hv).lookup ("head" : Str) = none := ⟨by kernel_rfl, by kernel_rfl, by kernel_rfl, by kernel_rfl⟩
theorem fwF_mk (f : Addr) (n : Int) (hv : V) : putF "newest" hv (putF "count" (.int n) (putF "seal" (.ref f) [])) = fwF f n hv := by kernel_rfl
theorem fwF_pc (f : Addr) (n m : Int) (hv : V) : putF "count" (.int m) (fwF f n hv) = fwF f m hv := by kernel_rfl
theorem fwF_pn (f : Addr) (n : Int) (hv w : V) : putF "newest" w (fwF f n hv) = fwF f n w := by kernel_rfl
section
variable {P : Program} {w : World} {K : PySem.W.Frag} {mg : Str → Option Value} {base : Heap} {Fam : Sys → Prop} {C CG : Addr}
def spFwInit (C : Addr) (Fam : Sys → Prop) : Sp := fun vs H Q _ => ∃ (S : Sys) (p dx : Addr) (r : Nat), Fam S ∧ vs = [.ref p, .ref S.f] ∧ H p = some (.ins C dx []) ∧ S.ok H (r + 2) ∧ ∀ H' hv, ExtO p H H' → S.ok H' r → H' p = some (.ins C dx (fwF S.f 0 hv)) → S.den H' hv emptyT → Q .non H'
theorem ok_fwinit {cc : Addr} (T : Txt K mg cc) (A : SlA P w K mg base Fam) (KF : K_Follower K mg C) : Mak P w K mg base 3 "Follower" C (spFwInit C Fam) [] := by
  have C_none_seal := ok_none_seal T A
  have C_book_seal := ok_book_seal T A
  refine mak_of KF.mgC KF.made sc_Follower___init__ (fun vs H Q E h => ?_) (fun f cdv A' outer s H vs Q E hr h => ?_)
  · obtain ⟨S, p, dx, r, _, rfl, _⟩ := h
    rfl
  obtain ⟨S, p, dx, r, hF, rfl, hp, hok, q⟩ := h
  have G := A.good hF
  refine ⟨_, (pss_cons (ps_fld (pv 0) (pv 1) rfl)
  (pss_cons (ps_fld (pv 0) pe_int rfl)
  (pss_one (ps_fld (pv 0) (pe_c C_book_seal hr (by omega) rfl (pa_cons (pv 1) (pa_cons pe_int (pa_cons (pe_c C_none_seal hr (by omega) rfl (pa_cons (pv 1) pa_nil)) pa_nil)))) rfl)))), ?_⟩
  refine ⟨_, rfl, _, rfl, p, C, dx, _, rfl, hp, KF.cl, KF.n_seal, by show 0 < 1000; decide, ?_⟩
  have x1 := ExtO.put (o := .ins C dx (putF "seal" (.ref S.f) [])) hp
  have k1 := Kp.ins (o := .ins C dx (putF "seal" (.ref S.f) [])) hp
  have h1 : upd H p (.ins C dx (putF "seal" (.ref S.f) [])) p = some (.ins C dx (putF "seal" (.ref S.f) [])) := upd_same
  generalize upd H p (.ins C dx (putF "seal" (.ref S.f) [])) = H1 at x1 k1 h1 ⊢
  refine ⟨_, rfl, p, C, dx, _, rfl, h1, KF.cl, KF.n_count, by show 1 < 1000; decide, ?_⟩
  have x2 := x1.trans (ExtO.put (o := .ins C dx (putF "count" (.int 0) (putF "seal" (.ref S.f) []))) h1)
  have k2 := k1.trans (Kp.ins (o := .ins C dx (putF "count" (.int 0) (putF "seal" (.ref S.f) []))) h1)
  have h2 : upd H1 p (.ins C dx (putF "count" (.int 0) (putF "seal" (.ref S.f) []))) p = some (.ins C dx (putF "count" (.int 0) (putF "seal" (.ref S.f) []))) := upd_same
  generalize upd H1 p (.ins C dx (putF "count" (.int 0) (putF "seal" (.ref S.f) []))) = H2 at x2 k2 h2 ⊢
  have ok2 := G.keep k2 hok
  refine ⟨_, rfl, _, rfl, S, r + 1, hF, rfl, ok2, fun v0 H3 x3 ok3 d3 => ?_⟩
  refine ⟨S, .int 0, v0, .int 0, nonT, r, hF, rfl, ok3, G.int _ ok3, d3, fun ve H4 x4 ok4 d4 => ?_⟩
  have h4 := (x3.trans x4).ins h2
  refine ⟨_, rfl, p, C, dx, _, rfl, h4, KF.cl, KF.n_newest, by show 2 < 1000; decide, ?_⟩
  have k5 := Kp.ins (o := .ins C dx (putF "newest" ve (putF "count" (.int 0) (putF "seal" (.ref S.f) [])))) h4
  refine q _ ve ((x2.trans (x3.trans x4).o).trans (ExtO.put h4)) (G.keep k5 ok4) ?_ (G.mono k5.gr d4)
  rw [upd_same, fwF_mk]
def takeB (cnt n : Nat) (t0 ht : Tm) (paper : Option (List Tm)) : Bool := decide (cnt ≤ n) && judgeG (cnt : Int) n t0 ht paper
def spFwTake (K : PySem.W.Frag) (C : Addr) (Fam : Sys → Prop) : Sp := fun vs H Q _ => ∃ (S : Sys) (p dx : Addr) (cnt : Nat) (hv : V) (t0 : Tm) (n : Nat) (head : V) (ht : Tm) (v : V) (paper : Option (List Tm)) (r : Nat), Fam S ∧ vs = [.ref p, .int (n : Int), head, v] ∧ H p = some (.ins C dx (fwF S.f (cnt : Int) hv)) ∧ S.den H hv t0 ∧ BkT t0 ∧ n ≤ 1000 ∧
  S.den H head ht ∧ BkT ht ∧ Pap K S H v paper ∧ S.ok H (r + 60) ∧ ∀ H', ExtO p H H' → S.ok H' r → H' p = some (.ins C dx (if takeB cnt n t0 ht paper = true then fwF S.f (n : Int) head else fwF S.f (cnt : Int) hv)) → Q (.bl (takeB cnt n t0 ht paper)) H'
theorem ok_fwtake {cc : Addr} (T : Txt K mg cc) (A : SlA P w K mg base Fam) (I3 : ∀ {S}, Fam S → S.Inj K) (KF : K_Follower K mg C) (KG : K_Grows K mg CG) : Met P w K mg base 6 C "take" (spFwTake K C Fam) [] := by
  have C_Grows := ok_grinit (P := P) (w := w) (base := base) KG
  have M_judged := ok_judgedG T A I3 KG
  refine met_of KF.cl KF.m_take sc_Follower_take (fun vs H Q E h => ?_) (fun f cdv A' outer s H vs Q E hr h => ?_)
  · obtain ⟨S, p, dx, cnt, hv, t0, n, head, ht, v, paper, r, _, rfl, _⟩ := h
    rfl
  obtain ⟨S, p, dx, cnt, hv, t0, n, head, ht, v, paper, r, hF, rfl, hp, hhv, ht0, hn, hhead, hht, hpap, hok, q⟩ := h
  have G := A.good hF
  refine ⟨_, (pss_cons (ps_set (i := 4) sc_Follower_take.nd rfl (Or.inl rfl) (pe_mk C_Grows hr (by omega) rfl (pa_cons (pe_fld (pv 0) rfl) (pa_cons (pe_fld (pv 0) rfl) pa_nil))))
  (pss_cons (ps_if (PW.pt (pw_or (pt_cmpR op_lt (pv 1) (pe_fld (pv 0) rfl) (nomark _)) (pw_or1 (pt_not (pt_val (pe_mt M_judged hr (by omega) (pv 4) (pa_cons (pe_fld (pv 0) rfl) (pa_cons (pv 1) (pa_cons (pv 2) (pa_cons (pv 3) pa_nil)))))))))) (pss_one (ps_ret pe_bl)) pss_nil)
  (pss_cons (ps_fld (pv 0) (pv 1) rfl)
  (pss_cons (ps_fld (pv 0) (pv 2) rfl)
  (pss_one (ps_ret pe_bl)))))), ?_⟩
  refine ⟨_, rfl, p, C, dx, _, _, rfl, hp, KF.cl, KF.n_count, fwF_count _ _ _, _, rfl, p, C, dx, _, _, rfl, hp, KF.cl, KF.n_newest, fwF_newest _ _ _, fun gp gdx ngp ngdx nex => ?_⟩
  have y1 : Ext H (upd (upd H gdx (.own gp)) gp (.ins CG gdx [])) := (Ext.new ngdx).trans (Ext.new (by rw [upd_ne nex.symm]; exact ngp))
  have ky1 : Kp H (upd (upd H gdx (.own gp)) gp (.ins CG gdx [])) := (Kp.new ngdx).trans (Kp.new (show upd H gdx (.own gp) gp = none by rw [upd_ne nex.symm]; exact ngp))
  refine ⟨gp, gdx, (cnt : Int), hv, rfl, upd_same, fun H1 xo kp hg => ⟨rfl, ?_⟩⟩
  have x1 := xo.ext y1 ngp
  have ok1 := G.keep (ky1.trans kp) hok
  have hp1 := x1.ins hp
  refine ⟨_, rfl, _, rfl, p, C, dx, _, _, rfl, hp1, KF.cl, KF.n_count, fwF_count _ _ _, _, _, rfl, rfl, _, rfl, ite2 (fun c => ?_) (fun c => ?_)⟩
  · have c' : (n : Int) < (cnt : Int) := of_decide_eq_true c
    have tb : takeB cnt n t0 ht paper = false := by
      unfold takeB
      rw [decide_eq_false (show ¬ cnt ≤ n by omega)]
      rfl
    refine iteT ?_
    have := q H1 x1.o (G.less ok1 (by omega)) (by rw [tb]; exact hp1)
    rw [tb] at this
    exact this
  · have c' : ¬ (n : Int) < (cnt : Int) := of_decide_eq_false (Bool.eq_false_iff.mpr c)
    have tb : takeB cnt n t0 ht paper = judgeG (cnt : Int) n t0 ht paper := by
      unfold takeB
      rw [decide_eq_true (show cnt ≤ n by omega)]
      rfl
    rw [tb] at q
    refine ⟨_, rfl, gp, gdx, _, rfl, hg, (grF_no _ _).1, _, rfl, p, C, dx, _, _, rfl, hp1, KF.cl, KF.n_seal, fwF_seal _ _ _, _, rfl, _, rfl, _, rfl, S, gp, gdx, (cnt : Int), hv, t0, n, ht, head, v, paper, r, hF, rfl, hg, G.mono x1.gr hhv, ht0, hn, G.mono x1.gr hhead, hht, hpap.ext G x1, ok1, fun H2 x2 ok2 => ?_⟩
    have hp2 := x2.ins hp1
    have x12 := x1.trans x2
    refine ⟨_, rfl, ?_⟩
    cases hb : judgeG (cnt : Int) n t0 ht paper with
    | false =>
      rw [hb] at q
      refine iteT ?_
      exact q H2 x12.o ok2 hp2
    | true =>
      rw [hb] at q
      refine iteF ?_
      refine ⟨_, rfl, _, rfl, p, C, dx, _, rfl, hp2, KF.cl, KF.n_count, by show 3 < 1000; decide, ?_⟩
      rw [fwF_pc]
      have x3 := ExtO.put (o := .ins C dx (fwF S.f (n : Int) hv)) hp2
      have k3 := Kp.ins (o := .ins C dx (fwF S.f (n : Int) hv)) hp2
      refine ⟨_, rfl, _, rfl, p, C, dx, _, rfl, upd_same, KF.cl, KF.n_newest, by show 3 < 1000; decide, ?_⟩
      rw [fwF_pn]
      exact q _ ((x12.o.trans x3).trans (ExtO.put upd_same)) (G.keep (k3.trans (Kp.ins upd_same)) ok2) upd_same
def spFwJudgeS (K : PySem.W.Frag) (C CS : Addr) (Fam : Sys → Prop) : Sp := fun vs H Q _ => ∃ (S : Sys) (p dx g gdx : Addr) (n : Nat) (hv : V) (place : Int) (x : Str) (tv : V) (ta : Tm) (m : Int) (Y : Tm) (v : V) (paper : Option (List Tm)) (r : Nat), Fam S ∧ vs = [.ref p, .ref g, v] ∧ H p = some (.ins C dx (fwF S.f (n : Int) hv)) ∧
  H g = some (.ins CS gdx (stF place x tv)) ∧ txtOk x = true ∧ S.den H tv ta ∧ WS ta ∧ ta.dep ≤ 18 ∧ n ≤ 1000 ∧ S.den H hv (.sl "book" (.int m) Y) ∧ WS Y ∧ Y.dep ≤ 40 ∧ Pap K S H v paper ∧ S.ok H (r + 20) ∧
  ∀ H', Ext H H' → S.ok H' r → Q (.bl (judgeS place (.sl "leaf" (.str x) ta) n (.sl "book" (.int m) Y) paper)) H'
theorem ok_fwjudgeS {CS cc : Addr} (T : Txt K mg cc) (A : SlA P w K mg base Fam) (I3 : ∀ {S}, Fam S → S.Inj K) (KF : K_Follower K mg C) (KS : K_Stands K mg CS) : Met P w K mg base 6 C "judge" (spFwJudgeS K C CS Fam) [] := by
  have M_judged := ok_judgedS T A I3 KS
  refine met_of KF.cl KF.m_judge sc_Follower_judge (fun vs H Q E h => ?_) (fun f cdv A' outer s H vs Q E hr h => ?_)
  · obtain ⟨S, p, dx, g, gdx, n, hv, place, x, tv, ta, m, Y, v, paper, r, _, rfl, _⟩ := h
    rfl
  obtain ⟨S, p, dx, g, gdx, n, hv, place, x, tv, ta, m, Y, v, paper, r, hF, rfl, hp, hg, hx, htv, hws, hta, hn, hhv, hY, hYd, hpap, hok, q⟩ := h
  refine ⟨_, (pss_one (ps_ret (pe_mt M_judged hr (by omega) (pv 1) (pa_cons (pe_fld (pv 0) rfl) (pa_cons (pe_fld (pv 0) rfl) (pa_cons (pe_fld (pv 0) rfl) (pa_cons (pv 2) pa_nil))))))), ?_⟩
  exact ⟨_, rfl, g, gdx, _, rfl, hg, (stF_no _ _ _).1, _, rfl, p, C, dx, _, _, rfl, hp, KF.cl, KF.n_seal, fwF_seal _ _ _, _, rfl, p, C, dx, _, _, rfl, hp, KF.cl, KF.n_count, fwF_count _ _ _, _, rfl, p, C, dx, _, _, rfl, hp, KF.cl, KF.n_newest, fwF_newest _ _ _, _, rfl, S, g, gdx, place, x, tv, ta, n, m, Y, hv, v, paper, r, hF, rfl, hg, hx, htv, hws, hta, hn, hhv, hY, hYd, hpap, hok, q⟩
def spFwSize (C : Addr) : Sp := fun vs H Q _ => ∃ (p dx f : Addr) (n : Int) (hv : V), vs = [.ref p] ∧ H p = some (.ins C dx (fwF f n hv)) ∧ Q (.int n) H
theorem ok_fwsize {cc : Addr} (T : Txt K mg cc) (KF : K_Follower K mg C) : Met P w K mg base 1 C "size" (spFwSize C) [] := by
  refine met_of KF.cl KF.m_size sc_Follower_size (fun vs H Q E h => ?_) (fun f cdv A' outer s H vs Q E hr h => ?_)
  · obtain ⟨p, dx, f, n, hv, rfl, _⟩ := h
    rfl
  obtain ⟨p, dx, f, n, hv, rfl, hp, q⟩ := h
  refine ⟨_, (pss_one (ps_ret (pe_fld (pv 0) rfl))), ?_⟩
  exact ⟨_, rfl, p, C, dx, _, _, rfl, hp, KF.cl, KF.n_count, fwF_count _ _ _, q⟩
def spFwHead (C : Addr) : Sp := fun vs H Q _ => ∃ (p dx f : Addr) (n : Int) (hv : V), vs = [.ref p] ∧ H p = some (.ins C dx (fwF f n hv)) ∧ Q hv H
theorem ok_fwhead {cc : Addr} (T : Txt K mg cc) (KF : K_Follower K mg C) : Met P w K mg base 1 C "head" (spFwHead C) [] := by
  refine met_of KF.cl KF.m_head sc_Follower_head (fun vs H Q E h => ?_) (fun f cdv A' outer s H vs Q E hr h => ?_)
  · obtain ⟨p, dx, f, n, hv, rfl, _⟩ := h
    rfl
  obtain ⟨p, dx, f, n, hv, rfl, hp, q⟩ := h
  refine ⟨_, (pss_one (ps_ret (pe_fld (pv 0) rfl))), ?_⟩
  exact ⟨_, rfl, p, C, dx, _, _, rfl, hp, KF.cl, KF.n_newest, fwF_newest _ _ _, q⟩
end

/-! ### when a follower is to take a head -/
theorem topT_inj : ∀ (us ws : List Tm), us.length = ws.length → us ≠ [] → topT us = topT ws → us = ws
  | us, ws, hl, hne, h => by
    by_cases h2 : us.length < 2
    · match us, ws, hl, h2, hne with
      | [], _, _, _, hne => exact absurd rfl hne
      | [a], [b], _, _, _ => rw [topT_one, topT_one] at h; rw [h]
      | [a], [], hl, _, _ => exact absurd hl (by simp)
      | [a], _ :: _ :: _, hl, _, _ => exact absurd hl (by simp)
      | a :: b :: r, _, _, h2, _ => exact absurd h2 (by simp)
    · have hs := splitN_lt (n := us.length) (by omega)
      have hs0 := splitN_pos us.length
      rw [topT_more (by omega), topT_more (ts := ws) (by omega), ← hl] at h
      obtain ⟨h1, h3⟩ := pairT_inj h
      have e1 := topT_inj (us.take (splitN us.length)) (ws.take (splitN us.length)) (by rw [List.length_take, List.length_take, hl]) (fun z => by have := congrArg List.length z; rw [List.length_take, List.length_nil] at this; omega) h1
      have e2 := topT_inj (us.drop (splitN us.length)) (ws.drop (splitN us.length)) (by rw [List.length_drop, List.length_drop, hl]) (fun z => by have := congrArg List.length z; rw [List.length_drop, List.length_nil] at this; omega) h3
      rw [← List.take_append_drop (splitN us.length) us, ← List.take_append_drop (splitN us.length) ws, e1, e2]
termination_by us => us.length
decreasing_by
  · rw [List.length_take]; omega
  · rw [List.length_drop]; omega
def bkT (ts : List Tm) : Tm := .sl "book" (.int (ts.length : Int)) (topT ts)
theorem take_due (us took : List Tm) (told : Nat) (paper : Option (List Tm)) (h0 : took = [] → told = us.length) :
    takeB took.length told (bkT took) (bkT us) paper = decide (told = us.length ∧ took.length ≤ us.length ∧ us.take took.length = took ∧ paper = some (growT us took.length)) := by
  unfold takeB judgeG
  by_cases ht : took = []
  · subst ht
    have e := h0 rfl
    subst e
    rw [if_pos (show (((([] : List Tm).length : Nat)) : Int) = 0 from rfl), show growT us ([] : List Tm).length = [] from growT_zero us]
    have e1 : bkT [] = emptyT := by unfold bkT emptyT; rw [topT_nil]; rfl
    rw [e1, decide_eq_true (show ([] : List Tm).length ≤ us.length from Nat.zero_le _), Bool.true_and]
    refine decide_eq_decide.mpr ⟨fun h => ⟨rfl, Nat.zero_le _, rfl, h.2.1⟩, fun h => ⟨rfl, h.2.2.2, ?_⟩⟩
    by_cases hu : us = []
    · right
      rw [hu]
      exact e1
    · left
      exact List.length_pos_iff.mpr hu
  · have hp : 0 < took.length := List.length_pos_iff.mpr ht
    rw [if_neg (show ¬ ((took.length : Nat) : Int) = 0 by omega)]
    by_cases hd : told = us.length ∧ took.length ≤ us.length ∧ us.take took.length = took ∧ paper = some (growT us took.length)
    · rw [decide_eq_true hd]
      obtain ⟨d1, d2, d3, d4⟩ := hd
      subst d1
      rw [d4, decide_eq_true d2]
      have hg := reg_grow hp d2
      refine decide_eq_true ⟨by omega, by omega, growT_glen hp d2, ?_, ?_⟩
      · rw [Int.toNat_natCast, hg, d3]
        rfl
      · rw [Int.toNat_natCast, hg]
        rfl
    · rw [decide_eq_false hd, Bool.and_eq_false_iff]
      by_cases hle : took.length ≤ told
      · right
        cases paper with
        | none => rfl
        | some ps =>
          refine decide_eq_false fun h => hd ?_
          obtain ⟨g1, g2, g3, g4, g5⟩ := h
          rw [Int.toNat_natCast] at g3 g4 g5
          have e1 : told = us.length := by
            have := (Tm.sl.inj g5).2.1
            have := Tm.int.inj this
            omega
          subst e1
          have e2 : (regT took.length us.length ps).2 = topT us := (Tm.sl.inj g5).2.2
          have e3 := reg_inj us took.length ps hp hle g3 e2
          subst e3
          have e4 : (regT took.length us.length (growT us took.length)).1 = topT took := (Tm.sl.inj g4).2.2
          rw [reg_grow hp hle] at e4
          refine ⟨rfl, hle, ?_, rfl⟩
          have hl : (us.take took.length).length = took.length := by rw [List.length_take]; omega
          exact topT_inj _ _ hl (fun z => by rw [z] at hl; simp at hl; omega) e4
      · left
        exact decide_eq_false hle

section
variable {P : Program} {w : World} {K : PySem.W.Frag} {mg : Str → Option Value} {base : Heap}
def onesL (t : List Nat) : List V := (t.map fun c => S [c]).map V.str
theorem onesL_len (t : List Nat) : (onesL t).length = t.length := by unfold onesL; rw [List.length_map, List.length_map]
theorem txt_S {t : List Nat} (h : PrL t) : txtOk (S t) = true := txt_of_tl fun c hc => by
  have := (h c hc).2
  omega
theorem dp_ones {K : PySem.W.Frag} {H : Hp} : ∀ t : List Nat, PrL t → ∃ ds, DpAll K H (onesL t) ds ∧ PyData.canLayAll0 ds = true ∧ PyData.depthAll ds = 0 ∧ PyData.eqv (.list ds) (.list []) = decide (t = [])
  | [], _ => ⟨[], .nil, rfl, rfl, rfl⟩
  | y :: ys, h => by
    obtain ⟨ds, a, b, c, _⟩ := dp_ones ys fun z hz => h z (List.mem_cons_of_mem _ hz)
    refine ⟨.str (S [y]) :: ds, .cons (.str _) a, ?_, ?_, rfl⟩
    · rw [PyData.canLayAll0, b, show (PyData.str (S [y])).canLay0 = true from txt_S fun c hc => by rw [List.mem_singleton.mp hc]; exact h y List.mem_cons_self]
      rfl
    · show max 0 (PyData.depthAll ds) = 0
      omega
theorem onesL_app (t u : List Nat) : onesL (t ++ u) = onesL t ++ onesL u := by unfold onesL; rw [List.map_append, List.map_append]
theorem onesL_sum (t : List Nat) : ((t.map fun c => S [c]).map fun x : Str => x.length).sum = t.length := by
  induction t with
  | nil => rfl
  | cons a t ih =>
    rw [List.map_cons, List.map_cons, List.sum_cons, ih, S_len]
    simp
    omega
theorem same_mut {H H' : Hp} {p : Addr} {o : HO} (e : Same H H') (h : H p = none) : Same H (upd H' p o) := fun a u ha => by
  rw [upd_ne (ne_of_none ha h)]
  exact e a u ha
def spWordS : Sp := fun vs H Q _ => ∃ (c : Int), vs = [.int c] ∧ ∀ (t : List Nat) (H' : Hp), PrL t → t.length ≤ 6 → Same H H' → Q (.str (S t)) H'
theorem ok_wordS {cc : Addr} (T : Txt K mg cc) : Cal P w K mg base 2 "_law_word" spWordS [] := by
  have Z := T.Z
  have C__law_draw := ok_draw (P := P) (w := w) (base := base) T
  refine cal_of T.d__law_word sc__law_word (fun vs H Q E h => ?_) (fun f cdv A' outer s H vs Q E hr h => ?_)
  · obtain ⟨c, rfl, _⟩ := h
    rfl
  obtain ⟨c, rfl, q⟩ := h
  have e16 : sizeLine = 16777216 := sizeLine_eq
  refine ⟨_, (pss_cons (ps_set (i := 1) sc__law_word.nd rfl (Or.inr rfl) pe_str)
  (pss_cons (ps_set (i := 2) sc__law_word.nd rfl (Or.inr rfl) (pe_callB call_len_str rfl Z.len PySem.boot_len (pa_cons (pv 1) pa_nil)))
  (pss_cons (ps_setLc (i := 3) (own := [("_law_k", 4)]) (g := gName 4) (tt := tYes) rfl sc__law_word.nd rfl rfl (sw_true rfl rfl rfl (by decide +kernel)) (pi_range1 rfl Z.range (pa_cons (pe_c C__law_draw hr (by omega) rfl (pa_cons (pv 0) (pa_cons pe_int (pa_cons pe_int pa_nil)))) pa_nil)) (blkOk_by (N := N__law_word) (sc := defScope s__law_word) (by decide +kernel)) (fun _ _ _ _ _ => (pg_name (i := 4) sc__law_word.nd rfl (Or.inl rfl))) (fun _ _ _ _ _ => pts_nil) (fun _ _ _ _ _ => (pe_ix ix_str (pv 1) (pe_c C__law_draw hr (by omega) rfl (pa_cons (pv 0) (pa_cons (pe_op op_add pe_int (pe_op op_mod (pv 4) pe_int)) (pa_cons (pv 2) pa_nil)))) (fun _ _ => rfl))))
  (Evl.pss_cut (ps_if (PW.pt (pw_and (pt_cmpR (op_neD hr.units) (pv 3) (pe_lst pa_nil) (nomark _)) (pw_and1 (pt_cmpR op_eq (pe_c C__law_draw hr (by omega) rfl (pa_cons (pv 0) (pa_cons pe_int (pa_cons pe_int pa_nil)))) pe_int (nomark _))))) (pss_cons (ps_setLc (i := 3) (own := [("_law_sign", 5)]) (g := gName 5) (tt := tYes) rfl sc__law_word.nd rfl rfl (sw_true rfl rfl rfl (by decide +kernel)) (pi_list (pv 3)) (blkOk_by (N := N__law_word) (sc := defScope s__law_word) (by decide +kernel)) (fun _ _ _ _ _ => (pg_name (i := 5) sc__law_word.nd rfl (Or.inl rfl))) (fun _ _ _ _ _ => pts_nil) (fun _ _ _ _ _ => pe_str))
  (pss_one (ps_asg (pe_ix ix_str (pv 1) (pe_c C__law_draw hr (by omega) rfl (pa_cons (pv 0) (pa_cons pe_int (pa_cons (pv 2) pa_nil)))) (fun _ _ => rfl)) (pg_sub (pv 3) (pe_c C__law_draw hr (by omega) rfl (pa_cons (pv 0) (pa_cons pe_int (pa_cons (pe_callB call_len_seq rfl Z.len PySem.boot_len (pa_cons (pv 3) pa_nil)) pa_nil)))) set_list)))) pss_nil)
  (pss_one (ps_ret (pe_join pe_str (pv 3)))))))), ?_⟩
  show tSeq _ _ _ _ _
  rw [someL_S]
  have eNo : Str.ofString "" = S [] := TL.ext_tl (by decide +kernel)
  have eA : Str.ofString "a" = S [97] := TL.ext_tl (by decide +kernel)
  have sl : (S someL).length = 94 := by rw [S_len]; exact someL_at.1
  refine ⟨_, rfl, _, rfl, by omega, ?_⟩
  refine ⟨_, rfl, c, 13, 6, rfl, by decide, by decide, by decide, fun z H1 z0 z1 s1 => ?_⟩
  refine ⟨z, rfl, by omega, by omega, fun D nD => ?_⟩
  refine lc_range (fun i H' => ∃ t : List Nat, t.length = i ∧ Same H1 H' ∧ H' D = some (.lst (onesL t)) ∧ PrL t) ⟨[], rfl, same_upd nD, upd_same, fun _ h => by cases h⟩ ?_ ?_
  · rintro i H' hi ⟨t, rfl, s2, hD, hy⟩
    refine ⟨rfl, _, rfl, _, rfl, _, rfl, _, 4, rfl, rfl, (by show (0 : Int) < 4; decide), _, _, rfl, rfl, _, rfl, c, _, _, rfl, ?_, ?_, by rw [sl]; decide, fun z' H2 z0' z1' s3 => ?_⟩
    · have := Int.emod_nonneg (0 + (t.length : Int)) (show (4 : Int) ≠ 0 by decide)
      omega
    · have := Int.emod_lt_of_pos (0 + (t.length : Int)) (show (0 : Int) < 4 by decide)
      omega
    rw [sl] at z1'
    obtain ⟨ch, hch, o1, o2⟩ := some_get z0' z1'
    refine ⟨S someL, z', ch, rfl, rfl, by omega, hch, onesL t, s3 _ _ hD, by rw [onesL_len]; omega, t ++ [ch], by simp, same_mut (s2.trans s3) nD, by rw [upd_same, onesL_app]; rfl, fun y hy' => ?_⟩
    rcases List.mem_append.mp hy' with h | h
    · exact hy y h
    · rw [List.mem_singleton.mp h]
      exact ⟨o1, o2⟩
  · rintro H2 ⟨t, htl, s2, hD, ht⟩
    have hy6 : t.length ≤ 6 := by omega
    refine ⟨fun σ H' => ∃ (D : Addr) (t : List Nat) (y4 y5 : Option V), σ = [some (.int c), some (.str (S someL)), some (.int ((S someL).length : Int)), some (.ref D), y4, y5] ∧ Same H H' ∧ H' D = some (.lst (onesL t)) ∧ t.length ≤ 6 ∧ PrL t, ?_, ?_⟩
    · refine ⟨_, rfl, by show 0 ≤ sizeLine; decide, fun p hp => ?_⟩
      have hD3 : upd H2 p (.lst []) D = some (.lst (onesL t)) := by rw [upd_ne (ne_of_none hD hp)]; exact hD
      have s3 := (s1.trans s2).trans (same_upd (o := .lst []) hp)
      obtain ⟨ds, d1, d2, d3, d4⟩ := dp_ones (K := K) (H := upd H2 p (.lst [])) t ht
      refine ⟨.list ds, .list [], .lst (SqL.of hD3) d1, .lst (SqL.of upd_same) .nil, shaped_of d2 (by show PyData.depthAll ds + 1 ≤ 64; omega), by decide +kernel, _, rfl, ?_⟩
      rw [d4]
      generalize upd H2 p (.lst []) = H3 at hD3 s3 ⊢
      by_cases e : t = []
      · rw [decide_eq_true e]
        exact ⟨D, t, _, _, rfl, s3, hD3, hy6, ht⟩
      · rw [decide_eq_false e]
        refine iteT ?_
        refine ⟨_, rfl, c, 14, 3, rfl, by decide, by decide, by decide, fun z3 H4 _ _ s4 => ?_⟩
        have hD4 := s4 _ _ hD3
        refine ⟨rfl, _, rfl, ite2 (fun _ => ?_) (fun _ => ⟨D, t, _, _, rfl, s3.trans s4, hD4, hy6, ht⟩)⟩
        refine ⟨_, rfl, D, rfl, ⟨_, SqL.of hD4⟩, fun D2 nD2 => ?_⟩
        rw [eA]
        refine lc_list (K := K) (a := D) (xs := onesL t) (fun i H' => Same H4 H' ∧ H' D2 = some (.lst (onesL (List.replicate i 97)))) ⟨same_upd nD2, upd_same⟩ (fun i H' _ ⟨s, _⟩ => SqL.of (s _ _ hD4)) ?_ ?_
        · rintro i y H' hi ⟨s5, hD5⟩
          have hlt := (List.getElem?_eq_some_iff.mp hi).1
          rw [onesL_len] at hlt
          refine ⟨rfl, _, hD5, by rw [onesL_len, List.length_replicate]; omega, same_mut s5 nD2, ?_⟩
          rw [upd_same, List.replicate_succ', onesL_app]
          rfl
        · rintro H5 ⟨s5, hD5⟩
          rw [onesL_len] at hD5
          refine ⟨_, rfl, _, rfl, _, rfl, c, 12, _, rfl, by decide, by decide, by rw [sl]; decide, fun z5 H6 z50 z51 s6 => ?_⟩
          rw [sl] at z51
          obtain ⟨ch, hch, o1, o2⟩ := some_get z50 z51
          refine ⟨S someL, z5, ch, rfl, rfl, by omega, hch, ?_⟩
          have hD6 := s6 _ _ hD5
          have ep : 0 < t.length := List.length_pos_iff.mpr e
          refine ⟨_, rfl, _, rfl, _, rfl, D2, _, rfl, .inl (SqL.of hD6), c, 15, _, rfl, by decide, by decide, ?_, fun z6 H7 z60 z61 s7 => ?_⟩
          · rw [onesL_len, List.length_replicate]
            omega
          rw [onesL_len, List.length_replicate] at z61
          have hD7 := s7 _ _ hD6
          obtain ⟨j, rfl⟩ := Int.eq_ofNat_of_zero_le z60
          refine ⟨D2, _, _, j, rfl, rfl, hD7, ?_, ?_⟩
          · exact Evl.ixN_nat (by rw [onesL_len, List.length_replicate]; omega)
          refine ⟨D2, (List.replicate t.length 97).set j ch, _, _, rfl, ?_, ?_, ?_, ?_⟩
          · exact same_mut (((s3.trans s4).trans (s5.trans s6)).trans s7) (Same.free (s3.trans s4) nD2)
          · rw [upd_same]
            unfold onesL
            rw [List.map_set, List.map_set]
          · rw [List.length_set, List.length_replicate]
            omega
          · intro y hy'
            rcases List.mem_or_eq_of_mem_set hy' with h | h
            · rw [List.eq_of_mem_replicate h]
              decide
            · rw [h]
              exact ⟨o1, o2⟩
    rintro σ H3 ⟨D, t, y4, y5, rfl, s3, hD3, hyl3, hy3⟩
    refine ⟨⟨_, rfl⟩, _, rfl, _, D, t.map fun c => S [c], rfl, rfl, .inl (SqL.of hD3), ?_, ?_⟩
    · rw [onesL_sum, List.length_map, eNo, S_len]
      simp
      omega
    · rw [eNo, join_ones]
      exact q t H3 hy3 hyl3 s3
end

/-! ### the books -/
def txV (bs : List (List Nat)) : List V := (bs.map S).map V.str
theorem txV_len (bs : List (List Nat)) : (txV bs).length = bs.length := by unfold txV; rw [List.length_map, List.length_map]
theorem txV_app (a b : List (List Nat)) : txV (a ++ b) = txV a ++ txV b := by unfold txV; rw [List.map_append, List.map_append]
theorem txV_take (a : List (List Nat)) (n : Nat) : (txV a).take n = txV (a.take n) := by unfold txV; rw [List.map_take, List.map_take]
/-- a remark -/
def Rem (t : List Nat) : Prop := ∃ u, t = 35 :: u ∧ PrL u ∧ u.length ≤ 6
theorem Rem.pr {t : List Nat} (h : Rem t) : PrL t := by
  obtain ⟨u, rfl, h1, _⟩ := h
  exact pr_cons (by decide) h1
def leafS (t : List Nat) : Tm := .sl "leaf" (.str (S t)) (.sl "table" (.int 8) nonT)
theorem leafS_eq (t : List Nat) : leafT 8 (t, []) = leafS t := by
  unfold leafT headT leafS
  have e : srtI [] = [] := List.perm_nil.mp (srt_perm [])
  show Tm.sl "leaf" (.str (S t)) (.sl "table" (.int ((8 : Nat) : Int)) (partT 8 (srtI []))) = _
  rw [e, partT_nil]
  rfl
theorem leafS_ws (t : List Nat) : WS (leafS t) := .leaf _ (.tab _ .non)
theorem leafS_dep (t : List Nat) : (leafS t).dep ≤ 3 := by
  show max 0 (max 0 (max 0 0 + 1) + 1) + 1 ≤ 3
  decide
theorem leafS_inj {t u : List Nat} (h : leafS t = leafS u) : t = u := S_inj (Tm.str.inj (Tm.sl.inj h).2.1)
section
variable {P : Program} {w : World} {K : PySem.W.Frag} {mg : Str → Option Value} {base : Heap} {Fam : Sys → Prop}
def spBooks (K : PySem.W.Frag) : Sp := fun vs H Q _ => ∃ (a : Addr) (ns : List Int), vs = [.ref a] ∧ SqL K H a (ns.map V.int) ∧ ∀ (q B0 B1 : Addr) (b0 b1 : List (List Nat)) (H' : Hp), Same H H' → H B0 = none → H B1 = none → H' q = some (.tup [.ref B0, .ref B1]) → H' B0 = some (.lst (txV b0)) → H' B1 = some (.lst (txV b1)) → b0.length ≤ 250 → b1.length ≤ 250 → (∀ t ∈ b0, Rem t) → (∀ t ∈ b1, Rem t) → Q (.ref q) H'
theorem ok_books {cc : Addr} (T : Txt K mg cc) : Cal P w K mg base 3 "_law_books" (spBooks K) [] := by
  have Z := T.Z
  have C__law_draw := ok_draw (P := P) (w := w) (base := base) T
  have C__law_cell_at := ok_cell_at (P := P) (w := w) (base := base) T
  have C__law_word := ok_wordS (P := P) (w := w) (base := base) T
  refine cal_of T.d__law_books sc__law_books (fun vs H Q E h => ?_) (fun f cdv A' outer s H vs Q E hr h => ?_)
  · obtain ⟨a, ns, rfl, _⟩ := h
    rfl
  obtain ⟨a, ns, rfl, hS, q⟩ := h
  have e16 : sizeLine = 16777216 := sizeLine_eq
  refine ⟨_, (pss_cons (ps_set (i := 1) sc__law_books.nd rfl (Or.inr rfl) (pe_c C__law_cell_at hr (by omega) rfl (pa_cons (pv 0) (pa_cons pe_int pa_nil))))
  (pss_cons (ps_set (i := 2) sc__law_books.nd rfl (Or.inl rfl) (pe_op op_mod (pe_c C__law_cell_at hr (by omega) rfl (pa_cons (pv 0) (pa_cons pe_int pa_nil))) pe_int))
  (Evl.pss_cut (ps_if (pt_cmpR op_eq (pe_op op_mod (pe_op op_fdiv (pe_c C__law_cell_at hr (by omega) rfl (pa_cons (pv 0) (pa_cons pe_int pa_nil))) pe_int) pe_int) pe_int (nomark _)) (pss_one (ps_set (i := 2) sc__law_books.nd rfl (Or.inl rfl) (pe_op op_add (pv 2) (pe_ix ix_tup (pe_tup (pa_cons pe_int (pa_cons pe_int (pa_cons pe_int (pa_cons pe_int pa_nil))))) (pe_c C__law_draw hr (by omega) rfl (pa_cons (pv 1) (pa_cons pe_int (pa_cons pe_int pa_nil)))) (fun _ _ => rfl))))) pss_nil)
  (pss_cons (ps_setLc (i := 3) (own := [("_law_k", 6)]) (g := gName 6) (tt := tYes) rfl sc__law_books.nd rfl rfl (sw_true rfl rfl rfl (by decide +kernel)) (pi_range1 rfl Z.range (pa_cons (pv 2) pa_nil)) (blkOk_by (N := N__law_books) (sc := defScope s__law_books) (by decide +kernel)) (fun _ _ _ _ _ => (pg_name (i := 6) sc__law_books.nd rfl (Or.inl rfl))) (fun _ _ _ _ _ => pts_nil) (fun _ _ _ _ _ => (pe_op op_add_str pe_str (pe_c C__law_word hr (by omega) rfl (pa_cons (pe_op op_add (pv 1) (pe_op op_mul pe_int (pe_op op_fdiv (pv 6) pe_int))) pa_nil)))))
  (pss_cons (ps_set (i := 4) sc__law_books.nd rfl (Or.inl rfl) (pe_op op_cat (pv 3) (pe_lc (own := [("_law_k", 6)]) (g := gName 6) (tt := tYes) rfl sc__law_books.nd (pi_range1 rfl Z.range (pa_cons (pe_c C__law_draw hr (by omega) rfl (pa_cons (pv 1) (pa_cons pe_int (pa_cons pe_int pa_nil)))) pa_nil)) (blkOk_by (N := N__law_books) (sc := defScope s__law_books) (by decide +kernel)) (fun _ _ _ _ _ => (pg_name (i := 6) sc__law_books.nd rfl (Or.inl rfl))) (fun _ _ _ _ _ => pts_nil) (fun _ _ _ _ _ => (pe_op op_add_str pe_str (pe_c C__law_word hr (by omega) rfl (pa_cons (pe_op op_add (pe_op op_add (pv 1) pe_int) (pe_op op_mul pe_int (pv 6))) pa_nil)))))))
  (pss_cons (ps_set (i := 5) sc__law_books.nd rfl (Or.inl rfl) (pe_op op_cat (pv 3) (pe_lc (own := [("_law_k", 6)]) (g := gName 6) (tt := tYes) rfl sc__law_books.nd (pi_range1 rfl Z.range (pa_cons (pe_c C__law_draw hr (by omega) rfl (pa_cons (pv 1) (pa_cons pe_int (pa_cons pe_int pa_nil)))) pa_nil)) (blkOk_by (N := N__law_books) (sc := defScope s__law_books) (by decide +kernel)) (fun _ _ _ _ _ => (pg_name (i := 6) sc__law_books.nd rfl (Or.inl rfl))) (fun _ _ _ _ _ => pts_nil) (fun _ _ _ _ _ => (pe_op op_add_str pe_str (pe_c C__law_word hr (by omega) rfl (pa_cons (pe_op op_add (pe_op op_add (pv 1) pe_int) (pe_op op_mul pe_int (pe_op op_fdiv (pv 6) pe_int))) pa_nil)))))))
  (pss_one (ps_ret (pe_tup (pa_cons (pv 4) (pa_cons (pv 5) pa_nil))))))))))), ?_⟩
  have eH : Str.ofString "#" = S [35] := TL.ext_tl (by decide +kernel)
  rw [eH]
  refine ⟨_, rfl, a, ns, 1, rfl, hS, by decide, ?_⟩
  generalize cell ns 1 = seed
  refine ⟨_, rfl, a, ns, 0, rfl, hS, by decide, _, 10, rfl, rfl, by show (0 : Int) < 10; decide, ?_⟩
  have m0 := Int.emod_nonneg (cell ns 0) (show (10 : Int) ≠ 0 by decide)
  have m1 := Int.emod_lt_of_pos (cell ns 0) (show (0 : Int) < 10 by decide)
  refine ⟨fun σ H' => ∃ N : Nat, N ≤ 239 ∧ σ = [some (.ref a), some (.int seed), some (.int (N : Int)), none, none, none, none] ∧ Same H H', ?_, ?_⟩
  · obtain ⟨n0, hn0⟩ := Int.eq_ofNat_of_zero_le m0
    refine ⟨_, rfl, a, ns, 0, rfl, hS, by decide, _, 10, rfl, rfl, ⟨by decide, by decide⟩, _, 5, rfl, rfl, by show (0 : Int) < 5; decide, rfl, _, rfl, ite2 (fun _ => ?_) (fun _ => ?_)⟩
    · refine ⟨_, rfl, by show 4 ≤ sizeLine; decide, fun tt ntt => ?_⟩
      refine ⟨_, rfl, _, _, _, rfl, by decide, by decide, by decide, fun z H2 z0 z1 s2 => ?_⟩
      have hat : ∃ k : Nat, atI [V.int 40, V.int 40, V.int 40, V.int 230] z = some (.int (k : Int)) ∧ k ≤ 230 := by
        have : z = 0 ∨ z = 1 ∨ z = 2 ∨ z = 3 := by omega
        rcases this with rfl | rfl | rfl | rfl
        · exact ⟨40, rfl, by decide⟩
        · exact ⟨40, rfl, by decide⟩
        · exact ⟨40, rfl, by decide⟩
        · exact ⟨230, rfl, by decide⟩
      obtain ⟨k, hat, hk⟩ := hat
      refine ⟨tt, _, z, _, rfl, rfl, SqT.of (s2 _ _ upd_same), hat, _, _, rfl, rfl, n0 + k, by omega, ?_, (same_upd ntt).trans s2⟩
      rw [show ((n0 + k : Nat) : Int) = cell ns 0 % 10 + (k : Int) by omega]
      rfl
    · refine ⟨n0, by omega, ?_, Same.refl H⟩
      rw [← hn0]
      rfl
  rintro σ H1 ⟨N, hN, rfl, s1⟩
  refine ⟨_, rfl, (N : Int), rfl, by omega, by omega, fun E1 nE => ?_⟩
  rw [Int.toNat_natCast]
  have nEH := s1.free nE
  refine lc_range (fun i H' => ∃ bs : List (List Nat), bs.length = i ∧ Same H H' ∧ H' E1 = some (.lst (txV bs)) ∧ ∀ t ∈ bs, Rem t) ⟨[], rfl, s1.trans (same_upd nE), upd_same, fun t h => nomatch h⟩ ?_ ?_
  · rintro i H' hi ⟨bs, rfl, s2, hE, hb⟩
    refine ⟨rfl, _, rfl, _, rfl, _, 2, rfl, rfl, ⟨by decide, by decide⟩, _, _, rfl, rfl, .inl ⟨by decide, by decide⟩, _, _, rfl, rfl, _, rfl, fun t H2 pt lt s3 => ?_⟩
    refine ⟨_, _, rfl, rfl, by rw [S_len, S_len]; show 1 + _ ≤ _; omega, txV bs, s3 _ _ hE, by rw [txV_len]; omega, bs ++ [35 :: t], by simp, same_mut (s2.trans s3) nEH, ?_, fun x hx => ?_⟩
    · rw [upd_same, txV_app, S_cat]
      rfl
    · rcases List.mem_append.mp hx with h | h
      · exact hb x h
      · rw [List.mem_singleton.mp h]
        exact ⟨t, rfl, pt, lt⟩
  rintro H2 ⟨bs, hbl, s2, hE, hb⟩
  have hbl : bs.length = N := hbl
  refine ⟨_, rfl, _, rfl, _, _, _, rfl, by decide, by decide, by decide, fun z H3 z0 z1 s3 => ?_⟩
  obtain ⟨n3, rfl⟩ := Int.eq_ofNat_of_zero_le z0
  refine ⟨(n3 : Int), rfl, by omega, by omega, fun E2 nE2 => ?_⟩
  rw [Int.toNat_natCast]
  have nE2H := (s2.trans s3).free nE2
  have hE3 := s3 _ _ hE
  refine lc_range (fun i H' => ∃ cs : List (List Nat), cs.length = i ∧ Same H H' ∧ H' E1 = some (.lst (txV bs)) ∧ H' E2 = some (.lst (txV cs)) ∧ ∀ t ∈ cs, Rem t) ⟨[], rfl, (s2.trans s3).trans (same_upd nE2), by rw [upd_ne (ne_of_none hE3 nE2)]; exact hE3, upd_same, fun t h => nomatch h⟩ ?_ ?_
  · rintro i H' hi ⟨cs, rfl, s4, hE1, hE2, hc⟩
    refine ⟨rfl, _, rfl, _, _, rfl, rfl, _, rfl, _, _, rfl, rfl, .inl ⟨by decide, by decide⟩, _, _, rfl, rfl, _, rfl, fun t H4 pt lt s5 => ?_⟩
    have ne12 : E1 ≠ E2 := ne_of_none hE3 nE2
    refine ⟨_, _, rfl, rfl, by rw [S_len, S_len]; show 1 + _ ≤ _; omega, txV cs, s5 _ _ hE2, by rw [txV_len]; omega, cs ++ [35 :: t], by simp, same_mut (s4.trans s5) nE2H, by rw [upd_ne ne12]; exact s5 _ _ hE1, ?_, fun x hx => ?_⟩
    · rw [upd_same, txV_app, S_cat]
      rfl
    · rcases List.mem_append.mp hx with h | h
      · exact hc x h
      · rw [List.mem_singleton.mp h]
        exact ⟨t, rfl, pt, lt⟩
  rintro H4 ⟨cs, hcl, s4, hE4, hE24, hc⟩
  have hcl : cs.length = n3 := hcl
  refine ⟨E1, E2, _, _, rfl, rfl, hE4, hE24, by rw [txV_len, txV_len]; omega, fun O nO => ?_⟩
  rw [← txV_app]
  have nOH := s4.free nO
  have s5 := same_upd (o := .lst (txV (bs ++ cs))) nO
  have hO : upd H4 O (.lst (txV (bs ++ cs))) O = some (.lst (txV (bs ++ cs))) := upd_same
  have hE5 := s5 _ _ hE4
  have s05 := s4.trans s5
  generalize upd H4 O (.lst (txV (bs ++ cs))) = H5 at hO hE5 s05 ⊢
  refine ⟨_, rfl, _, rfl, _, _, _, rfl, by decide, by decide, by decide, fun z H6 y0 y1 s6 => ?_⟩
  obtain ⟨n6, rfl⟩ := Int.eq_ofNat_of_zero_le y0
  refine ⟨(n6 : Int), rfl, by omega, by omega, fun E3 nE3 => ?_⟩
  rw [Int.toNat_natCast]
  have nE3H := (s05.trans s6).free nE3
  have hE6 := s6 _ _ hE5
  have hO6 := s6 _ _ hO
  refine lc_range (fun i H' => ∃ ds : List (List Nat), ds.length = i ∧ Same H H' ∧ H' E1 = some (.lst (txV bs)) ∧ H' O = some (.lst (txV (bs ++ cs))) ∧ H' E3 = some (.lst (txV ds)) ∧ ∀ t ∈ ds, Rem t) ⟨[], rfl, (s05.trans s6).trans (same_upd nE3), by rw [upd_ne (ne_of_none hE6 nE3)]; exact hE6, by rw [upd_ne (ne_of_none hO6 nE3)]; exact hO6, upd_same, fun t h => nomatch h⟩ ?_ ?_
  · rintro i H' hi ⟨ds, rfl, s7, hE1, hO1, hE3', hd⟩
    refine ⟨rfl, _, rfl, _, _, rfl, rfl, _, rfl, _, 3, rfl, rfl, ⟨by decide, by decide⟩, _, _, rfl, rfl, .inl ⟨by decide, by decide⟩, _, _, rfl, rfl, _, rfl, fun t H7 pt lt s8 => ?_⟩
    have ne1 : E1 ≠ E3 := ne_of_none hE6 nE3
    have ne2 : O ≠ E3 := ne_of_none hO6 nE3
    refine ⟨_, _, rfl, rfl, by rw [S_len, S_len]; show 1 + _ ≤ _; omega, txV ds, s8 _ _ hE3', by rw [txV_len]; omega, ds ++ [35 :: t], by simp, same_mut (s7.trans s8) nE3H, by rw [upd_ne ne1]; exact s8 _ _ hE1, by rw [upd_ne ne2]; exact s8 _ _ hO1, ?_, fun x hx => ?_⟩
    · rw [upd_same, txV_app, S_cat]
      rfl
    · rcases List.mem_append.mp hx with h | h
      · exact hd x h
      · rw [List.mem_singleton.mp h]
        exact ⟨t, rfl, pt, lt⟩
  rintro H7 ⟨ds, hdl, s7, hE7, hO7, hE37, hd⟩
  have hdl : ds.length = n6 := hdl
  refine ⟨E1, E3, _, _, rfl, rfl, hE7, hE37, by rw [txV_len, txV_len]; omega, fun O2 nO2 => ?_⟩
  rw [← txV_app]
  have s8 := same_upd (o := .lst (txV (bs ++ ds))) nO2
  refine ⟨_, rfl, _, rfl, by show 2 ≤ sizeLine; decide, fun tt ntt => ?_⟩
  have s9 := same_upd (o := .tup [.ref O, .ref O2]) ntt
  refine q tt O O2 (bs ++ cs) (bs ++ ds) _ ((s7.trans s8).trans s9) nOH (s7.free nO2) upd_same (s9 _ _ (s8 _ _ hO7)) (s9 _ _ upd_same) (by rw [List.length_append]; omega) (by rw [List.length_append]; omega) (fun t ht => ?_) (fun t ht => ?_)
  · rcases List.mem_append.mp ht with h | h
    · exact hb t h
    · exact hc t h
  · rcases List.mem_append.mp ht with h | h
    · exact hb t h
    · exact hd t h
end

section
variable {P : Program} {w : World} {K : PySem.W.Frag} {mg : Str → Option Value} {base : Heap} {Fam : Sys → Prop}
theorem txV_at {bs : List (List Nat)} {i : Nat} {y : V} (h : (txV bs)[i]? = some y) : ∃ t, bs[i]? = some t ∧ y = .str (S t) := by
  unfold txV at h
  rw [List.getElem?_map, List.getElem?_map] at h
  cases e : bs[i]? with
  | none => rw [e] at h; cases h
  | some t => rw [e] at h; exact ⟨t, rfl, (Option.some.inj h).symm⟩
def spLeaves13 (Fam : Sys → Prop) : Sp := fun vs H Q _ => ∃ (S0 : Sys) (B : Addr) (bs : List (List Nat)) (r : Nat), Fam S0 ∧ vs = [.ref S0.f, .ref B] ∧ H B = some (.lst (txV bs)) ∧ bs.length ≤ 300 ∧ (∀ t ∈ bs, Rem t) ∧ S0.ok H (r + 900) ∧
  ∀ q ys H', Ext H H' → H q = none → H' q = some (.lst ys) → S0.ok H' r → DenL S0 H' ys (bs.map leafS) → Q (.ref q) H'
theorem ok_leaves13 {cc : Addr} (T : Txt K mg cc) (A : SlA P w K mg base Fam) : Cal P w K mg base 2 "_law_leaves" (spLeaves13 Fam) [] := by
  have Z := T.Z
  refine cal_of T.d__law_leaves sc__law_leaves (fun vs H Q E h => ?_) (fun f cdv A' outer s H vs Q E hr h => ?_)
  · obtain ⟨S0, B, bs, r, _, rfl, _⟩ := h
    rfl
  obtain ⟨S0, B, bs, r, hF, rfl, hB, hbl, hrem, hok, q⟩ := h
  have G := A.good hF
  have e16 : sizeLine = 16777216 := sizeLine_eq
  refine ⟨_, (pss_one (ps_ret (pe_lc (own := [("_law_text", 2)]) (g := gName 2) (tt := tYes) rfl sc__law_leaves.nd (pi_list (pv 1)) (blkOk_by (N := N__law_leaves) (sc := defScope s__law_leaves) (by decide +kernel)) (fun _ _ _ _ _ => (pg_name (i := 2) sc__law_leaves.nd rfl (Or.inl rfl))) (fun _ _ _ _ _ => pts_nil) (fun _ _ _ _ _ => (pe_sl (i := 0) A.held hr (by omega) rfl (by first | exact Or.inl rfl | exact Or.inr (Or.inl rfl) | exact Or.inr (Or.inr rfl)) (pa_cons pe_str (pa_cons (pv 2) (pa_cons (pe_sl (i := 0) A.held hr (by omega) rfl (by first | exact Or.inl rfl | exact Or.inr (Or.inl rfl) | exact Or.inr (Or.inr rfl)) (pa_cons pe_str (pa_cons pe_int (pa_cons (pe_sl (i := 0) A.held hr (by omega) rfl (by first | exact Or.inl rfl | exact Or.inr (Or.inl rfl) | exact Or.inr (Or.inr rfl)) (pa_cons pe_str (pa_cons pe_int (pa_cons pe_int pa_nil)))) pa_nil)))) pa_nil)))))))), ?_⟩
  refine ⟨_, rfl, B, rfl, ⟨_, SqL.of hB⟩, fun D nD => ?_⟩
  refine lc_list (K := K) (a := B) (xs := txV bs) (fun i H' => ∃ ys, Ext H H' ∧ H' D = some (.lst ys) ∧ S0.ok H' (r + 900 - 3 * i) ∧ DenL S0 H' ys ((bs.take i).map leafS))
    ⟨[], Ext.new nD, upd_same, G.keep (Kp.new nD) hok, DenL.nil⟩ (fun i H' _ ⟨_, x, _⟩ => SqL.of (x.lst hB)) ?_ ?_
  · rintro i v H' hi ⟨ys, x, hD, hok', hd⟩
    have hil := (List.getElem?_eq_some_iff.mp hi).1
    rw [txV_len] at hil
    obtain ⟨t, ht, rfl⟩ := txV_at hi
    have htx := txt_S (hrem t (List.mem_of_getElem? ht)).pr
    have e1 : r + 900 - 3 * i = (r + 900 - 3 * (i + 1)) + 3 := by omega
    rw [e1] at hok'
    refine ⟨rfl, S0, _, hF, rfl, hok', _, rfl, S0, _, hF, rfl, hok', S0, _, hF, rfl, hok', r + 900 - 3 * (i + 1) + 2, "none", .int 0, .int 0, _, _, rfl, by decide +kernel, hok', G.int _ hok', G.int _ hok', fun v0 H0 x0 ok0 d0 => ?_⟩
    refine ⟨r + 900 - 3 * (i + 1) + 1, "table", .int 8, nonT, _, _, rfl, by decide +kernel, ok0, G.int _ ok0, d0, fun v1 H1 y1 ok1 d1 => ?_⟩
    refine ⟨r + 900 - 3 * (i + 1), "leaf", .str (S t), _, _, _, rfl, by decide +kernel, ok1, G.str _ ok1 htx, d1, fun u H2 x2 ok2 du => ?_⟩
    have hl2 := hd.len
    rw [List.length_map, List.length_take] at hl2
    have x02 := (x0.trans y1).trans x2
    have hD2 := x02.lst hD
    refine ⟨ys, hD2, by omega, ys ++ [u], (x.trans x02).mut nD, upd_same, G.keep (Kp.lst hD2) ok2, ?_⟩
    rw [List.take_succ, ht, List.map_append]
    exact (hd.mono G (x02.gr.trans (Kp.lst hD2).gr)).append (DenL.one (G.mono (Kp.lst hD2).gr du))
  · rintro H1 ⟨ys, x, hD, hok1, hd⟩
    rw [txV_len, List.take_length] at hd
    exact q D ys H1 x nD hD (G.less hok1 (by rw [txV_len]; omega)) hd
def spHead13 (Fam : Sys → Prop) : Sp := fun vs H Q _ => ∃ (S0 : Sys) (B : Addr) (bs : List (List Nat)) (r : Nat), Fam S0 ∧ vs = [.ref S0.f, .ref B] ∧ H B = some (.lst (txV bs)) ∧ bs.length ≤ 300 ∧ (∀ t ∈ bs, Rem t) ∧ S0.ok H (r + 1300) ∧
  ∀ v H', Ext H H' → S0.ok H' r → S0.den H' v (bkT (bs.map leafS)) → Q v H'
theorem ok_head13 {cc : Addr} (T : Txt K mg cc) (A : SlA P w K mg base Fam) : Cal P w K mg base 13 "_law_head" (spHead13 Fam) [] := by
  have Z := T.Z
  have C__law_leaves := ok_leaves13 T A
  have C__law_top := ok_law_top T A 10
  refine cal_of T.d__law_head sc__law_head (fun vs H Q E h => ?_) (fun f cdv A' outer s H vs Q E hr h => ?_)
  · obtain ⟨S0, B, bs, r, _, rfl, _⟩ := h
    rfl
  obtain ⟨S0, B, bs, r, hF, rfl, hB, hbl, hrem, hok, q⟩ := h
  have G := A.good hF
  refine ⟨_, (pss_one (ps_ret (pe_sl (i := 0) A.held hr (by omega) rfl (by first | exact Or.inl rfl | exact Or.inr (Or.inl rfl) | exact Or.inr (Or.inr rfl)) (pa_cons pe_str (pa_cons (pe_callB call_len_seq rfl Z.len PySem.boot_len (pa_cons (pv 1) pa_nil)) (pa_cons (pe_c C__law_top hr (by omega) rfl (pa_cons (pv 0) (pa_cons (pe_c C__law_leaves hr (by omega) rfl (pa_cons (pv 0) (pa_cons (pv 1) pa_nil))) pa_nil))) pa_nil)))))), ?_⟩
  have ct := costT_le bs.length
  refine ⟨S0, _, hF, rfl, hok, _, rfl, B, _, rfl, .inl (SqL.of hB), _, rfl, _, rfl, _, rfl, S0, B, bs, r + 400, hF, rfl, hB, hbl, hrem, G.less hok (by omega), fun L ys H1 x1 nL hL ok1 hd => ?_⟩
  refine ⟨S0, L, ys, _, r + 1, hF, rfl, SqL.of hL, hd, by decide, by rw [List.length_map]; show _ ≤ 512; omega, by rw [List.length_map]; omega, by rw [List.length_map]; exact G.less ok1 (by omega), fun v H2 x2 ok2 d2 => ?_⟩
  refine ⟨r, "book", .int (bs.length : Int), _, _, _, by rw [txV_len], by decide +kernel, ok2, G.int _ ok2, d2, fun u H3 x3 ok3 d3 => q u H3 ((x1.trans x2).trans x3) ok3 ?_⟩
  unfold bkT
  rw [List.length_map]
  exact d3
end

/-! ### papers bent -/
section
variable {P : Program} {w : World} {K : PySem.W.Frag} {mg : Str → Option Value} {base : Heap} {Fam : Sys → Prop}
def OkT (t : Tm) : Prop := WS t ∧ t.dep ≤ 20
theorem odd_tup {S : Sys} (G : S.Good K) {H : Hp} {q : Addr} {ys : List V} {ps : List Tm} (hq : H q = some (.tup ys)) (hd : DenL S H ys ps) (hp : ∀ t ∈ ps, OkT t) : ∀ H', Ext H H' → Odd K H' (.ref q) := by
  intro H' e
  have ht' := e.tup hq
  refine ⟨⟨.type "tuple", .base (.tup ht'), kit_ty (by decide +kernel)⟩, ?_⟩
  have hdx := hd.mono G e.gr
  obtain ⟨ds, m1, _, m3, m4⟩ := DenL.same (K := K) (n := 20) G hdx hdx fun t ht => (hp t ht).2
  exact ⟨.tuple ds, .tup (SqT.of ht') m1, shaped_of m3 (by show PyData.depthAll ds + 1 ≤ 64; omega), rfl⟩
theorem odd_non {H : Hp} : ∀ H', Ext H H' → Odd K H' .non := fun _ _ => ⟨⟨_, .base .non, kit_ty (by decide +kernel)⟩, .none, .non, by decide +kernel, rfl⟩
theorem odd_str {H : Hp} : ∀ H', Ext H H' → Odd K H' (.str "ab") := fun _ _ => ⟨⟨_, .base (.str _), kit_ty (by decide +kernel)⟩, .str "ab", .str _, by decide +kernel, rfl⟩
theorem odd_int {H : Hp} : ∀ H', Ext H H' → Odd K H' (.int 5) := fun _ _ => ⟨⟨_, .base (.int _), kit_ty (by decide +kernel)⟩, .int 5, .int _, by decide +kernel, rfl⟩
theorem four_at {v0 v1 v2 v3 : V} {z : Int} (h0 : 0 ≤ z) (h1 : z < 4) : ∃ v, atI [v0, v1, v2, v3] z = some v ∧ (v = v0 ∨ v = v1 ∨ v = v2 ∨ v = v3) := by
  have : z = 0 ∨ z = 1 ∨ z = 2 ∨ z = 3 := by omega
  rcases this with rfl | rfl | rfl | rfl
  · exact ⟨v0, rfl, .inl rfl⟩
  · exact ⟨v1, rfl, .inr (.inl rfl)⟩
  · exact ⟨v2, rfl, .inr (.inr (.inl rfl))⟩
  · exact ⟨v3, rfl, .inr (.inr (.inr rfl))⟩
theorem DenL.at_mem {S : Sys} {H : Hp} {xs : List V} {ts : List Tm} (h : DenL S H xs ts) {i : Int} (h0 : 0 ≤ i) (h1 : i < (ts.length : Int)) : ∃ v t, atI xs i = some v ∧ S.den H v t ∧ t ∈ ts := by
  obtain ⟨n, rfl⟩ := Int.eq_ofNat_of_zero_le h0
  have hn : n < ts.length := by omega
  obtain ⟨v, e, d⟩ := h.get hn
  exact ⟨v, _, atI_nat e, d, List.getElem_mem hn⟩
theorem DenL.reverse {S : Sys} {H : Hp} {vs : List V} {ts : List Tm} (h : DenL S H vs ts) : DenL S H vs.reverse ts.reverse := by
  have hl := h.len
  refine ⟨by rw [List.length_reverse, List.length_reverse, hl], fun i v t a b => ?_⟩
  have hi : i < vs.length := by
    have := (List.getElem?_eq_some_iff.mp a).1
    rwa [List.length_reverse] at this
  rw [List.getElem?_reverse hi] at a
  rw [List.getElem?_reverse (by omega), ← hl] at b
  exact h.at_ _ v t a b
end

section
variable {P : Program} {w : World} {K : PySem.W.Frag} {mg : Str → Option Value} {base : Heap} {Fam : Sys → Prop}
def spBent13 (K : PySem.W.Frag) (Fam : Sys → Prop) : Sp := fun vs H Q _ => ∃ (S0 : Sys) (a : Addr) (ys : List V) (ps : List Tm) (c : Int) (r : Nat), Fam S0 ∧ vs = [.ref S0.f, .ref a, .int c] ∧ H a = some (.lst ys) ∧ DenL S0 H ys ps ∧ ps.length ≤ 50 ∧ (∀ t ∈ ps, OkT t) ∧ S0.ok H (r + 2) ∧
  ∀ v pp H', Ext H H' → S0.ok H' r → Pap K S0 H' v pp → (pp = none → ∃ q ws, v = .ref q ∧ H' q = some (.tup ws)) → Q v H'
theorem ok_bent13 {cc : Addr} (T : Txt K mg cc) (A : SlA P w K mg base Fam) : Cal P w K mg base 2 "_law_bent" (spBent13 K Fam) [] := by
  have Z := T.Z
  have C__law_draw := ok_draw (P := P) (w := w) (base := base) T
  refine cal_of T.d__law_bent sc__law_bent (fun vs H Q E h => ?_) (fun f cdv A' outer s H vs Q E hr h => ?_)
  · obtain ⟨S0, a, ys, ps, c, r, _, rfl, _⟩ := h
    rfl
  obtain ⟨S0, a, ys, ps, c, r, hF, rfl, ha, hd, hl, hps, hok, q⟩ := h
  have G := A.good hF
  have hyl := hd.len
  have e16 : sizeLine = 16777216 := sizeLine_eq
  refine ⟨_, (pss_cons (ps_set (i := 3) sc__law_bent.nd rfl (Or.inl rfl) (pe_c C__law_draw hr (by omega) rfl (pa_cons (pv 2) (pa_cons pe_int (pa_cons pe_int pa_nil)))))
  (pss_cons (ps_set (i := 4) sc__law_bent.nd rfl (Or.inl rfl) (pe_c C__law_draw hr (by omega) rfl (pa_cons (pv 2) (pa_cons pe_int (pa_cons (pe_op op_add (pe_callB call_len_seq rfl Z.len PySem.boot_len (pa_cons (pv 1) pa_nil)) pe_int) pa_nil)))))
  (pss_cons (ps_if (pt_cmpR op_eq (pv 3) pe_int (nomark _)) (pss_one (ps_ret (pe_op op_cat (pe_slice sl_list (pv 1) po_none (po_some (pv 4))) (pe_slice sl_list (pv 1) (po_some (pe_op op_add (pv 4) pe_int)) po_none)))) pss_nil)
  (pss_cons (ps_if (pt_cmpR op_eq (pv 3) pe_int (nomark _)) (pss_one (ps_ret (pe_op op_cat (pe_op op_cat (pe_slice sl_list (pv 1) po_none (po_some (pv 4))) (pe_lst (pa_cons (pe_sl (i := 0) A.held hr (by omega) rfl (by first | exact Or.inl rfl | exact Or.inr (Or.inl rfl) | exact Or.inr (Or.inr rfl)) (pa_cons pe_str (pa_cons pe_int (pa_cons pe_int pa_nil)))) pa_nil))) (pe_slice sl_list (pv 1) (po_some (pv 4)) po_none)))) pss_nil)
  (pss_cons (ps_if (pt_cmpR op_eq (pv 3) pe_int (nomark _)) (pss_one (ps_ret (pe_lstRev rfl rfl Z.list rfl Z.reversed (pv 1)))) pss_nil)
  (pss_cons (ps_if (pt_cmpR op_eq (pv 3) pe_int (nomark _)) (pss_one (ps_ret (pe_callTy call_tuple_of rfl Z.tuple (by decide +kernel) (pa_cons (pv 1) pa_nil)))) pss_nil)
  (pss_one (ps_ret (pv 1))))))))), ?_⟩
  refine ⟨_, rfl, _, _, _, rfl, by decide, by decide, by decide, fun z1 H1 _ _ s1 => ?_⟩
  refine ⟨_, rfl, _, rfl, a, _, rfl, .inl (SqL.of (s1 _ _ ha)), _, _, rfl, rfl, _, _, _, rfl, by decide, by decide, by omega, fun z2 H2 z20 z21 s2 => ?_⟩
  obtain ⟨n, rfl⟩ := Int.eq_ofNat_of_zero_le z20
  have x1 := Ext.of_same (s1.trans s2)
  have ok1 := G.keep (kp_same (s1.trans s2)) hok
  have ha1 := x1.lst ha
  have hd1 := hd.mono G x1.gr
  have e1 : (n : Int) + 1 = ((n + 1 : Nat) : Int) := by omega
  refine ⟨_, rfl, rfl, _, rfl, ite2 (fun _ => ?_) (fun _ => ?_)⟩
  · refine ⟨_, rfl, _, rfl, (n : Int), rfl, a, ys, rfl, SqL.of ha1, fun p1 np1 => ?_⟩
    rw [cut_to]
    have u1 := Ext.new (o := .lst (ys.take n)) np1
    have k1 := Kp.new (o := .lst (ys.take n)) np1
    have h1 : upd H2 p1 (.lst (ys.take n)) p1 = some (.lst (ys.take n)) := upd_same
    generalize upd H2 p1 (.lst (ys.take n)) = H3 at u1 k1 h1 ⊢
    refine ⟨_, rfl, _, rfl, _, 1, rfl, rfl, ((n + 1 : Nat) : Int), by rw [← e1], a, ys, rfl, SqL.of (u1.lst ha1), fun p2 np2 => ?_⟩
    rw [cut_from]
    have u2 := Ext.new (o := .lst (ys.drop (n + 1))) np2
    have k2 := Kp.new (o := .lst (ys.drop (n + 1))) np2
    have h2 : upd H3 p2 (.lst (ys.drop (n + 1))) p2 = some (.lst (ys.drop (n + 1))) := upd_same
    have h12 := u2.lst h1
    generalize upd H3 p2 (.lst (ys.drop (n + 1))) = H4 at u2 k2 h2 h12 ⊢
    refine ⟨p1, p2, _, _, rfl, rfl, h12, h2, by rw [List.length_take, List.length_drop]; omega, fun p3 np3 => ?_⟩
    have u3 := Ext.new (o := .lst (ys.take n ++ ys.drop (n + 1))) np3
    have k3 := Kp.new (o := .lst (ys.take n ++ ys.drop (n + 1))) np3
    refine q _ (some (ps.take n ++ ps.drop (n + 1))) _ (((x1.trans u1).trans u2).trans u3) (G.less (G.keep ((k1.trans k2).trans k3) ok1) (by omega)) ⟨p3, _, rfl, upd_same, ((hd1.take _).append (hd1.drop _)).mono G ((u1.trans u2).trans u3).gr, by rw [List.length_append, List.length_take, List.length_drop]; omega, fun t ht => ?_⟩ (fun z => nomatch z)
    rcases List.mem_append.mp ht with h | h
    · exact hps t (List.mem_of_mem_take h)
    · exact hps t (List.mem_of_mem_drop h)
  refine ⟨_, rfl, rfl, _, rfl, ite2 (fun _ => ?_) (fun _ => ?_)⟩
  · refine ⟨_, rfl, _, rfl, (n : Int), rfl, a, ys, rfl, SqL.of ha1, fun p1 np1 => ?_⟩
    rw [cut_to]
    have u1 := Ext.new (o := .lst (ys.take n)) np1
    have k1 := Kp.new (o := .lst (ys.take n)) np1
    have h1 : upd H2 p1 (.lst (ys.take n)) p1 = some (.lst (ys.take n)) := upd_same
    generalize upd H2 p1 (.lst (ys.take n)) = H3 at u1 k1 h1 ⊢
    have ok3 := G.keep k1 ok1
    refine ⟨S0, r + 2, hF, rfl, ok3, r + 1, "none", .int 0, .int 0, _, _, rfl, by decide +kernel, ok3, G.int _ ok3, G.int _ ok3, fun nv H4 x4 ok4 dn => ⟨by show 1 ≤ sizeLine; decide, fun p2 np2 => ?_⟩⟩
    have u2 := x4.trans (Ext.new (o := .lst [nv]) np2)
    have k2 := Kp.new (o := .lst [nv]) np2
    have h2 : upd H4 p2 (.lst [nv]) p2 = some (.lst [nv]) := upd_same
    have h12 := u2.lst h1
    have dn2 := G.mono k2.gr dn
    generalize upd H4 p2 (.lst [nv]) = H5 at u2 k2 h2 h12 dn2 ⊢
    refine ⟨p1, p2, _, _, rfl, rfl, h12, h2, by rw [List.length_take]; show _ + 1 ≤ _; omega, fun p3 np3 => ?_⟩
    have u3 := Ext.new (o := .lst (ys.take n ++ [nv])) np3
    have k3 := Kp.new (o := .lst (ys.take n ++ [nv])) np3
    have h3 : upd H5 p3 (.lst (ys.take n ++ [nv])) p3 = some (.lst (ys.take n ++ [nv])) := upd_same
    have dn3 := G.mono k3.gr dn2
    generalize upd H5 p3 (.lst (ys.take n ++ [nv])) = H6 at u3 k3 h3 dn3 ⊢
    have u13 := (u1.trans u2).trans u3
    refine ⟨_, rfl, _, rfl, (n : Int), rfl, a, ys, rfl, SqL.of (u13.lst ha1), fun p4 np4 => ?_⟩
    rw [cut_from]
    have u4 := Ext.new (o := .lst (ys.drop n)) np4
    have k4 := Kp.new (o := .lst (ys.drop n)) np4
    have h4 : upd H6 p4 (.lst (ys.drop n)) p4 = some (.lst (ys.drop n)) := upd_same
    have h34 := u4.lst h3
    have dn4 := G.mono k4.gr dn3
    generalize upd H6 p4 (.lst (ys.drop n)) = H7 at u4 k4 h4 h34 dn4 ⊢
    refine ⟨p3, p4, _, _, rfl, rfl, h34, h4, by rw [List.length_append, List.length_take, List.length_drop]; show _ + 1 + _ ≤ _; omega, fun p5 np5 => ?_⟩
    have u5 := Ext.new (o := .lst (ys.take n ++ [nv] ++ ys.drop n)) np5
    have k5 := Kp.new (o := .lst (ys.take n ++ [nv] ++ ys.drop n)) np5
    have dd : DenL S0 H7 (ys.take n ++ [nv] ++ ys.drop n) (ps.take n ++ [nonT] ++ ps.drop n) := (((hd1.take n).mono G (u13.trans u4).gr).append (DenL.one dn4)).append ((hd1.drop n).mono G (u13.trans u4).gr)
    refine q _ (some (ps.take n ++ [nonT] ++ ps.drop n)) _ (((x1.trans u13).trans u4).trans u5) (G.less (G.keep (((k2.trans k3).trans k4).trans k5) ok4) (by omega)) ⟨p5, _, rfl, upd_same, dd.mono G u5.gr, by rw [List.length_append, List.length_append, List.length_take, List.length_drop]; show _ + 1 + _ ≤ 100; omega, fun t ht => ?_⟩ (fun z => nomatch z)
    rcases List.mem_append.mp ht with h | h
    · rcases List.mem_append.mp h with h | h
      · exact hps t (List.mem_of_mem_take h)
      · rw [List.mem_singleton.mp h]
        exact ⟨.non, by decide⟩
    · exact hps t (List.mem_of_mem_drop h)
  refine ⟨_, rfl, rfl, _, rfl, ite2 (fun _ => ?_) (fun _ => ?_)⟩
  · refine ⟨_, rfl, a, ys, rfl, SqL.of ha1, fun p1 np1 => ?_⟩
    have k1 := Kp.new (o := .lst ys.reverse) np1
    exact q _ (some ps.reverse) _ (x1.trans (Ext.new np1)) (G.less (G.keep k1 ok1) (by omega)) ⟨p1, _, rfl, upd_same, (hd1.reverse).mono G k1.gr, by rw [List.length_reverse]; omega, fun t ht => hps t (List.mem_reverse.mp ht)⟩ (fun z => nomatch z)
  refine ⟨_, rfl, rfl, _, rfl, ite2 (fun _ => ?_) (fun _ => ?_)⟩
  · refine ⟨_, rfl, a, ys, rfl, .inl ⟨SqL.of ha1, fun p1 np1 => ?_⟩⟩
    have k1 := Kp.new (o := .tup ys) np1
    exact q _ none _ (x1.trans (Ext.new np1)) (G.less (G.keep k1 ok1) (by omega)) (odd_tup G upd_same (hd1.mono G k1.gr) hps) (fun _ => ⟨p1, ys, rfl, upd_same⟩)
  exact ⟨_, rfl, q _ (some ps) _ x1 (G.less ok1 (by omega)) ⟨a, ys, rfl, ha1, hd1, by omega, hps⟩ (fun z => nomatch z)⟩
end

section
variable {P : Program} {w : World} {K : PySem.W.Frag} {mg : Str → Option Value} {base : Heap} {Fam : Sys → Prop} {CF CS CG CK CT : Addr}
theorem bkT_dep {bs : List (List Nat)} (h : bs.length ≤ 300) : (bkT (bs.map leafS)).dep ≤ 20 := by
  have := topT_dep (d := 3) 9 (bs.map leafS) (by rw [List.length_map]; omega) fun t ht => by
    obtain ⟨x, _, rfl⟩ := List.mem_map.mp ht
    exact leafS_dep x
  show max 0 (topT _).dep + 1 ≤ 20
  omega
theorem bkT_ws (bs : List (List Nat)) : WS (topT (bs.map leafS)) := topT_ws fun t ht => by
  obtain ⟨x, _, rfl⟩ := List.mem_map.mp ht
  exact leafS_ws x
theorem bkT_bk {bs : List (List Nat)} (h : bs.length ≤ 300) : BkT (bkT (bs.map leafS)) := ⟨_, _, rfl, bkT_ws bs, by
  have := topT_dep (d := 3) 9 (bs.map leafS) (by rw [List.length_map]; omega) fun t ht => by
    obtain ⟨x, _, rfl⟩ := List.mem_map.mp ht
    exact leafS_dep x
  omega⟩
/-- a follower that took these texts -/
structure FwAt (CF : Addr) (S0 : Sys) (H : Hp) (p : Addr) (tk : List (List Nat)) : Prop where
  ex : ∃ dx hv, H p = some (.ins CF dx (fwF S0.f (tk.length : Int) hv)) ∧ S0.den H hv (bkT (tk.map leafS))
theorem FwAt.ext {S0 : Sys} {H H' : Hp} {p : Addr} {tk : List (List Nat)} (G : S0.Good K) (h : FwAt CF S0 H p tk) (x : Ext H H') : FwAt CF S0 H' p tk := by
  obtain ⟨dx, hv, g1, g2⟩ := h.ex
  exact ⟨dx, hv, x.ins g1, G.mono x.gr g2⟩
def spKept (CF : Addr) (Fam : Sys → Prop) : Sp := fun vs H Q _ => ∃ (S0 : Sys) (p L : Addr) (tk : List (List Nat)) (r : Nat), Fam S0 ∧ vs = [.ref S0.f, .ref p, .ref L] ∧ FwAt CF S0 H p tk ∧ H L = some (.lst (txV tk)) ∧ tk.length ≤ 300 ∧ (∀ t ∈ tk, Rem t) ∧ S0.ok H (r + 1300) ∧ ∀ H', Ext H H' → S0.ok H' r → Q (.bl true) H'
theorem ok_kept {cc : Addr} (T : Txt K mg cc) (A : SlA P w K mg base Fam) (KF : K_Follower K mg CF) : Cal P w K mg base 14 "_law_kept" (spKept CF Fam) [] := by
  have Z := T.Z
  have M_size := ok_fwsize (P := P) (w := w) (base := base) T KF
  have M_head := ok_fwhead (P := P) (w := w) (base := base) T KF
  have C__law_head := ok_head13 T A
  refine cal_of T.d__law_kept sc__law_kept (fun vs H Q E h => ?_) (fun f cdv A' outer s H vs Q E hr h => ?_)
  · obtain ⟨S0, p, L, tk, r, _, rfl, _⟩ := h
    rfl
  obtain ⟨S0, p, L, tk, r, hF, rfl, hfw, hL, hlen, hrem, hok, q⟩ := h
  have G := A.good hF
  obtain ⟨dx, hv, hp, hden⟩ := hfw.ex
  refine ⟨_, (pss_cons (ps_set (i := 3) sc__law_kept.nd rfl (Or.inl rfl) (pe_mt0 M_size hr (by omega) (pv 1)))
  (pss_one (ps_ret (pe_and (pe_callB call_isi rfl Z.isinstance (by decide +kernel) (pa_cons (pv 3) (pa_cons (pe_bltn (v := .ty "int") rfl Z.int (by decide +kernel) rfl) pa_nil))) (pe_and (pe_cmpR op_eq (pv 3) (pe_callB call_len_seq rfl Z.len PySem.boot_len (pa_cons (pv 2) pa_nil)) (nomark _)) (pe_one (pe_cmpR (op_eqD hr.units) (pe_mt0 M_head hr (by omega) (pv 1)) (pe_c C__law_head hr (by omega) rfl (pa_cons (pv 0) (pa_cons (pv 2) pa_nil))) (nomark _)))))))), ?_⟩
  refine ⟨_, rfl, p, dx, _, rfl, hp, (fwF_no _ _ _).2.2.1, p, dx, S0.f, _, hv, rfl, hp, ?_⟩
  refine ⟨_, rfl, .int _, .ty "int", _, _, true, rfl, .ty "int", .base (.int _), kit_ty (by decide +kernel), _, rfl, ?_⟩
  refine iteT ?_
  refine ⟨_, rfl, _, rfl, L, _, rfl, .inl (SqL.of hL), rfl, _, rfl, ?_⟩
  rw [decide_eq_true (show V.int (tk.length : Int) = V.int ((txV tk).length : Int) by rw [txV_len])]
  refine iteT ?_
  refine ⟨_, rfl, p, dx, _, rfl, hp, (fwF_no _ _ _).2.2.2, p, dx, S0.f, _, hv, rfl, hp, ?_⟩
  refine ⟨_, rfl, _, rfl, S0, L, tk, r, hF, rfl, hL, hlen, hrem, hok, fun v H1 x1 ok1 d1 => ?_⟩
  obtain ⟨d, a1, a2, a3, a4⟩ := eq_tm G (G.mono x1.gr hden) d1 (Nat.le_trans (bkT_dep hlen) (by decide))
  refine ⟨d, d, a1, a2, a3, a3, ?_⟩
  rw [a4]
  exact q H1 x1 ok1
end

/-! ### two of a kind -/
theorem two_at {α : Type} {f : Nat → α} {g : α → V} {z : Nat} (h : z < 2) : atI [g (f 0), g (f 1)] (z : Int) = some (g (f z)) := by
  match z, h with
  | 0, _ => rfl
  | 1, _ => rfl
theorem two_ix {z : Nat} (h : z < 2) : ixN 2 (z : Int) = some z := by
  match z, h with
  | 0, _ => rfl
  | 1, _ => rfl
def put2 {α : Type} (f : Nat → α) (z : Nat) (x : α) : Nat → α := fun i => if i = z then x else f i
theorem put2_same {α : Type} {f : Nat → α} {z : Nat} {x : α} : put2 f z x z = x := if_pos rfl
theorem put2_ne {α : Type} {f : Nat → α} {z i : Nat} {x : α} (h : i ≠ z) : put2 f z x i = f i := if_neg h
theorem two_set {α : Type} {f : Nat → α} {g : α → V} {z : Nat} {x : α} (h : z < 2) : [g (f 0), g (f 1)].set z (g x) = [g (put2 f z x 0), g (put2 f z x 1)] := by
  match z, h with
  | 0, _ => rfl
  | 1, _ => rfl

/-- the two books and their keepers -/
structure W13 (CK CT : Addr) (S0 : Sys) (H : Hp) (BT KL : Addr) (p t b v bk : Nat → Addr) (bs : Nat → List (List Nat)) : Prop where
  bt : H BT = some (.tup [.ref (bk 0), .ref (bk 1)])
  kl : H KL = some (.lst [.ref (p 0), .ref (p 1)])
  bk : ∀ i, i < 2 → H (bk i) = some (.lst (txV (bs i)))
  ln : ∀ i, i < 2 → (bs i).length ≤ 250
  rm : ∀ i, i < 2 → ∀ x ∈ bs i, Rem x
  kp : ∀ i, i < 2 → KpAt CK CT S0 H (p i) 8 (t i) (b i) (v i) ((bs i).map fun x => (x, []))
theorem W13.ext {K : PySem.W.Frag} {CK CT : Addr} {S0 : Sys} {H H' : Hp} {BT KL : Addr} {p t b v bk : Nat → Addr} {bs : Nat → List (List Nat)} (G : S0.Good K) (h : W13 CK CT S0 H BT KL p t b v bk bs) (x : Ext H H') : W13 CK CT S0 H' BT KL p t b v bk bs :=
  ⟨x.tup h.bt, x.lst h.kl, fun i hi => x.lst (h.bk i hi), h.ln, h.rm, fun i hi => (h.kp i hi).ext G x⟩
theorem leaves_map (bs : List (List Nat)) : (bs.map fun x => ((x, []) : En)).map (leafT 8) = bs.map leafS := by
  rw [List.map_map]
  exact List.map_congr_left fun x _ => leafS_eq x
theorem dp_txV {K : PySem.W.Frag} {H : Hp} : ∀ bs : List (List Nat), (∀ x ∈ bs, Rem x) → ∃ ds, DpAll K H (txV bs) ds ∧ PyData.canLayAll0 ds = true ∧ PyData.depthAll ds = 0 ∧ PyData.eqv (.list ds) (.list []) = decide (bs = [])
  | [], _ => ⟨[], .nil, rfl, rfl, rfl⟩
  | y :: ys, h => by
    obtain ⟨ds, a, b, c, _⟩ := dp_txV ys fun z hz => h z (List.mem_cons_of_mem _ hz)
    have hy : (PyData.str (S y)).canLay0 = true := txt_S (h y List.mem_cons_self).pr
    refine ⟨.str (S y) :: ds, .cons (.str _) a, ?_, ?_, rfl⟩
    · rw [PyData.canLayAll0, b, hy]
      rfl
    · show max 0 (PyData.depthAll ds) = 0
      omega
theorem path_ok {ls : List Tm} (h : ∀ t ∈ ls, WS t ∧ t.dep ≤ 3) (hl : ls.length ≤ 512) (place : Nat) : ∀ t ∈ pathT ls place, OkT t :=
  pathT_mem fun us hu hlu => ⟨topT_ws fun t ht => (h t (hu t ht)).1, Nat.le_trans (topT_dep 9 us (by omega) fun t ht => (h t (hu t ht)).2) (by decide)⟩
theorem grow_ok {ls : List Tm} (h : ∀ t ∈ ls, WS t ∧ t.dep ≤ 3) (hl : ls.length ≤ 512) (old : Nat) : ∀ t ∈ growT ls old, OkT t :=
  growT_mem fun us hu hlu => ⟨topT_ws fun t ht => (h t (hu t ht)).1, Nat.le_trans (topT_dep 9 us (by omega) fun t ht => (h t (hu t ht)).2) (by decide)⟩
theorem leafS_all (bs : List (List Nat)) : ∀ t ∈ bs.map leafS, WS t ∧ t.dep ≤ 3 := fun t ht => by
  obtain ⟨x, _, rfl⟩ := List.mem_map.mp ht
  exact ⟨leafS_ws x, leafS_dep x⟩
section
variable {P : Program} {w : World} {K : PySem.W.Frag} {mg : Str → Option Value} {base : Heap} {Fam : Sys → Prop} {CF CS CG CK CT : Addr}
theorem judged_due (x : List Nat) (tk : List (List Nat)) (at_ : Nat) (ps : List Tm) : judgeS (at_ : Int) (leafS x) tk.length (bkT (tk.map leafS)) (some ps) = decide (tk[at_]? = some x ∧ ps = pathT (tk.map leafS) at_) := by
  have hl : (tk.map leafS).length = tk.length := List.length_map _
  refine decide_eq_decide.mpr ⟨fun ⟨h1, h2, h3, h4⟩ => ?_, fun ⟨h1, h2⟩ => ?_⟩
  · rw [Int.toNat_natCast] at h3 h4
    have hat : at_ < (tk.map leafS).length := by rw [hl]; omega
    have h5 := (Tm.sl.inj h4).2.2
    have h6 := (rise_inj (leafS x) (tk.map leafS) at_ ps hat (by rw [hl]; exact h3)).mp (by rw [hl]; exact h5)
    refine ⟨?_, h6.2⟩
    have h7 := h6.1
    rw [List.getD_eq_getElem?_getD, List.getElem?_map, List.getElem?_eq_getElem (show at_ < tk.length by omega)] at h7
    rw [List.getElem?_eq_getElem (show at_ < tk.length by omega)]
    exact congrArg some (leafS_inj h7).symm
  · obtain ⟨hat, hx⟩ := List.getElem?_eq_some_iff.mp h1
    have hat' : at_ < (tk.map leafS).length := by rw [hl]; exact hat
    have h3 : ps.length = plen at_ tk.length := by rw [h2, pathT_len, hl]
    rw [Int.toNat_natCast]
    refine ⟨by omega, by omega, h3, ?_⟩
    have h6 := (rise_inj (leafS x) (tk.map leafS) at_ ps hat' (by rw [hl]; exact h3)).mpr ⟨?_, h2⟩
    · rw [hl] at h6
      rw [h6]
      unfold bkT
      rw [hl]
    · rw [List.getD_eq_getElem?_getD, List.getElem?_map, h1]
      rfl
def spJudged13 (CF CK CT : Addr) (Fam : Sys → Prop) : Sp := fun vs H Q _ => ∃ (S0 : Sys) (fp L : Addr) (tk : List (List Nat)) (BT KL : Addr) (p t b v bk : Nat → Addr) (bs : Nat → List (List Nat)) (cell : Int) (r : Nat), Fam S0 ∧ vs = [.ref S0.f, .ref fp, .ref L, .ref BT, .ref KL, .int cell] ∧ FwAt CF S0 H fp tk ∧ H L = some (.lst (txV tk)) ∧ tk.length ≤ 250 ∧ (∀ x ∈ tk, Rem x) ∧ W13 CK CT S0 H BT KL p t b v bk bs ∧ S0.ok H (r + 4000) ∧ ∀ H', Ext H H' → S0.ok H' r → Q (.bl true) H'
theorem ok_judged13 {cc : Addr} (T : Txt K mg cc) (A : SlA P w K mg base Fam) (I3 : ∀ {S}, Fam S → S.Inj K) (KF : K_Follower K mg CF) (KS : K_Stands K mg CS) (KK : K_Keeper K mg CK) : Cal P w K mg base 18 "_law_judged" (spJudged13 CF CK CT Fam) [] := by
  have Z := T.Z
  have C__law_draw := ok_draw (P := P) (w := w) (base := base) T
  have M_path := ok_kpath (CT := CT) T A KK
  have M_judge := ok_fwjudgeS T A I3 KF KS
  have C_Stands := ok_stinit (P := P) (w := w) (base := base) KS
  have C__law_leaves := ok_leaves13 T A
  have C__law_path := ok__law_path T A (ok_law_split T) (ok_law_top T A) 10
  refine cal_of T.d__law_judged sc__law_judged (fun vs H Q E h => ?_) (fun f cdv A' outer s H vs Q E hr h => ?_)
  · obtain ⟨S0, fp, L, tk, BT, KL, p, t, b, v, bk, bs, cell, r, _, rfl, _⟩ := h
    rfl
  obtain ⟨S0, fp, L, tk, BT, KL, p, t, b, v, bk, bs, cell, r, hF, rfl, hfw, hL, htl, htr, hW, hok, q⟩ := h
  have G := A.good hF
  have e16 : sizeLine = 16777216 := sizeLine_eq
  refine ⟨_, (pss_cons (ps_set (i := 6) sc__law_judged.nd rfl (Or.inl rfl) (pe_c C__law_draw hr (by omega) rfl (pa_cons (pv 5) (pa_cons pe_int (pa_cons pe_int pa_nil)))))
  (pss_cons (ps_if (pt_cmpR (op_eqD hr.units) (pe_ix ix_tup (pv 3) (pv 6) (fun _ _ => rfl)) (pe_lst pa_nil) (nomark _)) (pss_one (ps_ret pe_bl)) pss_nil)
  (pss_cons (ps_set (i := 7) sc__law_judged.nd rfl (Or.inl rfl) (pe_op op_add pe_int (pe_c C__law_draw hr (by omega) rfl (pa_cons (pv 5) (pa_cons pe_int (pa_cons (pe_callB call_len_seq rfl Z.len PySem.boot_len (pa_cons (pe_ix ix_tup (pv 3) (pv 6) (fun _ _ => rfl)) pa_nil)) pa_nil))))))
  (pss_cons (ps_set (i := 8) sc__law_judged.nd rfl (Or.inl rfl) (pe_c C__law_draw hr (by omega) rfl (pa_cons (pv 5) (pa_cons pe_int (pa_cons (pv 7) pa_nil)))))
  (Evl.pss_cut (ps_set (i := 9) sc__law_judged.nd rfl (Or.inl rfl) (pe_ifExp (pt_cmpR op_gt (pe_c C__law_draw hr (by omega) rfl (pa_cons (pv 5) (pa_cons pe_int (pa_cons pe_int pa_nil)))) pe_int (nomark _)) (pv 8) (pe_c C__law_draw hr (by omega) rfl (pa_cons (pv 5) (pa_cons pe_int (pa_cons pe_int pa_nil))))))
  (pss_cons (ps_set (i := 10) sc__law_judged.nd rfl (Or.inl rfl) (pe_mtd M_path takes0 hr (by omega) (pe_ix ix_list (pv 4) (pv 6) (fun _ _ => rfl)) (pa_cons (pv 8) (pa_cons (pv 7) pa_nil))))
  (pss_cons (ps_set (i := 11) sc__law_judged.nd rfl (Or.inl rfl) (pe_mk C_Stands hr (by omega) rfl (pa_cons (pv 9) (pa_cons (pe_ix ix_list (pe_ix ix_tup (pv 3) (pv 6) (fun _ _ => rfl)) (pv 8) (fun _ _ => rfl)) (pa_cons (pe_sl (i := 0) A.held hr (by omega) rfl (by first | exact Or.inl rfl | exact Or.inr (Or.inl rfl) | exact Or.inr (Or.inr rfl)) (pa_cons pe_str (pa_cons pe_int (pa_cons (pe_sl (i := 0) A.held hr (by omega) rfl (by first | exact Or.inl rfl | exact Or.inr (Or.inl rfl) | exact Or.inr (Or.inr rfl)) (pa_cons pe_str (pa_cons pe_int (pa_cons pe_int pa_nil)))) pa_nil)))) pa_nil)))))
  (Evl.pss_cut (ps_set (i := 12) sc__law_judged.nd rfl (Or.inl rfl) (pe_and (pe_cmpR op_lt (pv 9) (pe_callB call_len_seq rfl Z.len PySem.boot_len (pa_cons (pv 2) pa_nil)) (nomark _)) (pe_one (pe_cmpR op_eq (pe_ix ix_list (pv 2) (pv 9) (fun _ _ => rfl)) (pe_ix ix_list (pe_ix ix_tup (pv 3) (pv 6) (fun _ _ => rfl)) (pv 8) (fun _ _ => rfl)) (nomark _)))))
  (Evl.pss_cut (ps_if (pt_val (pv 12)) (pss_one (ps_set (i := 12) sc__law_judged.nd rfl (Or.inl rfl) (pe_cmpR (op_eqD hr.units) (pv 10) (pe_c C__law_path hr (by omega) rfl (pa_cons (pv 0) (pa_cons (pe_c C__law_leaves hr (by omega) rfl (pa_cons (pv 0) (pa_cons (pv 2) pa_nil))) (pa_cons (pv 9) pa_nil)))) (nomark _)))) pss_nil)
  (pss_cons (ps_set (i := 13) sc__law_judged.nd rfl (Or.inl rfl) (pe_mt M_judge hr (by omega) (pv 1) (pa_cons (pv 11) (pa_cons (pv 10) pa_nil))))
  (pss_one (ps_ret (pe_and (pe_callB call_isi rfl Z.isinstance (by decide +kernel) (pa_cons (pv 13) (pa_cons (pe_bltn (v := .ty "bool") rfl Z.bool (by decide +kernel) rfl) pa_nil))) (pe_one (pe_cmpR op_eq (pv 13) (pv 12) (nomark _)))))))))))))))), ?_⟩
  refine ⟨_, rfl, _, _, _, rfl, by decide, by decide, by decide, fun z0 H1 z00 z01 s1 => ?_⟩
  obtain ⟨k, rfl⟩ := Int.eq_ofNat_of_zero_le z00
  have hk2 : k < 2 := by omega
  have x1 := Ext.of_same s1
  have ok1 := G.keep (kp_same s1) hok
  have hW1 := hW.ext G x1
  refine ⟨_, rfl, _, rfl, BT, _, _, _, rfl, rfl, SqT.of hW1.bt, two_at (g := V.ref) hk2, by show 0 ≤ sizeLine; decide, fun e0 ne0 => ?_⟩
  have x2 := Ext.new (o := .lst []) ne0
  have ok2 := G.keep (Kp.new (o := .lst []) ne0) ok1
  have he0 : upd H1 e0 (.lst []) e0 = some (.lst []) := upd_same
  have hW2 := hW1.ext G x2
  have x02 := x1.trans x2
  generalize upd H1 e0 (.lst []) = H2 at x2 ok2 he0 hW2 x02 ⊢
  have hbl := hW2.ln k hk2
  have hrem := hW2.rm k hk2
  obtain ⟨ds, d1, d2, d3, d4⟩ := dp_txV (K := K) (H := H2) (bs k) hrem
  have d2' : (PyData.list ds).canLay0 = true := d2
  refine ⟨.list ds, .list [], .lst (SqL.of (hW2.bk k hk2)) d1, .lst (SqL.of he0) .nil, shaped_of d2' (by show PyData.depthAll ds + 1 ≤ 64; omega), by decide +kernel, _, rfl, ?_⟩
  rw [d4]
  by_cases hb0 : bs k = []
  · rw [decide_eq_true hb0]
    refine iteT ?_
    exact q H2 x02 (G.less ok2 (by omega))
  rw [decide_eq_false hb0]
  refine iteF ?_
  have hpos : 0 < (bs k).length := List.length_pos_iff.mpr hb0
  refine ⟨_, rfl, _, rfl, _, rfl, BT, _, _, _, rfl, rfl, SqT.of hW2.bt, two_at (g := V.ref) hk2, bk k, _, rfl, .inl (SqL.of (hW2.bk k hk2)), _, _, _, rfl, by decide, by decide, by rw [txV_len]; omega, fun z1 H3 z10 z11 s3 => ⟨_, _, rfl, rfl, ?_⟩⟩
  rw [txV_len] at z11
  obtain ⟨sz, hsz, hsz0, hsz1⟩ : ∃ sz : Nat, (1 : Int) + z1 = (sz : Int) ∧ 0 < sz ∧ sz ≤ (bs k).length := ⟨(1 + z1).toNat, by omega, by omega, by omega⟩
  show gName 7 (V.int (1 + z1)) _ _ _
  rw [hsz]
  refine ⟨_, rfl, _, rfl, _, _, _, rfl, by decide, by decide, by omega, fun z2 H4 z20 z21 s4 => ?_⟩
  obtain ⟨pl, rfl⟩ := Int.eq_ofNat_of_zero_le z20
  have hpl : pl < sz := by omega
  have x4 := x02.trans (Ext.of_same (s3.trans s4))
  have ok4 := G.keep (kp_same (s3.trans s4)) ok2
  refine ⟨fun σ H' => ∃ at_ : Nat, at_ ≤ 300 ∧ σ = [some (.ref S0.f), some (.ref fp), some (.ref L), some (.ref BT), some (.ref KL), some (.int cell), some (.int (k : Int)), some (.int (sz : Int)), some (.int (pl : Int)), some (.int (at_ : Int)), none, none, none, none] ∧ Same H4 H', ?_, ?_⟩
  · refine ⟨_, rfl, _, _, _, rfl, by decide, by decide, by decide, fun z3 H5 _ _ s5 => ⟨_, _, rfl, rfl, _, rfl, ite2 (fun _ => ?_) (fun _ => ?_)⟩⟩
    · exact ⟨_, rfl, pl, by omega, rfl, s5⟩
    · refine ⟨_, rfl, _, _, _, rfl, by decide, by decide, by decide, fun z4 H6 z40 z41 s6 => ?_⟩
      obtain ⟨a6, rfl⟩ := Int.eq_ofNat_of_zero_le z40
      exact ⟨a6, by omega, rfl, s5.trans s6⟩
  rintro σ H5 ⟨at_, hat, rfl, s5⟩
  have x5 := x4.trans (Ext.of_same s5)
  have ok5 := G.keep (kp_same s5) ok4
  have hW5 := hW.ext G x5
  have hkp := hW5.kp k hk2
  obtain ⟨dxk, hpk⟩ := hkp.at_
  have hcnt : cntOf ((bs k).map fun x => ((x, []) : En)).length (some (sz : Int)) = some sz := by
    rw [List.length_map]
    show (if 0 ≤ (sz : Int) ∧ (sz : Int) ≤ ((bs k).length : Int) then some ((sz : Int)).toNat else none) = _
    rw [if_pos (by omega), Int.toNat_natCast]
  refine ⟨_, rfl, _, rfl, KL, _, _, _, rfl, rfl, SqL.of hW5.kl, two_at (g := V.ref) hk2, p k, dxk, _, rfl, hpk, kno "path", _, rfl, _, rfl, S0, p k, 8, t k, b k, v k, _, (pl : Int), some (sz : Int), r + 3000, hF, rfl, hkp, G.less ok5 (by omega), fun c n hc hi hn qp ys H6 x6 nqp hqp ok6 d6 => ?_, fun hout => absurd ⟨sz, hcnt, by omega, by omega⟩ hout⟩
  rw [hcnt] at hc
  cases hc
  obtain rfl : pl = n := by omega
  rw [leaves_map] at d6
  have x06 := x5.trans x6
  have hW6 := hW.ext G x06
  have hok6 : ∀ t ∈ pathT ((( bs k).map leafS).take sz) pl, OkT t := path_ok (fun t ht => leafS_all _ t (List.mem_of_mem_take ht)) (by rw [List.length_take, List.length_map]; omega) pl
  have hlp : (pathT (((bs k).map leafS).take sz) pl).length ≤ 10 := by
    rw [pathT_len]
    exact Nat.le_trans (plen_le 9 _ _ (by rw [List.length_take, List.length_map]; show _ ≤ 512; omega)) (by decide)
  generalize pathT (((bs k).map leafS).take sz) pl = ps at d6 hok6 hlp
  obtain ⟨x, hx⟩ : ∃ x, (bs k)[pl]? = some x := ⟨(bs k)[pl]'(by omega), List.getElem?_eq_getElem _⟩
  have hxr := hW.rm k hk2 x (List.mem_of_getElem? hx)
  have htx := txt_S hxr.pr
  have hxv : (txV (bs k))[pl]? = some (.str (S x)) := by unfold txV; rw [List.getElem?_map, List.getElem?_map, hx]; rfl
  refine ⟨_, rfl, _, rfl, _, rfl, BT, _, _, _, rfl, rfl, SqT.of hW6.bt, two_at (g := V.ref) hk2, _, rfl, bk k, _, _, _, rfl, rfl, SqL.of (hW6.bk k hk2), atI_nat hxv, S0, _, hF, rfl, ok6, S0, _, hF, rfl, ok6, r + 2999, "none", .int 0, .int 0, _, _, rfl, by decide +kernel, ok6, G.int _ ok6, G.int _ ok6, fun v0 H7 x7 ok7 d7 => ?_⟩
  refine ⟨r + 2998, "table", .int 8, nonT, _, _, rfl, by decide +kernel, ok7, G.int _ ok7, d7, fun tv H8 x8 ok8 d8 => ?_⟩
  refine fun gp gdx ngp ngdx nex => ?_
  have y1 : Ext H8 (upd (upd H8 gdx (.own gp)) gp (.ins CS gdx [])) := (Ext.new ngdx).trans (Ext.new (by rw [upd_ne nex.symm]; exact ngp))
  have ky1 : Kp H8 (upd (upd H8 gdx (.own gp)) gp (.ins CS gdx [])) := (Kp.new ngdx).trans (Kp.new (show upd H8 gdx (.own gp) gp = none by rw [upd_ne nex.symm]; exact ngp))
  refine ⟨gp, gdx, (at_ : Int), S x, tv, rfl, upd_same, fun H9 xo kp9 hg => ⟨rfl, ?_⟩⟩
  have x9 := xo.ext y1 ngp
  have ok9 := G.keep (ky1.trans kp9) ok8
  have x69 := (x7.trans x8).trans x9
  have x09 := x06.trans x69
  have hW9 := hW.ext G x09
  have hL9 := x09.lst hL
  -- what is due
  have hfw9 := hfw.ext G x09
  obtain ⟨dxf, hv, hpf, hdenf⟩ := hfw9.ex
  have hd9 := d6.mono G x69.gr
  have fin : ∀ (due : Bool) (H10 : Hp), Ext H9 H10 → S0.ok H10 (r + 1000) → due = decide (tk[at_]? = some x ∧ ps = pathT (tk.map leafS) at_) → ∃ hvf dxf, H10 fp = some (.ins CF dxf (fwF S0.f (tk.length : Int) hvf)) ∧ S0.den H10 hvf (bkT (tk.map leafS)) := fun due H10 x10 _ _ => ⟨hv, dxf, x10.ins hpf, G.mono x10.gr hdenf⟩
  have hlt : (tk.map leafS).length = tk.length := List.length_map _
  refine ⟨fun σ H' => σ = [some (.ref S0.f), some (.ref fp), some (.ref L), some (.ref BT), some (.ref KL), some (.int cell), some (.int (k : Int)), some (.int (sz : Int)), some (.int (pl : Int)), some (.int (at_ : Int)), some (.ref qp), some (.ref gp), some (.bl (decide (tk[at_]? = some x))), none] ∧ H9 = H', ?_, ?_⟩
  · refine ⟨_, rfl, _, rfl, L, _, rfl, .inl (SqL.of hL9), _, _, rfl, rfl, ?_⟩
    refine ⟨_, rfl, ?_⟩
    by_cases c : at_ < tk.length
    · rw [decide_eq_true (show (at_ : Int) < ((txV tk).length : Int) by rw [txV_len]; omega)]
      refine iteT ?_
      have hy : (txV tk)[at_]? = some (.str (S tk[at_])) := by unfold txV; rw [List.getElem?_map, List.getElem?_map, List.getElem?_eq_getElem c]; rfl
      refine ⟨_, rfl, _, rfl, L, _, _, _, rfl, rfl, SqL.of hL9, atI_nat hy, _, rfl, _, rfl, BT, _, _, _, rfl, rfl, SqT.of hW9.bt, two_at (g := V.ref) hk2, _, rfl, bk k, _, _, _, rfl, rfl, SqL.of (hW9.bk k hk2), atI_nat hxv, rfl, ?_⟩
      have e1 : decide (V.str (S tk[at_]) = V.str (S x)) = decide (tk[at_]? = some x) := by
        rw [List.getElem?_eq_getElem c]
        exact decide_eq_decide.mpr ⟨fun z => congrArg some (S_inj (V.str.inj z)), fun z => by rw [Option.some.inj z]⟩
      rw [e1]
      exact ⟨rfl, rfl⟩
    · rw [decide_eq_false (show ¬ (at_ : Int) < ((txV tk).length : Int) by rw [txV_len]; omega)]
      refine iteF ?_
      rw [decide_eq_false (show ¬ tk[at_]? = some x from fun z => c (List.getElem?_eq_some_iff.mp z).1)]
      exact ⟨rfl, rfl⟩
  rintro σ H' ⟨rfl, rfl⟩
  refine ⟨fun σ H' => σ = [some (.ref S0.f), some (.ref fp), some (.ref L), some (.ref BT), some (.ref KL), some (.int cell), some (.int (k : Int)), some (.int (sz : Int)), some (.int (pl : Int)), some (.int (at_ : Int)), some (.ref qp), some (.ref gp), some (.bl (decide (tk[at_]? = some x ∧ ps = pathT (tk.map leafS) at_))), none] ∧ Ext H9 H' ∧ S0.ok H' (r + 1000), ?_, ?_⟩
  · refine ⟨_, rfl, _, rfl, ?_⟩
    by_cases c : tk[at_]? = some x
    · rw [decide_eq_true c]
      refine iteT ?_
      have hat2 := (List.getElem?_eq_some_iff.mp c).1
      refine ⟨_, rfl, _, rfl, _, rfl, _, rfl, S0, L, tk, r + 1500, hF, rfl, hL9, by omega, htr, G.less ok9 (by omega), fun ql yl H10 x10 nql hql ok10 d10 => ?_⟩
      have ct := costT_le (tk.map leafS).length
      refine ⟨_, rfl, S0, ql, yl, _, at_, r + 1000, hF, rfl, SqL.of hql, d10, by decide, by rw [hlt]; show _ ≤ 512; omega, by omega, by omega, G.less ok10 (by omega), fun qz yz H11 x11 nqz hqz ok11 d11 => ?_⟩
      have x911 := x10.trans x11
      have hok11 : ∀ t ∈ pathT (tk.map leafS) at_, OkT t := path_ok (leafS_all tk) (by omega) at_
      obtain ⟨es1, es2, b1, b2, b3, b4, b5, b6, b7⟩ := DenL.apart (K := K) (n := 20) (I3 hF) ok11 (hd9.mono G x911.gr) d11 (fun t ht u hu => (hok6 t ht).1.cmp (hok11 u hu).1) (fun t ht => (hok6 t ht).2) (fun t ht => (hok11 t ht).2) (fun t ht => (hok6 t ht).1.cmp (hok6 t ht).1) (fun t ht => (hok11 t ht).1.cmp (hok11 t ht).1)
      have hqp11 := (x69.trans x911).lst hqp
      have c1 : (PyData.list es1).canLay0 = true := b3
      have c2 : (PyData.list es2).canLay0 = true := b4
      refine ⟨.list es1, .list es2, .lst (SqL.of hqp11) b1, .lst (SqL.of hqz) b2, shaped_of c1 (by show PyData.depthAll es1 + 1 ≤ 64; omega), shaped_of c2 (by show PyData.depthAll es2 + 1 ≤ 64; omega), ?_⟩
      have e2 : PyData.eqv (.list es1) (.list es2) = decide (tk[at_]? = some x ∧ ps = pathT (tk.map leafS) at_) := by
        rw [PyData.eqv, b7]
        exact decide_eq_decide.mpr ⟨fun z => ⟨c, z⟩, fun z => z.2⟩
      rw [e2]
      exact ⟨rfl, x911, G.less ok11 (by omega)⟩
    · rw [decide_eq_false c]
      refine iteF ?_
      rw [decide_eq_false (show ¬ (tk[at_]? = some x ∧ ps = pathT (tk.map leafS) at_) from fun z => c z.1)]
      exact ⟨rfl, Ext.refl _, G.less ok9 (by omega)⟩
  rintro σ H10 ⟨rfl, x10, ok10⟩
  have hdep : WS (topT (tk.map leafS)) := bkT_ws tk
  obtain ⟨m', Y', eY, hY1, hY2⟩ := bkT_bk (bs := tk) (by omega)
  have x910 := x69.trans x10
  refine ⟨_, rfl, fp, dxf, _, rfl, x10.ins hpf, (fwF_no _ _ _).2.1, _, rfl, _, rfl, S0, fp, dxf, gp, gdx, tk.length, hv, (at_ : Int), S x, tv, _, m', Y', .ref qp, some ps, r, hF, rfl, x10.ins hpf, x10.ins hg, htx, G.mono (x9.trans x10).gr d8, .tab _ .non, by show max 0 (max 0 0 + 1) + 1 ≤ 18; decide, by omega, by rw [← eY]; exact G.mono x10.gr hdenf, hY1, hY2, ⟨qp, ys, rfl, x910.lst hqp, d6.mono G x910.gr, by omega, hok6⟩, G.less ok10 (by omega), fun H11 x11 ok11 => ?_⟩
  rw [← eY]
  have ej := judged_due x tk at_ ps
  show gName 13 (V.bl (judgeS (at_ : Int) (leafS x) tk.length (bkT (tk.map leafS)) (some ps))) _ _ _
  rw [ej]
  generalize decide (tk[at_]? = some x ∧ ps = pathT (List.map leafS tk) at_) = due
  refine ⟨_, rfl, .bl _, .ty "bool", _, _, true, rfl, .ty "bool", .base (.bl _), kit_ty (by decide +kernel), _, rfl, ?_⟩
  refine iteT ?_
  refine ⟨_, rfl, _, rfl, rfl, ?_⟩
  rw [decide_eq_true rfl]
  exact q H11 ((x09.trans x10).trans x11) ok11
end

section
variable {P : Program} {w : World} {K : PySem.W.Frag} {mg : Str → Option Value} {base : Heap} {Fam : Sys → Prop} {CF CS CG CK CT : Addr}
theorem W13.extO {S0 : Sys} {H H' : Hp} {BT KL : Addr} {p t b v bk : Nat → Addr} {bs : Nat → List (List Nat)} {fp dxf : Addr} {n : Int} {hv : V} (G : S0.Good K) (hp : H fp = some (.ins CF dxf (fwF S0.f n hv))) (h : W13 CK CT S0 H BT KL p t b v bk bs) (x : ExtO fp H H') : W13 CK CT S0 H' BT KL p t b v bk bs := by
  have nl : ∀ {a : Addr} {xs : List V}, H a = some (.lst xs) → H' a = some (.lst xs) := fun {a xs} e => x.lst (fun z => by rw [z, hp] at e; cases e) e
  have nt : ∀ {a : Addr} {xs : List V}, H a = some (.tup xs) → H' a = some (.tup xs) := fun {a xs} e => x.keep _ _ (fun z => by rw [z, hp] at e; cases e) e fun _ z => nomatch z
  have nd : ∀ {a : Addr} {ks : List (Key × V)}, H a = some (.dK ks) → H' a = some (.dK ks) := fun {a ks} e => x.keep _ _ (fun z => by rw [z, hp] at e; cases e) e fun _ z => nomatch z
  refine ⟨nt h.bt, nl h.kl, fun i hi => nl (h.bk i hi), h.ln, h.rm, fun i hi => ?_⟩
  obtain ⟨⟨dx, h1⟩, h2, ⟨qs, h3, h4, h5⟩, ⟨ls, h6, h7⟩, h8, h9, h10⟩ := h.kp i hi
  refine ⟨⟨dx, x.ins (fun z => ?_) h1⟩, nl h2, ⟨qs, nl h3, h4, fun i q e a c => ?_⟩, ⟨ls, nl h6, h7.mono G x.gr⟩, h8, h9, h10⟩
  · rw [z, hp] at h1
    injection h1 with h1
    injection h1 with _ _ h1
    exact absurd (congrArg List.length h1) (by show (3 : Nat) ≠ 5; decide)
  · obtain ⟨d, kv, g1, ⟨⟨dx', g2⟩, g3, g4⟩⟩ := h5 i q e a c
    refine ⟨d, kv, g1, ⟨⟨dx', x.ins (fun z => ?_) g2⟩, nd g3, g4⟩⟩
    rw [z, hp] at g2
    injection g2 with g2
    injection g2 with _ _ g2
    injection g2 with _ g2
    injection g2 with g2 _
    injection g2 with g2 _
    exact absurd g2 (by decide +kernel)
def txD (bs : List (List Nat)) : List PyData := bs.map fun x => .str (S x)
theorem txD_at {H : Hp} : ∀ bs : List (List Nat), DpAll K H (txV bs) (txD bs)
  | [] => .nil
  | x :: r => .cons (.str _) (txD_at r)
theorem txD_lay : ∀ bs : List (List Nat), (∀ x ∈ bs, Rem x) → PyData.canLayAll0 (txD bs) = true ∧ PyData.depthAll (txD bs) = 0
  | [], _ => ⟨rfl, rfl⟩
  | x :: r, h => by
    obtain ⟨a, b⟩ := txD_lay r fun z hz => h z (List.mem_cons_of_mem _ hz)
    have hy : (PyData.str (S x)).canLay0 = true := txt_S (h x List.mem_cons_self).pr
    refine ⟨?_, ?_⟩
    · show PyData.canLayAll0 (.str (S x) :: txD r) = true
      rw [PyData.canLayAll0, a, hy]
      rfl
    · show max 0 (PyData.depthAll (txD r)) = 0
      omega
theorem txD_eqv : ∀ as bs : List (List Nat), PyData.eqvAll (txD as) (txD bs) = decide (as = bs)
  | [], [] => by rw [show txD [] = [] from rfl, PyData.eqvAll]; rfl
  | [], b :: r => by rw [show txD (b :: r) = .str (S b) :: txD r from rfl, show txD [] = [] from rfl, PyData.eqvAll]; rfl
  | a :: r, [] => by rw [show txD (a :: r) = .str (S a) :: txD r from rfl, show txD [] = [] from rfl, PyData.eqvAll]; rfl
  | a :: r, b :: q => by
    rw [show txD (a :: r) = .str (S a) :: txD r from rfl, show txD (b :: q) = .str (S b) :: txD q from rfl, PyData.eqvAll, txD_eqv r q, PyData.eqv]
    by_cases h : a = b
    · subst h
      simp
    · have h2 : ¬ S a = S b := fun z => h (S_inj z)
      simp [h, h2]
def spOffered13 (CF CK CT : Addr) (Fam : Sys → Prop) : Sp := fun vs H Q _ => ∃ (S0 : Sys) (fp L : Addr) (tk : List (List Nat)) (BT KL : Addr) (p t b v bk : Nat → Addr) (bs : Nat → List (List Nat)) (cell : Int) (r : Nat), Fam S0 ∧ vs = [.ref S0.f, .ref fp, .ref L, .ref BT, .ref KL, .int cell] ∧ FwAt CF S0 H fp tk ∧ H L = some (.lst (txV tk)) ∧ tk.length ≤ 250 ∧ (∀ x ∈ tk, Rem x) ∧ W13 CK CT S0 H BT KL p t b v bk bs ∧ S0.ok H (r + 6000) ∧
  ∀ L' tk' H', ExtO fp H H' → S0.ok H' r → FwAt CF S0 H' fp tk' → H' L' = some (.lst (txV tk')) → tk'.length ≤ 250 → (∀ x ∈ tk', Rem x) → Q (.ref L') H'
theorem ok_offered13 {cc : Addr} (T : Txt K mg cc) (A : SlA P w K mg base Fam) (I3 : ∀ {S}, Fam S → S.Inj K) (KF : K_Follower K mg CF) (KG : K_Grows K mg CG) (KK : K_Keeper K mg CK) : Cal P w K mg base 18 "_law_offered" (spOffered13 CF CK CT Fam) [] := by
  have Z := T.Z
  have C__law_draw := ok_draw (P := P) (w := w) (base := base) T
  have M_growth := ok_kgrow (CT := CT) T A KK
  have M_head := ok_khead (CT := CT) T A KK
  have M_take := ok_fwtake T A I3 KF KG
  have C__law_bent := ok_bent13 T A
  have C__law_leaves := ok_leaves13 T A
  have C__law_growth := ok__law_growth T A (ok_law_split T) (ok_law_top T A) 10
  refine cal_of T.d__law_offered sc__law_offered (fun vs H Q E h => ?_) (fun f cdv A' outer s H vs Q E hr h => ?_)
  · obtain ⟨S0, fp, L, tk, BT, KL, p, t, b, v, bk, bs, cell, r, _, rfl, _⟩ := h
    rfl
  obtain ⟨S0, fp, L, tk, BT, KL, p, t, b, v, bk, bs, cell, r, hF, rfl, hfw, hL, htl, htr, hW, hok, q⟩ := h
  have G := A.good hF
  have e16 : sizeLine = 16777216 := sizeLine_eq
  refine ⟨_, (pss_cons (ps_set (i := 6) sc__law_offered.nd rfl (Or.inl rfl) (pe_c C__law_draw hr (by omega) rfl (pa_cons (pv 5) (pa_cons pe_int (pa_cons pe_int pa_nil)))))
  (pss_cons (ps_set (i := 7) sc__law_offered.nd rfl (Or.inl rfl) (pe_c C__law_draw hr (by omega) rfl (pa_cons (pv 5) (pa_cons pe_int (pa_cons (pe_op op_add (pe_callB call_len_seq rfl Z.len PySem.boot_len (pa_cons (pe_ix ix_tup (pv 3) (pv 6) (fun _ _ => rfl)) pa_nil)) pe_int) pa_nil)))))
  (Evl.pss_cut (ps_set (i := 8) sc__law_offered.nd rfl (Or.inl rfl) (pe_ifExp (PW.pt (pw_or (pt_cmpR (op_eqD hr.units) (pv 2) (pe_lst pa_nil) (nomark _)) (pw_or1 (pt_cmpR op_gt (pe_c C__law_draw hr (by omega) rfl (pa_cons (pv 5) (pa_cons pe_int (pa_cons pe_int pa_nil)))) pe_int (nomark _))))) (pv 7) (pe_c C__law_draw hr (by omega) rfl (pa_cons (pv 5) (pa_cons pe_int (pa_cons pe_int pa_nil))))))
  (Evl.pss_cut (ps_set (i := 9) sc__law_offered.nd rfl (Or.inl rfl) (pe_ifExp (pt_cmpR op_gt (pe_c C__law_draw hr (by omega) rfl (pa_cons (pv 5) (pa_cons pe_int (pa_cons pe_int pa_nil)))) pe_int (nomark _)) (pe_callB (call_min2 rfl) rfl Z.min (by decide +kernel) (pa_cons (pe_callB call_len_seq rfl Z.len PySem.boot_len (pa_cons (pv 2) pa_nil)) (pa_cons (pv 7) pa_nil))) (pe_c C__law_draw hr (by omega) rfl (pa_cons (pv 5) (pa_cons pe_int (pa_cons (pe_op op_add (pv 7) pe_int) pa_nil))))))
  (Evl.pss_cut (ps_set (i := 10) sc__law_offered.nd rfl (Or.inl rfl) (pe_ifExp (pt_cmpR op_eq (pe_c C__law_draw hr (by omega) rfl (pa_cons (pv 5) (pa_cons pe_int (pa_cons pe_int pa_nil)))) pe_int (nomark _)) (pe_op op_sub pe_int (pv 6)) (pv 6)))
  (pss_cons (ps_set (i := 11) sc__law_offered.nd rfl (Or.inl rfl) (pe_callB (call_min2 rfl) rfl Z.min (by decide +kernel) (pa_cons (pv 7) (pa_cons (pe_callB call_len_seq rfl Z.len PySem.boot_len (pa_cons (pe_ix ix_tup (pv 3) (pv 10) (fun _ _ => rfl)) pa_nil)) pa_nil))))
  (pss_cons (ps_set (i := 12) sc__law_offered.nd rfl (Or.inl rfl) (pe_c C__law_bent hr (by omega) rfl (pa_cons (pv 0) (pa_cons (pe_mtd M_growth takes0 hr (by omega) (pe_ix ix_list (pv 4) (pv 10) (fun _ _ => rfl)) (pa_cons (pe_callB (call_min2 rfl) rfl Z.min (by decide +kernel) (pa_cons (pv 9) (pa_cons (pv 11) pa_nil))) (pa_cons (pv 11) pa_nil))) (pa_cons (pv 5) pa_nil)))))
  (pss_cons (ps_set (i := 13) sc__law_offered.nd rfl (Or.inl rfl) (pe_mt M_take hr (by omega) (pv 1) (pa_cons (pv 8) (pa_cons (pe_mtd M_head takes0 hr (by omega) (pe_ix ix_list (pv 4) (pv 6) (fun _ _ => rfl)) (pa_cons (pv 7) pa_nil)) (pa_cons (pv 12) pa_nil)))))
  (Evl.pss_cut (ps_set (i := 14) sc__law_offered.nd rfl (Or.inl rfl) (pe_and (pe_cmpR op_eq (pv 8) (pv 7) (nomark _)) (pe_and (pe_cmpR op_ge (pv 7) (pe_callB call_len_seq rfl Z.len PySem.boot_len (pa_cons (pv 2) pa_nil)) (nomark _)) (pe_and (pe_cmpR (op_eqD hr.units) (pe_slice sl_list (pe_ix ix_tup (pv 3) (pv 6) (fun _ _ => rfl)) po_none (po_some (pe_callB call_len_seq rfl Z.len PySem.boot_len (pa_cons (pv 2) pa_nil)))) (pv 2) (nomark _)) (pe_one (pe_callB call_isi rfl Z.isinstance (by decide +kernel) (pa_cons (pv 12) (pa_cons (pe_bltn (v := .ty "list") rfl Z.list (by decide +kernel) rfl) pa_nil))))))))
  (Evl.pss_cut (ps_if (pt_val (pv 14)) (pss_one (ps_set (i := 14) sc__law_offered.nd rfl (Or.inl rfl) (pe_cmpR (op_eqD hr.units) (pv 12) (pe_c C__law_growth hr (by omega) rfl (pa_cons (pv 0) (pa_cons (pe_c C__law_leaves hr (by omega) rfl (pa_cons (pv 0) (pa_cons (pe_slice sl_list (pe_ix ix_tup (pv 3) (pv 6) (fun _ _ => rfl)) po_none (po_some (pv 7))) pa_nil))) (pa_cons (pe_callB call_len_seq rfl Z.len PySem.boot_len (pa_cons (pv 2) pa_nil)) pa_nil)))) (nomark _)))) pss_nil)
  (pss_cons (ps_if (PW.pt (pw_or (pt_not (pt_val (pe_callB call_isi rfl Z.isinstance (by decide +kernel) (pa_cons (pv 13) (pa_cons (pe_bltn (v := .ty "bool") rfl Z.bool (by decide +kernel) rfl) pa_nil))))) (pw_or1 (pt_cmpR op_ne (pv 13) (pv 14) (nomark _))))) (pss_one (ps_ret pe_non)) pss_nil)
  (pss_one (ps_ret (pe_ifExp (pt_val (pv 14)) (pe_slice sl_list (pe_ix ix_tup (pv 3) (pv 6) (fun _ _ => rfl)) po_none (po_some (pv 7))) (pv 2))))))))))))))), ?_⟩
  refine ⟨_, rfl, _, _, _, rfl, by decide, by decide, by decide, fun z0 H1 z00 z01 s1 => ?_⟩
  obtain ⟨k, rfl⟩ := Int.eq_ofNat_of_zero_le z00
  have hk2 : k < 2 := by omega
  have x1 := Ext.of_same s1
  have ok1 := G.keep (kp_same s1) hok
  have hW1 := hW.ext G x1
  have hbl := hW1.ln k hk2
  have hrem := hW1.rm k hk2
  refine ⟨_, rfl, _, rfl, _, rfl, BT, _, _, _, rfl, rfl, SqT.of hW1.bt, two_at (g := V.ref) hk2, bk k, _, rfl, .inl (SqL.of (hW1.bk k hk2)), _, _, rfl, rfl, _, _, _, rfl, by decide, by decide, by rw [txV_len]; omega, fun z1 H2 z10 z11 s2 => ?_⟩
  rw [txV_len] at z11
  obtain ⟨sz, rfl⟩ := Int.eq_ofNat_of_zero_le z10
  have hsz : sz ≤ (bs k).length := by omega
  have x2 := x1.trans (Ext.of_same s2)
  have ok2 := G.keep (kp_same s2) ok1
  refine ⟨fun σ H' => ∃ told : Nat, σ = [some (.ref S0.f), some (.ref fp), some (.ref L), some (.ref BT), some (.ref KL), some (.int cell), some (.int (k : Int)), some (.int (sz : Int)), some (.int (told : Int)), none, none, none, none, none, none] ∧ Ext H H' ∧ S0.ok H' (r + 6000) ∧ told ≤ 300 ∧ (tk = [] → told = sz), ?_, ?_⟩
  · refine ⟨_, rfl, by show 0 ≤ sizeLine; decide, fun e0 ne0 => ?_⟩
    have x3 := x2.trans (Ext.new (o := .lst []) ne0)
    have ok3 := G.keep (Kp.new (o := .lst []) ne0) ok2
    have he0 : upd H2 e0 (.lst []) e0 = some (.lst []) := upd_same
    generalize upd H2 e0 (.lst []) = H3 at x3 ok3 he0 ⊢
    obtain ⟨ds, d1, d2, d3, d4⟩ := dp_txV (K := K) (H := H3) tk htr
    have d2' : (PyData.list ds).canLay0 = true := d2
    refine ⟨.list ds, .list [], .lst (SqL.of (x3.lst hL)) d1, .lst (SqL.of he0) .nil, shaped_of d2' (by show PyData.depthAll ds + 1 ≤ 64; omega), by decide +kernel, _, rfl, ?_⟩
    rw [d4]
    by_cases c : tk = []
    · rw [decide_eq_true c]
      refine iteT ?_
      refine iteT ?_
      exact ⟨_, rfl, sz, rfl, x3, ok3, by omega, fun _ => rfl⟩
    · rw [decide_eq_false c]
      refine iteF ?_
      refine ⟨_, rfl, _, _, _, rfl, by decide, by decide, by decide, fun z3 H4 _ _ s4 => ⟨_, _, rfl, rfl, _, rfl, ite2 (fun _ => ?_) (fun _ => ?_)⟩⟩
      · exact ⟨_, rfl, sz, rfl, x3.trans (Ext.of_same s4), G.keep (kp_same s4) ok3, by omega, fun _ => rfl⟩
      · refine ⟨_, rfl, _, _, _, rfl, by decide, by decide, by decide, fun z5 H5 z50 z51 s5 => ?_⟩
        obtain ⟨t5, rfl⟩ := Int.eq_ofNat_of_zero_le z50
        exact ⟨t5, rfl, (x3.trans (Ext.of_same s4)).trans (Ext.of_same s5), G.keep (kp_same (s4.trans s5)) ok3, by omega, fun h => absurd h c⟩
  rintro σ H3 ⟨told, rfl, x3, ok3, htold, ht0⟩
  refine ⟨fun σ H' => ∃ old : Nat, σ = [some (.ref S0.f), some (.ref fp), some (.ref L), some (.ref BT), some (.ref KL), some (.int cell), some (.int (k : Int)), some (.int (sz : Int)), some (.int (told : Int)), some (.int (old : Int)), none, none, none, none, none] ∧ Ext H H' ∧ S0.ok H' (r + 6000) ∧ old ≤ sz, ?_, ?_⟩
  · refine ⟨_, rfl, _, _, _, rfl, by decide, by decide, by decide, fun z3 H4 _ _ s4 => ⟨_, _, rfl, rfl, _, rfl, ite2 (fun _ => ?_) (fun _ => ?_)⟩⟩
    · refine ⟨_, rfl, L, _, rfl, .inl (SqL.of (s4 _ _ (x3.lst hL))), _, rfl, _, _, rfl, ?_⟩
      rw [txV_len]
      by_cases c : (sz : Int) < (tk.length : Int)
      · rw [if_pos c]
        exact ⟨sz, rfl, x3.trans (Ext.of_same s4), G.keep (kp_same s4) ok3, Nat.le_refl _⟩
      · rw [if_neg c]
        exact ⟨tk.length, rfl, x3.trans (Ext.of_same s4), G.keep (kp_same s4) ok3, by omega⟩
    · refine ⟨_, rfl, _, rfl, _, _, rfl, rfl, _, _, _, rfl, by decide, by decide, by omega, fun z5 H5 z50 z51 s5 => ?_⟩
      obtain ⟨o5, rfl⟩ := Int.eq_ofNat_of_zero_le z50
      exact ⟨o5, rfl, (x3.trans (Ext.of_same s4)).trans (Ext.of_same s5), G.keep (kp_same (s4.trans s5)) ok3, by omega⟩
  rintro σ H4 ⟨old, rfl, x4, ok4, hold⟩
  refine ⟨fun σ H' => ∃ j : Nat, σ = [some (.ref S0.f), some (.ref fp), some (.ref L), some (.ref BT), some (.ref KL), some (.int cell), some (.int (k : Int)), some (.int (sz : Int)), some (.int (told : Int)), some (.int (old : Int)), some (.int (j : Int)), none, none, none, none] ∧ Ext H H' ∧ S0.ok H' (r + 6000) ∧ j < 2, ?_, ?_⟩
  · refine ⟨_, rfl, _, _, _, rfl, by decide, by decide, by decide, fun z3 H5 _ _ s5 => ⟨rfl, _, rfl, ite2 (fun _ => ?_) (fun _ => ?_)⟩⟩
    · refine ⟨_, rfl, _, _, rfl, rfl, 1 - k, ?_, x4.trans (Ext.of_same s5), G.keep (kp_same s5) ok4, by omega⟩
      rw [show ((1 - k : Nat) : Int) = 1 - (k : Int) by omega]
      rfl
    · exact ⟨_, rfl, k, rfl, x4.trans (Ext.of_same s5), G.keep (kp_same s5) ok4, hk2⟩
  rintro σ H5 ⟨j, rfl, x5, ok5, hj⟩
  have hW5 := hW.ext G x5
  have hjl := hW5.ln j hj
  obtain ⟨last, hlast1, hlast2, hlast⟩ : ∃ last : Nat, last ≤ sz ∧ last ≤ (bs j).length ∧ (if ((bs j).length : Int) < (sz : Int) then ((bs j).length : Int) else (sz : Int)) = (last : Int) := by
    by_cases c : ((bs j).length : Int) < (sz : Int)
    · exact ⟨(bs j).length, by omega, by omega, if_pos c⟩
    · exact ⟨sz, by omega, by omega, if_neg c⟩
  obtain ⟨ol, hol, hole⟩ : ∃ ol : Nat, ol ≤ last ∧ (if (last : Int) < (old : Int) then (last : Int) else (old : Int)) = (ol : Int) := by
    by_cases c : (last : Int) < (old : Int)
    · exact ⟨last, by omega, if_pos c⟩
    · exact ⟨old, by omega, if_neg c⟩
  have hkj := hW5.kp j hj
  obtain ⟨dxj, hpj⟩ := hkj.at_
  refine ⟨_, rfl, _, rfl, _, rfl, BT, _, _, _, rfl, rfl, SqT.of hW5.bt, two_at (g := V.ref) hj, bk j, _, rfl, .inl (SqL.of (hW5.bk j hj)), _, _, rfl, ?_⟩
  rw [txV_len]
  show gName 11 (V.int (if ((bs j).length : Int) < (sz : Int) then ((bs j).length : Int) else (sz : Int))) _ _ _
  rw [hlast]
  have hcnt : cntOf ((bs j).map fun x => ((x, []) : En)).length (some (last : Int)) = some last := by
    rw [List.length_map]
    show (if 0 ≤ (last : Int) ∧ (last : Int) ≤ ((bs j).length : Int) then some ((last : Int)).toNat else none) = _
    rw [if_pos (by omega), Int.toNat_natCast]
  refine ⟨_, rfl, _, rfl, _, rfl, KL, _, _, _, rfl, rfl, SqL.of hW5.kl, two_at (g := V.ref) hj, p j, dxj, _, rfl, hpj, kno "growth", ?_⟩
  refine ⟨_, rfl, _, rfl, _, _, rfl, ?_⟩
  rw [hole]
  refine ⟨_, rfl, S0, p j, 8, t j, b j, v j, _, (ol : Int), some (last : Int), r + 5000, hF, rfl, hkj, G.less ok5 (by omega), fun c n hc hi hn qp ys H6 x6 nqp hqp ok6 d6 => ?_, fun hout => absurd ⟨last, hcnt, by omega, by omega⟩ hout⟩
  rw [hcnt] at hc
  cases hc
  obtain rfl : ol = n := by omega
  rw [leaves_map] at d6
  have hok6 : ∀ t ∈ growT (((bs j).map leafS).take last) ol, OkT t := grow_ok (fun t ht => leafS_all _ t (List.mem_of_mem_take ht)) (by rw [List.length_take, List.length_map]; omega) ol
  have hlp : (growT (((bs j).map leafS).take last) ol).length ≤ 50 := by
    exact Nat.le_trans (growT_len 9 _ _ (by rw [List.length_take, List.length_map]; show _ ≤ 512; omega)) (by decide)
  generalize growT (((bs j).map leafS).take last) ol = gs at d6 hok6 hlp
  refine ⟨_, rfl, S0, qp, ys, gs, cell, r + 4900, hF, rfl, hqp, d6, hlp, hok6, G.less ok6 (by omega), fun pv pp H7 x7 ok7 hpap htup => ?_⟩
  have x07 := (x5.trans x6).trans x7
  have hW7 := hW.ext G x07
  have hfw7 := hfw.ext G x07
  obtain ⟨dxf, hv, hpf, hdenf⟩ := hfw7.ex
  have hkk := hW7.kp k hk2
  obtain ⟨dxk, hpk⟩ := hkk.at_
  have hcntk : cntOf ((bs k).map fun x => ((x, []) : En)).length (some (sz : Int)) = some sz := by
    rw [List.length_map]
    show (if 0 ≤ (sz : Int) ∧ (sz : Int) ≤ ((bs k).length : Int) then some ((sz : Int)).toNat else none) = _
    rw [if_pos (by omega), Int.toNat_natCast]
  refine ⟨_, rfl, fp, dxf, _, rfl, hpf, (fwF_no _ _ _).1, _, rfl, _, rfl, _, rfl, KL, _, _, _, rfl, rfl, SqL.of hW7.kl, two_at (g := V.ref) hk2, p k, dxk, _, rfl, hpk, kno "head", ?_⟩
  refine ⟨_, rfl, S0, p k, 8, t k, b k, v k, _, some (sz : Int), r + 3000, hF, rfl, hkk, G.less ok7 (by omega), fun c hc u H8 x8 ok8 d8 => ?_, fun hno => absurd (hno.symm.trans hcntk) (by simp)⟩
  rw [hcntk] at hc
  cases hc
  rw [leaves_map, ← List.map_take] at d8
  have hus : ((bs k).take sz).length = sz := by rw [List.length_take]; omega
  have hul : (((bs k).take sz).map leafS).length = sz := by rw [List.length_map, hus]
  have hurem : ∀ x ∈ (bs k).take sz, Rem x := fun x hx => hrem x (List.mem_of_mem_take hx)
  have hd8 : S0.den H8 u (bkT (((bs k).take sz).map leafS)) := by
    unfold bkT
    rw [hul]
    exact d8
  have x08 := x07.trans x8
  refine ⟨_, rfl, S0, fp, dxf, tk.length, hv, _, told, u, _, pv, pp, r + 2900, hF, rfl, x8.ins hpf, G.mono x8.gr hdenf, bkT_bk (by omega), by omega, hd8, bkT_bk (by omega), hpap.ext G x8, G.less ok8 (by omega), fun H9 xo ok9 hp9 => ?_⟩
  have hlt : (tk.map leafS).length = tk.length := List.length_map _
  have hTK : takeB tk.length told (bkT (tk.map leafS)) (bkT (((bs k).take sz).map leafS)) pp = decide ((told = sz ∧ tk.length ≤ sz ∧ (bs k).take tk.length = tk) ∧ pp = some (growT (((bs k).take sz).map leafS) tk.length)) := by
    have e := take_due (((bs k).take sz).map leafS) (tk.map leafS) told pp (fun h => by rw [hul]; exact ht0 (List.map_eq_nil_iff.mp h))
    rw [hlt, hul] at e
    rw [e]
    have e2 : tk.length ≤ sz → ((((bs k).take sz).map leafS).take tk.length = tk.map leafS ↔ (bs k).take tk.length = tk) := fun h => by
      rw [← List.map_take, List.take_take, Nat.min_eq_left h]
      exact List.map_inj_right fun _ _ => leafS_inj
    exact decide_eq_decide.mpr ⟨fun ⟨h1, h2, h3, h4⟩ => ⟨⟨h1, h2, (e2 h2).mp h3⟩, h4⟩, fun ⟨⟨h1, h2, h3⟩, h4⟩ => ⟨h1, h2, (e2 h2).mpr h3, h4⟩⟩
  rw [hTK] at hp9
  show gName 13 (V.bl (takeB tk.length told (bkT (tk.map leafS)) (bkT (((bs k).take sz).map leafS)) pp)) _ _ _
  rw [hTK]
  have hW8 := hW.ext G x08
  have hW9 : W13 CK CT S0 H9 BT KL p t b v bk bs := hW8.extO G (x8.ins hpf) xo
  have hL9 : H9 L = some (.lst (txV tk)) := xo.lst (fun z => by have e := x07.lst hL; rw [z, hpf] at e; cases e) (x08.lst hL)
  generalize hD : decide ((told = sz ∧ tk.length ≤ sz ∧ (bs k).take tk.length = tk) ∧ pp = some (growT (((bs k).take sz).map leafS) tk.length)) = due at hp9 ⊢
  have hpp : (∃ a ys ps, pp = some ps ∧ pv = .ref a ∧ H9 a = some (.lst ys) ∧ DenL S0 H9 ys ps ∧ ps.length ≤ 100 ∧ ∀ t ∈ ps, WS t ∧ t.dep ≤ 20) ∨ (pp = none ∧ ∃ q ws, pv = .ref q ∧ H9 q = some (.tup ws)) := by
    cases pp with
    | some ps =>
      obtain ⟨a, ys, rfl, ha, hd, hl, hp⟩ := hpap
      exact .inl ⟨a, ys, ps, rfl, rfl, xo.lst (fun z => by rw [z, hpf] at ha; cases ha) (x8.lst ha), (hd.mono G x8.gr).mono G xo.gr, hl, hp⟩
    | none =>
      obtain ⟨q0, ws, rfl, hq0⟩ := htup rfl
      exact .inr ⟨rfl, q0, ws, rfl, xo.keep _ _ (fun z => by rw [z, hpf] at hq0; cases hq0) (x8.tup hq0) fun _ z => nomatch z⟩
  refine ⟨fun σ H' => σ = [some (.ref S0.f), some (.ref fp), some (.ref L), some (.ref BT), some (.ref KL), some (.int cell), some (.int (k : Int)), some (.int (sz : Int)), some (.int (told : Int)), some (.int (old : Int)), some (.int (j : Int)), some (.int (last : Int)), some pv, some (.bl due), some (.bl (decide ((told = sz ∧ tk.length ≤ sz ∧ (bs k).take tk.length = tk) ∧ pp.isSome = true)))] ∧ Ext H9 H' ∧ S0.ok H' (r + 2890), ?_, ?_⟩
  · refine ⟨_, rfl, _, rfl, rfl, ?_⟩
    have c9 := Ext.refl H9
    by_cases c1 : told = sz
    · rw [decide_eq_true (show V.int (told : Int) = V.int (sz : Int) by rw [c1])]
      refine ⟨_, rfl, ?_⟩
      refine iteT ?_
      refine ⟨_, rfl, _, rfl, L, _, rfl, .inl (SqL.of hL9), _, _, rfl, rfl, ?_⟩
      rw [txV_len]
      refine ⟨_, rfl, ?_⟩
      by_cases c2 : tk.length ≤ sz
      · rw [decide_eq_true (show (tk.length : Int) ≤ (sz : Int) by omega)]
        refine iteT ?_
        refine ⟨_, rfl, _, rfl, BT, _, _, _, rfl, rfl, SqT.of hW9.bt, two_at (g := V.ref) hk2, _, rfl, L, _, rfl, .inl (SqL.of hL9), ?_⟩
        refine ⟨_, rfl, bk k, _, rfl, SqL.of (hW9.bk k hk2), fun p1 np1 => ?_⟩
        rw [cut_to, txV_len, txV_take]
        have u1 := Ext.new (o := .lst (txV ((bs k).take tk.length))) np1
        have k1 := Kp.new (o := .lst (txV ((bs k).take tk.length))) np1
        have h1 : upd H9 p1 (.lst (txV ((bs k).take tk.length))) p1 = some (.lst (txV ((bs k).take tk.length))) := upd_same
        generalize upd H9 p1 (.lst (txV ((bs k).take tk.length))) = H10 at u1 k1 h1 ⊢
        have ok10 := G.keep k1 ok9
        obtain ⟨l1, l2⟩ := txD_lay ((bs k).take tk.length) fun x hx => hrem x (List.mem_of_mem_take hx)
        obtain ⟨l3, l4⟩ := txD_lay tk htr
        have l1' : (PyData.list (txD ((bs k).take tk.length))).canLay0 = true := l1
        have l3' : (PyData.list (txD tk)).canLay0 = true := l3
        refine ⟨_, rfl, .list (txD ((bs k).take tk.length)), .list (txD tk), .lst (SqL.of h1) (txD_at _), .lst (SqL.of (u1.lst hL9)) (txD_at _), shaped_of l1' (by show PyData.depthAll _ + 1 ≤ 64; omega), shaped_of l3' (by show PyData.depthAll _ + 1 ≤ 64; omega), _, rfl, ?_⟩
        rw [PyData.eqv, txD_eqv]
        by_cases c3 : (bs k).take tk.length = tk
        · rw [decide_eq_true c3]
          refine iteT ?_
          rcases hpp with ⟨pa, pys, ps, rfl, rfl, hpa, hpd, hpl, hpo⟩ | ⟨rfl, q0, ws, rfl, hq0⟩
          · refine ⟨_, rfl, .ref pa, .ty "list", _, _, true, rfl, .ty "list", .base (.lst (u1.lst hpa)), kit_ty (by decide +kernel), ?_⟩
            rw [decide_eq_true (show (told = sz ∧ tk.length ≤ sz ∧ (bs k).take tk.length = tk) ∧ (some ps).isSome = true from ⟨⟨c1, c2, c3⟩, rfl⟩)]
            exact ⟨rfl, u1, G.less ok10 (by omega)⟩
          · refine ⟨_, rfl, .ref q0, .ty "list", _, _, false, rfl, .ty "list", .base (.tup (u1.tup hq0)), kit_ty (by decide +kernel), ?_⟩
            rw [decide_eq_false (show ¬ ((told = sz ∧ tk.length ≤ sz ∧ (bs k).take tk.length = tk) ∧ (none : Option (List Tm)).isSome = true) from fun z => nomatch z.2)]
            exact ⟨rfl, u1, G.less ok10 (by omega)⟩
        · rw [decide_eq_false c3]
          refine iteF ?_
          rw [decide_eq_false (show ¬ ((told = sz ∧ tk.length ≤ sz ∧ (bs k).take tk.length = tk) ∧ pp.isSome = true) from fun z => c3 z.1.2.2)]
          exact ⟨rfl, u1, G.less ok10 (by omega)⟩
      · rw [decide_eq_false (show ¬ (tk.length : Int) ≤ (sz : Int) by omega)]
        refine iteF ?_
        rw [decide_eq_false (show ¬ ((told = sz ∧ tk.length ≤ sz ∧ (bs k).take tk.length = tk) ∧ pp.isSome = true) from fun z => c2 z.1.2.1)]
        exact ⟨rfl, c9, G.less ok9 (by omega)⟩
    · rw [decide_eq_false (show ¬ V.int (told : Int) = V.int (sz : Int) from fun z => c1 (by have := V.int.inj z; omega))]
      refine ⟨_, rfl, ?_⟩
      refine iteF ?_
      rw [decide_eq_false (show ¬ ((told = sz ∧ tk.length ≤ sz ∧ (bs k).take tk.length = tk) ∧ pp.isSome = true) from fun z => c1 z.1.1)]
      exact ⟨rfl, c9, G.less ok9 (by omega)⟩
  rintro σ H10 ⟨rfl, x10, ok10⟩
  refine ⟨fun σ H' => σ = [some (.ref S0.f), some (.ref fp), some (.ref L), some (.ref BT), some (.ref KL), some (.int cell), some (.int (k : Int)), some (.int (sz : Int)), some (.int (told : Int)), some (.int (old : Int)), some (.int (j : Int)), some (.int (last : Int)), some pv, some (.bl due), some (.bl due)] ∧ Ext H9 H' ∧ S0.ok H' (r + 10), ?_, ?_⟩
  · refine ⟨_, rfl, _, rfl, ?_⟩
    by_cases c : (told = sz ∧ tk.length ≤ sz ∧ (bs k).take tk.length = tk) ∧ pp.isSome = true
    · rw [decide_eq_true c]
      refine iteT ?_
      obtain ⟨⟨c1, c2, c3⟩, c4⟩ := c
      rcases hpp with ⟨pa, pys, ps, rfl, rfl, hpa, hpd, hpl, hpo⟩ | ⟨rfl, _⟩
      rotate_left
      · cases c4
      have hW10 := hW9.ext G x10
      have hL10 := x10.lst hL9
      refine ⟨_, rfl, _, rfl, _, rfl, _, rfl, _, rfl, BT, _, _, _, rfl, rfl, SqT.of hW10.bt, two_at (g := V.ref) hk2, ?_⟩
      refine ⟨_, rfl, (sz : Int), rfl, bk k, _, rfl, SqL.of (hW10.bk k hk2), fun p1 np1 => ?_⟩
      rw [cut_to, txV_take]
      have u1 := Ext.new (o := .lst (txV ((bs k).take sz))) np1
      have k1 := Kp.new (o := .lst (txV ((bs k).take sz))) np1
      have h1 : upd H10 p1 (.lst (txV ((bs k).take sz))) p1 = some (.lst (txV ((bs k).take sz))) := upd_same
      generalize upd H10 p1 (.lst (txV ((bs k).take sz))) = H11 at u1 k1 h1 ⊢
      have ok11 := G.keep k1 ok10
      refine ⟨S0, p1, (bs k).take sz, r + 1900, hF, rfl, h1, by omega, hurem, G.less ok11 (by omega), fun ql yl H12 x12 nql hql ok12 d12 => ?_⟩
      have ct := costT_le (((bs k).take sz).map leafS).length
      rw [hul] at ct
      have x912 := (x10.trans u1).trans x12
      refine ⟨_, rfl, L, _, rfl, .inl (SqL.of (x912.lst hL9)), ?_⟩
      rw [txV_len]
      refine ⟨S0, ql, yl, _, tk.length, r + 1000, hF, rfl, SqL.of hql, d12, by decide, by rw [hul]; show _ ≤ 512; omega, by omega, by omega, G.less ok12 (by rw [hul]; omega), fun qz yz H13 x13 nqz hqz ok13 d13 => ?_⟩
      have x913 := x912.trans x13
      have hok13 : ∀ t ∈ growT (((bs k).take sz).map leafS) tk.length, OkT t := grow_ok (leafS_all _) (by omega) tk.length
      obtain ⟨es1, es2, b1, b2, b3, b4, b5, b6, b7⟩ := DenL.apart (K := K) (n := 20) (I3 hF) ok13 (hpd.mono G x913.gr) d13 (fun t ht u hu => (hpo t ht).1.cmp (hok13 u hu).1) (fun t ht => (hpo t ht).2) (fun t ht => (hok13 t ht).2) (fun t ht => (hpo t ht).1.cmp (hpo t ht).1) (fun t ht => (hok13 t ht).1.cmp (hok13 t ht).1)
      have e1 : (PyData.list es1).canLay0 = true := b3
      have e2 : (PyData.list es2).canLay0 = true := b4
      refine ⟨.list es1, .list es2, .lst (SqL.of (x913.lst hpa)) b1, .lst (SqL.of hqz) b2, shaped_of e1 (by show PyData.depthAll es1 + 1 ≤ 64; omega), shaped_of e2 (by show PyData.depthAll es2 + 1 ≤ 64; omega), ?_⟩
      have e3 : PyData.eqv (.list es1) (.list es2) = due := by
        rw [PyData.eqv, b7, ← hD]
        exact decide_eq_decide.mpr ⟨fun z => ⟨⟨c1, c2, c3⟩, congrArg some z⟩, fun z => Option.some.inj z.2⟩
      rw [e3]
      exact ⟨rfl, x913, G.less ok13 (by omega)⟩
    · rw [decide_eq_false c]
      refine iteF ?_
      have e : due = false := by
        rw [← hD]
        exact decide_eq_false fun z => c ⟨z.1, by rw [z.2]; rfl⟩
      rw [e]
      exact ⟨rfl, x10, G.less ok10 (by omega)⟩
  rintro σ H11 ⟨rfl, x11, ok11⟩
  refine ⟨_, rfl, .bl _, .ty "bool", _, _, true, rfl, .ty "bool", .base (.bl _), kit_ty (by decide +kernel), _, rfl, ?_⟩
  refine iteF ?_
  refine ⟨_, rfl, _, rfl, rfl, _, rfl, ?_⟩
  rw [decide_eq_true (show V.bl due = V.bl due from rfl)]
  refine iteF ?_
  have hW11 := hW9.ext G x11
  have xoo := ((x08.o).trans xo).trans x11.o
  refine ⟨_, rfl, _, rfl, ?_⟩
  cases due with
  | false =>
    refine iteF ?_
    refine ⟨_, rfl, ?_⟩
    refine q L tk H11 xoo (G.less ok11 (by omega)) ⟨dxf, hv, x11.ins hp9, ?_⟩ (x11.lst hL9) htl htr
    exact G.mono x11.gr (G.mono xo.gr (G.mono x8.gr hdenf))
  | true =>
    refine iteT ?_
    obtain ⟨⟨c1, _, _⟩, _⟩ := of_decide_eq_true hD
    refine ⟨_, rfl, _, rfl, BT, _, _, _, rfl, rfl, SqT.of hW11.bt, two_at (g := V.ref) hk2, _, rfl, (sz : Int), rfl, bk k, _, rfl, SqL.of (hW11.bk k hk2), fun p1 np1 => ?_⟩
    rw [cut_to, txV_take]
    have u1 := Ext.new (o := .lst (txV ((bs k).take sz))) np1
    have k1 := Kp.new (o := .lst (txV ((bs k).take sz))) np1
    refine q p1 ((bs k).take sz) _ (xoo.trans u1.o) (G.less (G.keep k1 ok11) (by omega)) ⟨dxf, u, ?_, ?_⟩ upd_same (by omega) hurem
    · rw [hus]
      rw [c1] at hp9
      exact u1.ins (x11.ins hp9)
    · exact G.mono u1.gr (G.mono x11.gr (G.mono xo.gr hd8))
end

/-! ### the law: two books, two keepers, two followers -/
theorem run_rem {tx : List Nat} (h : Rem tx) : runL 8 0 (TL.spl [10] 0 [] tx) [] = .ok [] := by
  have e : TL.spl [10] 0 [] (TL.joinL [10] [tx]) = [tx] := SX.spl_join (c := 10) (sep := []) (by simp) fun p hp hc => by
    rw [List.mem_singleton.mp hp] at hc
    have := (h.pr 10 hc).1
    omega
  have e' : TL.spl [10] 0 [] tx = [tx] := e
  rw [e']
  obtain ⟨u, rfl, _, _⟩ := h
  have r : readL (35 :: u) 8 = some none := if_pos (.inr rfl)
  unfold runL
  rw [r]
  rfl
theorem lastKv_map (xs : List (List Nat)) : lastKv (xs.map fun x => ((x, []) : En)) = [] := by
  unfold lastKv
  rw [List.getLast?_map]
  cases xs.getLast? <;> rfl
def OldL (H : Hp) (L : List Addr) : Prop := ∀ a ∈ L, ∃ xs, H a = some (.lst xs)
def NewL (H : Hp) (L : List Addr) : Prop := ∀ a ∈ L, H a = none
theorem disj_on {H : Hp} {L L' : List Addr} (h : OldL H L) (h' : NewL H L') : ∀ a ∈ L, a ∉ L' := fun a ha hb => by
  obtain ⟨xs, e⟩ := h a ha
  rw [h' a hb] at e
  cases e
theorem OldL.ext {H H' : Hp} {L : List Addr} (h : OldL H L) (x : Ext H H') : OldL H' L := fun a ha => by
  obtain ⟨xs, e⟩ := h a ha
  exact ⟨xs, x.lst e⟩
theorem OldL.one {H : Hp} {a : Addr} {xs : List V} (h : H a = some (.lst xs)) : OldL H [a] := fun y hy => by rw [List.mem_singleton.mp hy]; exact ⟨_, h⟩
theorem notin {H : Hp} {x : Addr} {L : List Addr} (n : H x = none) (h : OldL H L) : x ∉ L := fun hx => by
  obtain ⟨xs, e⟩ := h x hx
  rw [n] at e
  cases e
theorem KpAt.old {CK CT : Addr} {S0 : Sys} {H : Hp} {p : Addr} {l : Nat} {t b v : Addr} {es : List En} (h : KpAt CK CT S0 H p l t b v es) : OldL H [t, b, v] := fun a ha => by
  rcases List.mem_cons.mp ha with rfl | ha
  · exact ⟨_, h.tx⟩
  rcases List.mem_cons.mp ha with rfl | ha
  · obtain ⟨_, z, _⟩ := h.tb; exact ⟨_, z⟩
  rcases List.mem_cons.mp ha with rfl | ha
  · obtain ⟨_, z, _⟩ := h.lv; exact ⟨_, z⟩
  cases ha
/-- a range whose end is one of two -/
theorem for_ways {ta : TE} {g : TG} {tb : TS} {D : Ends} {σ : L2.St} {H : Hp} {n : Nat} (hκ : ∀ mm : Nat, mm ≤ n → tFor (iRng1 (tCons (tC (.int (mm : Int))) tNil)) g tb D σ H) (h : ∀ {κ : VK}, (∀ mm : Nat, mm ≤ n → κ (.int (mm : Int)) H) → ta σ H κ) : tFor (iRng1 (tCons ta tNil)) g tb D σ H := h hκ
def sel {α : Type} (a b : α) : Nat → α
  | 0 => a
  | _ => b
/-- while the keepers are told their texts -/
structure A13 (CK CT : Addr) (S0 : Sys) (H : Hp) (BT KL : Addr) (p t b v bk : Nat → Addr) (bs ks : Nat → List (List Nat)) : Prop where
  bt : H BT = some (.tup [.ref (bk 0), .ref (bk 1)])
  kl : H KL = some (.lst [.ref (p 0), .ref (p 1)])
  bk : ∀ i, i < 2 → H (bk i) = some (.lst (txV (bs i)))
  ln : ∀ i, i < 2 → (bs i).length ≤ 250
  rm : ∀ i, i < 2 → ∀ x ∈ bs i, Rem x
  kp : ∀ i, i < 2 → KpAt CK CT S0 H (p i) 8 (t i) (b i) (v i) ((ks i).map fun x => (x, []))
structure D13 (c KL : Addr) (t b v bk : Nat → Addr) : Prop where
  dj : ∀ i j, i < 2 → j < 2 → i ≠ j → ∀ a ∈ [t i, b i, v i], a ∉ [t j, b j, v j]
  ob : ∀ i j, i < 2 → j < 2 → bk j ∉ [t i, b i, v i]
  oc : ∀ i, i < 2 → c ∉ [t i, b i, v i]
  ok : ∀ i, i < 2 → KL ∉ [t i, b i, v i]
section
variable {K : PySem.W.Frag} {CK CT CF : Addr} {S0 : Sys} {H H' : Hp} {BT KL c : Addr} {p t b v bk : Nat → Addr} {bs ks : Nat → List (List Nat)}
theorem A13.w13 (h : A13 CK CT S0 H BT KL p t b v bk bs ks) (e : ∀ i, i < 2 → ks i = bs i) : W13 CK CT S0 H BT KL p t b v bk bs :=
  ⟨h.bt, h.kl, h.bk, h.ln, h.rm, fun i hi => by rw [← e i hi]; exact h.kp i hi⟩
theorem A13.put (G : S0.Good K) (h : A13 CK CT S0 H BT KL p t b v bk bs ks) (d : D13 c KL t b v bk) {z : Nat} (hz : z < 2) {k' : List (List Nat)} (x : ExtM [t z, b z, v z] H H') (hk : KpAt CK CT S0 H' (p z) 8 (t z) (b z) (v z) (k'.map fun x => (x, []))) : A13 CK CT S0 H' BT KL p t b v bk bs (put2 ks z k') := by
  refine ⟨x.tup h.bt, x.lst (d.ok z hz) h.kl, fun i hi => x.lst (d.ob z i hz hi) (h.bk i hi), h.ln, h.rm, fun i hi => ?_⟩
  by_cases e : i = z
  · subst e
    rw [put2_same]
    exact hk
  · rw [put2_ne e]
    have o := d.dj i z hi hz e
    exact (h.kp i hi).extM G x (o _ List.mem_cons_self) (o _ (List.mem_cons_of_mem _ List.mem_cons_self)) (o _ (List.mem_cons_of_mem _ (List.mem_cons_of_mem _ List.mem_cons_self)))
theorem W13.extM {M : List Addr} (G : S0.Good K) (h : W13 CK CT S0 H BT KL p t b v bk bs) (x : ExtM M H H') (h1 : KL ∉ M) (h2 : ∀ i, i < 2 → bk i ∉ M) (h3 : ∀ i, i < 2 → t i ∉ M ∧ b i ∉ M ∧ v i ∉ M) : W13 CK CT S0 H' BT KL p t b v bk bs :=
  ⟨x.tup h.bt, x.lst h1 h.kl, fun i hi => x.lst (h2 i hi) (h.bk i hi), h.ln, h.rm, fun i hi => (h.kp i hi).extM G x (h3 i hi).1 (h3 i hi).2.1 (h3 i hi).2.2⟩
/-- two followers and what they took -/
structure F13 (CF : Addr) (S0 : Sys) (H : Hp) (FL TK : Addr) (fp L : Nat → Addr) (tk : Nat → List (List Nat)) : Prop where
  fl : H FL = some (.lst [.ref (fp 0), .ref (fp 1)])
  tl : H TK = some (.lst [.ref (L 0), .ref (L 1)])
  fw : ∀ i, i < 2 → FwAt CF S0 H (fp i) (tk i)
  ls : ∀ i, i < 2 → H (L i) = some (.lst (txV (tk i)))
  ln : ∀ i, i < 2 → (tk i).length ≤ 250
  rm : ∀ i, i < 2 → ∀ x ∈ tk i, Rem x
  ne : ∀ i j, i < 2 → j < 2 → i ≠ j → fp i ≠ fp j
variable {FL TK : Addr} {fp L : Nat → Addr} {tk : Nat → List (List Nat)}
theorem F13.ext (G : S0.Good K) (h : F13 CF S0 H FL TK fp L tk) (x : Ext H H') : F13 CF S0 H' FL TK fp L tk :=
  ⟨x.lst h.fl, x.lst h.tl, fun i hi => (h.fw i hi).ext G x, fun i hi => x.lst (h.ls i hi), h.ln, h.rm, h.ne⟩
theorem txV_ref {a b : Addr} {bs : List (List Nat)} : txV bs ≠ [.ref a, .ref b] := fun h => by
  match bs, h with
  | [], h => cases h
  | x :: r, h =>
    injection h with h1 h2
    cases h1
theorem FwAt.lst_ne {f a : Addr} {s : List (List Nat)} {xs : List V} (h : FwAt CF S0 H f s) (e : H a = some (.lst xs)) : a ≠ f := fun z => by
  obtain ⟨dx, hv, g, _⟩ := h.ex
  rw [z, g] at e
  cases e
theorem FwAt.extM {M : List Addr} (G : S0.Good K) {f : Addr} {s : List (List Nat)} (h : FwAt CF S0 H f s) (x : ExtM M H H') : FwAt CF S0 H' f s := by
  obtain ⟨dx, hv, g1, g2⟩ := h.ex
  exact ⟨dx, hv, x.ins g1, G.mono x.gr g2⟩
theorem FwAt.off (G : S0.Good K) {f f' : Addr} {s : List (List Nat)} (h : FwAt CF S0 H f s) (n : f ≠ f') (x : ExtO f' H H') : FwAt CF S0 H' f s := by
  obtain ⟨dx, hv, g1, g2⟩ := h.ex
  exact ⟨dx, hv, x.ins n g1, G.mono x.gr g2⟩
/-- a follower has taken a paper: its new list stands in the row of lists -/
theorem F13.put (G : S0.Good K) (h : F13 CF S0 H FL TK fp L tk) {z : Nat} (hz : z < 2) (x : ExtO (fp z) H H') {L' : Addr} {tk' : List (List Nat)} (hf : FwAt CF S0 H' (fp z) tk') (hl : H' L' = some (.lst (txV tk'))) (hn : tk'.length ≤ 250) (hr : ∀ x ∈ tk', Rem x) :
    H' TK = some (.lst [.ref (L 0), .ref (L 1)]) ∧ ExtM [TK] H' (upd H' TK (.lst [.ref (put2 L z L' 0), .ref (put2 L z L' 1)])) ∧ F13 CF S0 (upd H' TK (.lst [.ref (put2 L z L' 0), .ref (put2 L z L' 1)])) FL TK fp (put2 L z L') (put2 tk z tk') := by
  have nfp : ∀ {a : Addr} {xs : List V}, H a = some (.lst xs) → a ≠ fp z := fun e => (h.fw z hz).lst_ne e
  have hT : H' TK = some (.lst [.ref (L 0), .ref (L 1)]) := x.lst (nfp h.tl) h.tl
  have hF : H' FL = some (.lst [.ref (fp 0), .ref (fp 1)]) := x.lst (nfp h.fl) h.fl
  have xm : ExtM [TK] H' (upd H' TK (.lst [.ref (put2 L z L' 0), .ref (put2 L z L' 1)])) := ((Ext.refl H').m [TK] (OldL.one hT)).set List.mem_cons_self
  have nFL : FL ∉ [TK] := fun e => by
    rw [List.mem_singleton.mp e, hT] at hF
    injection hF with hF
    injection hF with hF
    injection hF with hF _
    injection hF with hF
    have := (h.fw 0 (by decide)).lst_ne (h.ls 0 (by decide))
    exact this hF
  have nL : ∀ {a : Addr} {s : List (List Nat)}, H' a = some (.lst (txV s)) → a ∉ [TK] := fun {a s} ha e => by
    rw [List.mem_singleton.mp e, hT] at ha
    injection ha with ha
    injection ha with ha
    exact txV_ref ha.symm
  refine ⟨hT, xm, xm.lst nFL hF, upd_same, fun i hi => ?_, fun i hi => ?_, fun i hi => ?_, fun i hi => ?_, h.ne⟩
  · by_cases e : i = z
    · subst e
      rw [put2_same]
      exact hf.extM G xm
    · rw [put2_ne e]
      exact ((h.fw i hi).off G (h.ne i z hi hz e) x).extM G xm
  · by_cases e : i = z
    · subst e
      rw [put2_same, put2_same]
      exact xm.lst (nL hl) hl
    · rw [put2_ne e, put2_ne e]
      have h1 := x.lst (nfp (h.ls i hi)) (h.ls i hi)
      exact xm.lst (nL h1) h1
  · by_cases e : i = z
    · subst e
      rw [put2_same]
      exact hn
    · rw [put2_ne e]
      exact h.ln i hi
  · by_cases e : i = z
    · subst e
      rw [put2_same]
      exact hr
    · rw [put2_ne e]
      exact h.rm i hi
end
section
variable {P : Program} {w : World} {K : PySem.W.Frag} {mg : Str → Option Value}
theorem ok_law {fa cc PT : Addr} (T : Txt K mg cc) (hfa : mg "law" = some (.ref fa)) : ∃ fd : FuncData, (∀ (s : Shared) (v : Value), BindsTo s fd ⟨[v], []⟩ [("_law_script", v)]) ∧ ∀ base : Heap, K.In base → base.Ns mainGlobals mg → LamX.TabB base mg cc PT → FnOk P w K mg base L2.CX0 30 fa fd ["_law_script"] (spLaw K PT) := by
  have Z := T.Z
  obtain ⟨CT, KT⟩ := T.k_Table
  obtain ⟨CK, KK⟩ := T.k_Keeper
  obtain ⟨CF, KF⟩ := T.k_Follower
  obtain ⟨CG, KG⟩ := T.k_Grows
  obtain ⟨CS, KS⟩ := T.k_Stands
  obtain ⟨C, B, EI⟩ := T.y_BadRow
  refine law_fnT T.d_law hfa sc_law (fun vs H Q E h => ?_) (fun base TB f cdv A' outer s H vs Q E hr h => ?_)
  · obtain ⟨a, ns, rfl, _⟩ := h
    rfl
  obtain ⟨a, ns, rfl, hS, hlen, hPT, q⟩ := h
  have A := sla3 (P := P) (w := w) (base := base) T
  have C__law_seal_by := ok_seal_by (P := P) (w := w) T TB
  have C__law_draw := ok_draw (P := P) (w := w) (base := base) T
  have C__law_books := ok_books (P := P) (w := w) (base := base) T
  have C_Keeper8 := ok_kinit8 (CT := CT) A KK
  have M_add := ok_kadd T A KT KK EI
  have C_Follower := ok_fwinit T A KF
  have C__law_judged := ok_judged13 (CT := CT) T A (fun {S} h => inj3 h) KF KS KK
  have C__law_offered := ok_offered13 (CT := CT) T A (fun {S} h => inj3 h) KF KG KK
  have C__law_kept := ok_kept T A KF
  have e16 : sizeLine = 16777216 := sizeLine_eq
  refine ⟨_, (pss_cons (ps_set (i := 0) sc_law.nd rfl (Or.inl rfl) (pe_slice sl_list (pv 0) po_none (po_some pe_int)))
  (pss_cons (ps_set (i := 1) sc_law.nd rfl (Or.inl rfl) (pe_c C__law_seal_by hr (by omega) rfl (pa_cons (pv 0) pa_nil)))
  (pss_cons (ps_set (i := 2) sc_law.nd rfl (Or.inl rfl) (pe_c C__law_books hr (by omega) rfl (pa_cons (pv 0) pa_nil)))
  (pss_cons (ps_set (i := 3) sc_law.nd rfl (Or.inl rfl) (pe_lst (pa_cons (pe_mk C_Keeper8 hr (by omega) rfl (pa_cons (pv 1) pa_nil)) (pa_cons (pe_mk C_Keeper8 hr (by omega) rfl (pa_cons (pv 1) pa_nil)) pa_nil))))
  (pss_cons (ps_for PassesOwn.never rfl (pi_range1 rfl Z.range (pa_cons pe_int pa_nil)) (pg_name (i := 4) sc_law.nd rfl (Or.inl rfl)) (pss_one (ps_for PassesOwn.never rfl (pi_list (pe_ix ix_tup (pv 2) (pv 4) (fun _ _ => rfl))) (pg_name (i := 5) sc_law.nd rfl (Or.inl rfl)) (pss_one (ps_expr (pe_mtx M_add takes0 hr (by omega) (pe_ix ix_list (pv 3) (pv 4) (fun _ _ => rfl)) (pa_cons (pv 5) pa_nil)))))))
  (pss_cons (ps_set (i := 6) sc_law.nd rfl (Or.inl rfl) (pe_lst (pa_cons (pe_mk C_Follower hr (by omega) rfl (pa_cons (pv 1) pa_nil)) (pa_cons (pe_mk C_Follower hr (by omega) rfl (pa_cons (pv 1) pa_nil)) pa_nil))))
  (pss_cons (ps_set (i := 7) sc_law.nd rfl (Or.inl rfl) (pe_lst (pa_cons (pe_lst pa_nil) (pa_cons (pe_lst pa_nil) pa_nil))))
  (pss_cons (ps_for PassesOwn.never rfl (pi_range1 rfl Z.range (pa_cons (pe_ifExp (pt_cmpR op_gt (pe_callB call_len_seq rfl Z.len PySem.boot_len (pa_cons (pe_ix ix_tup (pv 2) pe_int (fun _ _ => rfl)) pa_nil)) pe_int (nomark _)) (pe_callB (call_min2 rfl) rfl Z.min (by decide +kernel) (pa_cons (pe_callB call_len_seq rfl Z.len PySem.boot_len (pa_cons (pv 0) pa_nil)) (pa_cons pe_int pa_nil))) (pe_callB call_len_seq rfl Z.len PySem.boot_len (pa_cons (pv 0) pa_nil))) pa_nil)) (pg_name (i := 8) sc_law.nd rfl (Or.inl rfl)) (pss_cons (ps_set (i := 9) sc_law.nd rfl (Or.inl rfl) (pe_op op_add (pe_ix ix_list (pv 0) (pv 8) (fun _ _ => rfl)) (pe_op op_mul pe_int (pv 8))))
  (pss_cons (ps_set (i := 10) sc_law.nd rfl (Or.inl rfl) (pe_c C__law_draw hr (by omega) rfl (pa_cons (pv 9) (pa_cons pe_int (pa_cons pe_int pa_nil)))))
  (Evl.pss_cut (ps_if (pt_cmpR op_eq (pe_c C__law_draw hr (by omega) rfl (pa_cons (pv 9) (pa_cons pe_int (pa_cons pe_int pa_nil)))) pe_int (nomark _)) (pss_one (ps_if (pt_not (pt_val (pe_c C__law_judged hr (by omega) rfl (pa_cons (pv 1) (pa_cons (pe_ix ix_list (pv 6) (pv 10) (fun _ _ => rfl)) (pa_cons (pe_ix ix_list (pv 7) (pv 10) (fun _ _ => rfl)) (pa_cons (pv 2) (pa_cons (pv 3) (pa_cons (pv 9) pa_nil))))))))) (pss_one (ps_ret pe_bl)) pss_nil)) (pss_cons (ps_asg (pe_c C__law_offered hr (by omega) rfl (pa_cons (pv 1) (pa_cons (pe_ix ix_list (pv 6) (pv 10) (fun _ _ => rfl)) (pa_cons (pe_ix ix_list (pv 7) (pv 10) (fun _ _ => rfl)) (pa_cons (pv 2) (pa_cons (pv 3) (pa_cons (pv 9) pa_nil))))))) (pg_sub (pv 7) (pv 10) set_list))
  (pss_one (ps_if (pt_cmpR op_isN (pe_ix ix_list (pv 7) (pv 10) (fun _ _ => rfl)) pe_non (nomark _)) (pss_one (ps_ret pe_bl)) pss_nil))))
  (pss_one (ps_if (PW.pt (pw_or (pt_not (pt_val (pe_c C__law_kept hr (by omega) rfl (pa_cons (pv 1) (pa_cons (pe_ix ix_list (pv 6) pe_int (fun _ _ => rfl)) (pa_cons (pe_ix ix_list (pv 7) pe_int (fun _ _ => rfl)) pa_nil)))))) (pw_or1 (pt_not (pt_val (pe_c C__law_kept hr (by omega) rfl (pa_cons (pv 1) (pa_cons (pe_ix ix_list (pv 6) pe_int (fun _ _ => rfl)) (pa_cons (pe_ix ix_list (pv 7) pe_int (fun _ _ => rfl)) pa_nil))))))))) (pss_one (ps_ret pe_bl)) pss_nil))))))
  (pss_one (ps_ret pe_bl)))))))))), ?_⟩
  refine ⟨.ref a, rfl, 63, rfl, a, _, rfl, hS, fun c nc => ?_⟩
  rw [take63 hlen]
  refine ⟨_, rfl, c, ns, rfl, SqL.of upd_same, by rw [upd_ne (ne_of_none hPT nc)]; exact hPT, fun S0 H1 hF x1 ok1 => ?_⟩
  have G := A.good hF
  have hc1 : H1 c = some (.lst (ns.map V.int)) := x1 _ _ upd_same fun _ z => nomatch z
  have ok1' := G.less ok1 (show 16000000 ≤ sizeLine by omega)
  refine ⟨_, rfl, c, ns, rfl, SqL.of hc1, fun BT B0 B1 b0 b1 H2 s2 nB0 nB1 hBT hB0 hB1 l0 l1 r0 r1 => ?_⟩
  have x2 := Ext.of_same s2
  have hc2 := x2.lst hc1
  have ok2 := G.keep (kp_same s2) ok1'
  -- two keepers
  refine ⟨_, rfl, fun q1 qx nq nqx nex => ?_⟩
  have y1 : Ext H2 (upd (upd H2 qx (.own q1)) q1 (.ins CK qx [])) := (Ext.new nqx).trans (Ext.new (by rw [upd_ne nex.symm]; exact nq))
  have ky1 : Kp H2 (upd (upd H2 qx (.own q1)) q1 (.ins CK qx [])) := (Kp.new nqx).trans (Kp.new (by rw [upd_ne nex.symm]; exact nq))
  refine ⟨S0, q1, qx, 8, 16000000, hF, rfl, upd_same, by decide, G.keep ky1 ok2, fun H3 t0 u0 v0 xo3 kp3 nt0 nu0 nv0 ok3 kp0 => ⟨rfl, ?_⟩⟩
  have x3 : Ext H2 H3 := xo3.ext y1 nq
  refine ⟨_, rfl, fun q2 qy nq2 nqy ney => ?_⟩
  have y2 : Ext H3 (upd (upd H3 qy (.own q2)) q2 (.ins CK qy [])) := (Ext.new nqy).trans (Ext.new (by rw [upd_ne ney.symm]; exact nq2))
  have ky2 : Kp H3 (upd (upd H3 qy (.own q2)) q2 (.ins CK qy [])) := (Kp.new nqy).trans (Kp.new (by rw [upd_ne ney.symm]; exact nq2))
  refine ⟨S0, q2, qy, 8, 16000000, hF, rfl, upd_same, by decide, G.keep ky2 ok3, fun H4 t1 u1 v1 xo4 kp4 nt1 nu1 nv1 ok4 kp1 => ⟨rfl, ?_⟩⟩
  have x4 : Ext H3 H4 := xo4.ext y2 nq2
  have new0 : NewL H2 [t0, u0, v0] := fun a ha => by
    rcases List.mem_cons.mp ha with rfl | ha
    · exact y1.free nt0
    rcases List.mem_cons.mp ha with rfl | ha
    · exact y1.free nu0
    rcases List.mem_cons.mp ha with rfl | ha
    · exact y1.free nv0
    cases ha
  have new1 : NewL H3 [t1, u1, v1] := fun a ha => by
    rcases List.mem_cons.mp ha with rfl | ha
    · exact y2.free nt1
    rcases List.mem_cons.mp ha with rfl | ha
    · exact y2.free nu1
    rcases List.mem_cons.mp ha with rfl | ha
    · exact y2.free nv1
    cases ha
  have old0 := kp0.old
  have old1 := kp1.old
  refine ⟨by show 2 ≤ sizeLine; decide, fun KL nKL => ?_⟩
  have x5 := Ext.new (o := .lst [.ref q1, .ref q2]) nKL
  have hKL : upd H4 KL (.lst [.ref q1, .ref q2]) KL = some (.lst [.ref q1, .ref q2]) := upd_same
  have ok5 := G.keep (Kp.new (o := .lst [.ref q1, .ref q2]) nKL) ok4
  have nKL4 := nKL
  generalize upd H4 KL (.lst [.ref q1, .ref q2]) = H5 at x5 hKL ok5 ⊢
  have early : ∀ a, (∃ xs, H2 a = some (.lst xs)) → a ∉ [t0, u0, v0] ∧ a ∉ [t1, u1, v1] := fun a ⟨xs, e⟩ =>
    ⟨disj_on (OldL.one e) new0 a List.mem_cons_self, disj_on ((OldL.one e).ext x3) new1 a List.mem_cons_self⟩
  have hD : D13 c KL (sel t0 t1) (sel u0 u1) (sel v0 v1) (sel B0 B1) := by
    refine ⟨fun i j hi hj hij => ?_, fun i j hi hj => ?_, fun i hi => ?_, fun i hi => ?_⟩
    · rcases (by omega : (i = 0 ∧ j = 1) ∨ (i = 1 ∧ j = 0)) with ⟨rfl, rfl⟩ | ⟨rfl, rfl⟩
      · exact disj_on old0 new1
      · exact fun a h h' => disj_on old0 new1 a h' h
    · have e : ∃ xs, H2 (sel B0 B1 j) = some (.lst xs) := by
        rcases (by omega : j = 0 ∨ j = 1) with rfl | rfl
        · exact ⟨_, hB0⟩
        · exact ⟨_, hB1⟩
      rcases (by omega : i = 0 ∨ i = 1) with rfl | rfl
      · exact (early _ e).1
      · exact (early _ e).2
    · rcases (by omega : i = 0 ∨ i = 1) with rfl | rfl
      · exact (early _ ⟨_, hc2⟩).1
      · exact (early _ ⟨_, hc2⟩).2
    · rcases (by omega : i = 0 ∨ i = 1) with rfl | rfl
      · exact notin nKL4 (old0.ext x4)
      · exact notin nKL4 old1
  have hA : A13 CK CT S0 H5 BT KL (sel q1 q2) (sel t0 t1) (sel u0 u1) (sel v0 v1) (sel B0 B1) (sel b0 b1) (sel [] []) := by
    refine ⟨((x3.trans x4).trans x5).tup hBT, hKL, fun i hi => ?_, fun i hi => ?_, fun i hi => ?_, fun i hi => ?_⟩
    · rcases (by omega : i = 0 ∨ i = 1) with rfl | rfl
      · exact ((x3.trans x4).trans x5).lst hB0
      · exact ((x3.trans x4).trans x5).lst hB1
    · rcases (by omega : i = 0 ∨ i = 1) with rfl | rfl
      · exact l0
      · exact l1
    · rcases (by omega : i = 0 ∨ i = 1) with rfl | rfl
      · exact r0
      · exact r1
    · rcases (by omega : i = 0 ∨ i = 1) with rfl | rfl
      · exact kp0.ext G (x4.trans x5)
      · exact kp1.ext G x5
  have hks0 : ∀ i, i < 2 → (sel ([] : List (List Nat)) []) i = [] := fun i hi => by
    rcases (by omega : i = 0 ∨ i = 1) with rfl | rfl <;> rfl
  have hc5 := ((x3.trans x4).trans x5).lst hc2
  clear early kp0 kp1 new0 new1 old0 old1
  generalize sel q1 q2 = p at hA ⊢
  generalize sel t0 t1 = t at hA hD ⊢
  generalize sel u0 u1 = b at hA hD ⊢
  generalize sel v0 v1 = v at hA hD ⊢
  generalize sel B0 B1 = bk at hA hD ⊢
  generalize sel b0 b1 = bs at hA ⊢
  generalize sel ([] : List (List Nat)) [] = ks0 at hA hks0
  refine ⟨2, rfl, by omega, by omega, ?_⟩
  refine for_range (fun k σ H' => ∃ (y4 y5 : Option V) (ks : Nat → List (List Nat)), σ = [some (.ref c), some (.ref S0.f), some (.ref BT), some (.ref KL), y4, y5, none, none, none, none, none] ∧ A13 CK CT S0 H' BT KL p t b v bk bs ks ∧ (∀ i, i < 2 → ks i = if i < k then bs i else []) ∧ H' c = some (.lst (ns.map V.int)) ∧ S0.ok H' (16000000 - k * 600000))
    ⟨none, none, ks0, rfl, hA, fun i hi => by rw [hks0 i hi]; rfl, hc5, ok5⟩ ?_ ?_
  · rintro k σ H6 hk ⟨y4, y5, ks, rfl, hA, hks, hc, ok⟩
    have hk2 : k < 2 := hk
    rw [Int.zero_add]
    have hlk := hA.ln k hk2
    refine ⟨_, rfl, _, rfl, BT, _, _, _, rfl, rfl, SqT.of hA.bt, two_at (g := V.ref) hk2, bk k, rfl, ⟨_, SqL.of (hA.bk k hk2)⟩, for_list (K := K) (a := bk k) (xs := txV (bs k)) (fun i σ H' => ∃ (y5 : Option V) (ks : Nat → List (List Nat)), σ = [some (.ref c), some (.ref S0.f), some (.ref BT), some (.ref KL), some (.int (k : Int)), y5, none, none, none, none, none] ∧ A13 CK CT S0 H' BT KL p t b v bk bs ks ∧ (∀ j, j < 2 → ks j = if j < k then bs j else if j = k then (bs k).take i else []) ∧ H' c = some (.lst (ns.map V.int)) ∧ S0.ok H' (16000000 - k * 600000 - i * 2100)) ⟨_, ks, rfl, hA, fun j hj => ?_, hc, ok⟩ (fun i σ H' _ ⟨_, _, _, hA, _⟩ => SqL.of (hA.bk k hk2)) ?_ ?_⟩
    · rw [hks j hj]
      by_cases e1 : j < k
      · rw [if_pos e1, if_pos e1]
      · rw [if_neg e1, if_neg e1]
        by_cases e2 : j = k
        · rw [if_pos e2, List.take_zero]
        · rw [if_neg e2]
    · rintro i σ H7 y hy ⟨y5, ks, rfl, hA, hks, hc, ok⟩
      obtain ⟨tx, htx, rfl⟩ := txV_at hy
      have hil : i < (bs k).length := (List.getElem?_eq_some_iff.mp htx).1
      have hlk := hA.ln k hk2
      have hrx := hA.rm k hk2 tx (List.mem_of_getElem? htx)
      have hkp := hA.kp k hk2
      obtain ⟨dxk, hpk⟩ := hkp.at_
      have eks : ks k = (bs k).take i := by rw [hks k hk2, if_neg (Nat.lt_irrefl k), if_pos rfl]
      have hkl : ((ks k).map fun x => ((x, []) : En)).length < 300 := by rw [List.length_map, eks, List.length_take]; omega
      refine ⟨_, rfl, _, rfl, KL, _, _, _, rfl, rfl, SqL.of hA.kl, two_at (g := V.ref) hk2, p k, dxk, _, rfl, hpk, kno "add", _, rfl, S0, p k, 8, t k, b k, v k, _, tx, 16000000 - k * 600000 - (i + 1) * 2100, hF, rfl, hkp, hkl, hrx.pr.asc, ?_, G.less ok (by omega), fun kv hrun => ⟨?_, fun H8 xm ok8 hk8 => ?_⟩, fun e hrun => ?_⟩
      · obtain ⟨u, rfl, _, hu⟩ := hrx
        show u.length + 1 ≤ 800
        omega
      · have hrun : runL 8 0 (TL.spl [10] 0 [] tx) (lastKv ((ks k).map fun x => ((x, []) : En))) = .ok kv := hrun
        rw [lastKv_map, run_rem hrx] at hrun
        cases hrun
        exact Nat.zero_le _
      · have hrun : runL 8 0 (TL.spl [10] 0 [] tx) (lastKv ((ks k).map fun x => ((x, []) : En))) = .ok kv := hrun
        rw [lastKv_map, run_rem hrx] at hrun
        cases hrun
        have e8 : ((ks k).map fun x => ((x, []) : En)) ++ [(tx, [])] = (((bs k).take (i + 1)).map fun x => ((x, []) : En)) := by
          rw [eks, List.take_add_one, htx, List.map_append]
          rfl
        rw [e8] at hk8
        refine ⟨_, put2 ks k ((bs k).take (i + 1)), rfl, hA.put G hD hk2 xm hk8, fun j hj => ?_, xm.lst (hD.oc k hk2) hc, ok8⟩
        by_cases e1 : j = k
        · subst e1
          rw [put2_same, if_neg (Nat.lt_irrefl j), if_pos rfl]
        · rw [put2_ne e1, hks j hj, if_neg e1, if_neg e1]
      · have hrun : runL 8 0 (TL.spl [10] 0 [] tx) (lastKv ((ks k).map fun x => ((x, []) : En))) = .error e := hrun
        rw [lastKv_map, run_rem hrx] at hrun
        cases hrun
    · rintro σ H7 ⟨y5, ks, rfl, hA, hks, hc, ok⟩
      rw [txV_len] at hks ok
      refine ⟨_, _, ks, rfl, hA, fun j hj => ?_, hc, G.less ok (by omega)⟩
      rw [hks j hj]
      by_cases e1 : j < k
      · rw [if_pos e1, if_pos (by omega)]
      · rw [if_neg e1]
        by_cases e2 : j = k
        · rw [if_pos e2, if_pos (by omega), List.take_length, e2]
        · rw [if_neg e2, if_neg (by omega)]
  · rintro σ H6 ⟨y4, y5, ks, rfl, hA, hks, hc, ok⟩
    have hW : W13 CK CT S0 H6 BT KL p t b v bk bs := hA.w13 fun i hi => by rw [hks i hi, if_pos (by show i < 2; exact hi)]
    have ok6 := G.less ok (show 14800000 ≤ 16000000 - (2 : Int).toNat * 600000 by decide)
    -- two followers
    refine ⟨_, rfl, fun f1 fx nf nfx nfe => ?_⟩
    have z1 : Ext H6 (upd (upd H6 fx (.own f1)) f1 (.ins CF fx [])) := (Ext.new nfx).trans (Ext.new (by rw [upd_ne nfe.symm]; exact nf))
    have kz1 : Kp H6 (upd (upd H6 fx (.own f1)) f1 (.ins CF fx [])) := (Kp.new nfx).trans (Kp.new (by rw [upd_ne nfe.symm]; exact nf))
    refine ⟨S0, f1, fx, 14799990, hF, rfl, upd_same, G.less (G.keep kz1 ok6) (by omega), fun H7 hv1 xo7 ok7 hf1 hd1 => ⟨rfl, ?_⟩⟩
    have x7 : Ext H6 H7 := xo7.ext z1 nf
    refine ⟨_, rfl, fun f2 fy nf2 nfy nfe2 => ?_⟩
    have z2 : Ext H7 (upd (upd H7 fy (.own f2)) f2 (.ins CF fy [])) := (Ext.new nfy).trans (Ext.new (by rw [upd_ne nfe2.symm]; exact nf2))
    have kz2 : Kp H7 (upd (upd H7 fy (.own f2)) f2 (.ins CF fy [])) := (Kp.new nfy).trans (Kp.new (by rw [upd_ne nfe2.symm]; exact nf2))
    refine ⟨S0, f2, fy, 14799980, hF, rfl, upd_same, G.less (G.keep kz2 ok7) (by omega), fun H8 hv2 xo8 ok8 hf2 hd2 => ⟨rfl, ?_⟩⟩
    have x8 : Ext H7 H8 := xo8.ext z2 nf2
    have hf18 := x8.ins hf1
    have hd18 := G.mono x8.gr hd1
    have fne : f1 ≠ f2 := fun e => by rw [e] at hf1; rw [hf1] at nf2; cases nf2
    refine ⟨by show 2 ≤ sizeLine; decide, fun FL nFL => ?_⟩
    have x9 := Ext.new (o := .lst [.ref f1, .ref f2]) nFL
    have hFL : upd H8 FL (.lst [.ref f1, .ref f2]) FL = some (.lst [.ref f1, .ref f2]) := upd_same
    have ok9 := G.keep (Kp.new (o := .lst [.ref f1, .ref f2]) nFL) ok8
    generalize upd H8 FL (.lst [.ref f1, .ref f2]) = H9 at x9 hFL ok9 ⊢
    refine ⟨by show 0 ≤ sizeLine; decide, fun L1 nL1 => ⟨by show 0 ≤ sizeLine; decide, fun L2 nL2 => ⟨by show 2 ≤ sizeLine; decide, fun TK nTK => ?_⟩⟩⟩
    have x10 := Ext.new (o := .lst []) nL1
    have hL1 : upd H9 L1 (.lst []) L1 = some (.lst []) := upd_same
    have ok10 := G.keep (Kp.new (o := .lst []) nL1) ok9
    generalize upd H9 L1 (.lst []) = H10 at x10 hL1 ok10 nL2 nTK ⊢
    have x11 := Ext.new (o := .lst []) nL2
    have hL2 : upd H10 L2 (.lst []) L2 = some (.lst []) := upd_same
    have ok11 := G.keep (Kp.new (o := .lst []) nL2) ok10
    generalize upd H10 L2 (.lst []) = H11 at x11 hL2 ok11 nTK ⊢
    have x12 := Ext.new (o := .lst [.ref L1, .ref L2]) nTK
    have hTK : upd H11 TK (.lst [.ref L1, .ref L2]) TK = some (.lst [.ref L1, .ref L2]) := upd_same
    have ok12 := G.keep (Kp.new (o := .lst [.ref L1, .ref L2]) nTK) ok11
    have nTK11 := nTK
    generalize upd H11 TK (.lst [.ref L1, .ref L2]) = H12 at x12 hTK ok12 ⊢
    have x611 := ((((x7.trans x8).trans x9).trans x10).trans x11)
    have x612 := x611.trans x12
    have hW12 := hW.ext G x612
    have hc12 := x612.lst hc
    have hTo : ∀ i, i < 2 → TK ∉ [t i, b i, v i] := fun i hi => notin nTK11 (((hW.kp i hi).ext G x611).old)
    have e0 : bkT (([] : List (List Nat)).map leafS) = emptyT := by unfold bkT emptyT; rw [show ([] : List (List Nat)).map leafS = [] from rfl, topT_nil]; rfl
    have hFF : F13 CF S0 H12 FL TK (sel f1 f2) (sel L1 L2) (sel [] []) := by
      refine ⟨x12.lst (x11.lst (x10.lst hFL)), hTK, fun i hi => ?_, fun i hi => ?_, fun i hi => ?_, fun i hi => ?_, fun i j hi hj hij => ?_⟩
      · rcases (by omega : i = 0 ∨ i = 1) with rfl | rfl
        · exact ⟨fx, hv1, (((x9.trans x10).trans x11).trans x12).ins hf18, by show S0.den _ _ (bkT (([] : List (List Nat)).map leafS)); rw [e0]; exact G.mono (((x9.trans x10).trans x11).trans x12).gr hd18⟩
        · exact ⟨fy, hv2, (((x9.trans x10).trans x11).trans x12).ins hf2, by show S0.den _ _ (bkT (([] : List (List Nat)).map leafS)); rw [e0]; exact G.mono (((x9.trans x10).trans x11).trans x12).gr hd2⟩
      · rcases (by omega : i = 0 ∨ i = 1) with rfl | rfl
        · exact x12.lst (x11.lst hL1)
        · exact x12.lst hL2
      · rcases (by omega : i = 0 ∨ i = 1) with rfl | rfl <;> exact Nat.zero_le _
      · rcases (by omega : i = 0 ∨ i = 1) with rfl | rfl <;> exact fun x h => nomatch h
      · rcases (by omega : (i = 0 ∧ j = 1) ∨ (i = 1 ∧ j = 0)) with ⟨rfl, rfl⟩ | ⟨rfl, rfl⟩
        · exact fne
        · exact fne.symm
    generalize sel f1 f2 = fp at hFF ⊢
    generalize sel L1 L2 = L at hFF ⊢
    generalize sel ([] : List (List Nat)) [] = tk at hFF
    show gName 7 _ _ _ _
    rw [gName]
    dsimp only
    rw [tSeq]
    dsimp only
    refine for_ways (n := ns.length) (fun mm hmm => ?_) (fun {κ} key => ?_)
    rotate_left
    · refine ⟨_, rfl, BT, _, 0, _, rfl, rfl, SqT.of hW12.bt, rfl, bk 0, _, rfl, .inl (SqL.of (hW12.bk 0 (by decide))), _, _, rfl, rfl, _, rfl, ite2 (fun _ => ?_) (fun _ => ?_)⟩
      · refine ⟨_, rfl, c, _, rfl, .inl (SqL.of hc12), _, 9, rfl, ?_⟩
        obtain ⟨m, hm, eL⟩ : ∃ m : Nat, m ≤ ns.length ∧ (if (9 : Int) < ((ns.map V.int).length : Int) then (9 : Int) else ((ns.map V.int).length : Int)) = (m : Int) := by
          rw [List.length_map]
          by_cases h9 : (9 : Int) < (ns.length : Int)
          · exact ⟨9, by omega, by rw [if_pos h9]; rfl⟩
          · exact ⟨ns.length, by omega, by rw [if_neg h9]⟩
        rw [eL]
        exact key m hm
      · refine ⟨_, rfl, c, _, rfl, .inl (SqL.of hc12), ?_⟩
        rw [List.length_map]
        exact key ns.length (Nat.le_refl _)
    refine ⟨(mm : Int), rfl, by omega, by omega, ?_⟩
    rw [Int.toNat_natCast]
    refine for_range (fun i σ H' => ∃ (y8 y9 y10 : Option V) (L : Nat → Addr) (tk : Nat → List (List Nat)), σ = [some (.ref c), some (.ref S0.f), some (.ref BT), some (.ref KL), y4, y5, some (.ref FL), some (.ref TK), y8, y9, y10] ∧ W13 CK CT S0 H' BT KL p t b v bk bs ∧ F13 CF S0 H' FL TK fp L tk ∧ H' c = some (.lst (ns.map V.int)) ∧ S0.ok H' (14799980 - i * 9000))
      ⟨none, none, none, L, tk, rfl, hW12, hFF, hc12, ok12⟩ ?_ ?_
    · rintro i σ H13 hi ⟨y8, y9, y10, L, tk, rfl, hW, hFF, hc, ok⟩
      rw [Int.zero_add]
      obtain ⟨z0, hz0⟩ : ∃ z0 : Int, (ns.map V.int)[i]? = some (.int z0) := ⟨_, by rw [List.getElem?_map, List.getElem?_eq_getElem (show i < ns.length by omega)]; rfl⟩
      refine ⟨_, rfl, _, rfl, c, _, _, _, rfl, rfl, SqL.of hc, atI_nat hz0, _, rfl, _, _, rfl, rfl, .inl ⟨by decide, by decide⟩, _, _, rfl, rfl, ?_⟩
      obtain ⟨cz, hcz⟩ : ∃ cz : Int, cz = z0 + 977 * (i : Int) := ⟨_, rfl⟩
      refine ⟨_, rfl, _, _, _, rfl, by decide, by decide, by decide, fun z9 H14 z90 z91 s9 => ?_⟩
      obtain ⟨o, rfl⟩ := Int.eq_ofNat_of_zero_le z90
      have ho : o < 2 := by omega
      have e14 := Ext.of_same s9
      have hW14 := hW.ext G e14
      have hF14 := hFF.ext G e14
      have hc14 := e14.lst hc
      have ok14 := G.keep (kp_same s9) ok
      refine ⟨fun σ H' => ∃ (L : Nat → Addr) (tk : Nat → List (List Nat)), σ = [some (.ref c), some (.ref S0.f), some (.ref BT), some (.ref KL), y4, y5, some (.ref FL), some (.ref TK), some (.int (i : Int)), some (.int cz), some (.int (o : Int))] ∧ W13 CK CT S0 H' BT KL p t b v bk bs ∧ F13 CF S0 H' FL TK fp L tk ∧ H' c = some (.lst (ns.map V.int)) ∧ S0.ok H' (14799980 - i * 9000 - 6000), ?_, ?_⟩
      · refine ⟨_, rfl, _, _, _, rfl, by decide, by decide, by decide, fun z3 H15 _ _ s5 => ⟨rfl, _, rfl, ite2 (fun _ => ?_) (fun _ => ?_)⟩⟩
        · have e15 := Ext.of_same s5
          have hW15 := hW14.ext G e15
          have hF15 := hF14.ext G e15
          refine ⟨_, rfl, _, rfl, _, rfl, FL, _, _, _, rfl, rfl, SqL.of hF15.fl, two_at (g := V.ref) ho, _, rfl, _, rfl, TK, _, _, _, rfl, rfl, SqL.of hF15.tl, two_at (g := V.ref) ho, _, rfl, _, rfl, _, rfl, S0, fp o, L o, tk o, BT, KL, p, t, b, v, bk, bs, _, 14799980 - i * 9000 - 6000, hF, rfl, hF15.fw o ho, hF15.ls o ho, hF15.ln o ho, hF15.rm o ho, hW15, G.less (G.keep (kp_same s5) ok14) (by omega), fun H16 x16 ok16 => ?_⟩
          refine ⟨_, rfl, iteF ?_⟩
          exact ⟨L, tk, by rw [hcz]; rfl, hW15.ext G x16, hF15.ext G x16, x16.lst (e15.lst hc14), ok16⟩
        · have e15 := Ext.of_same s5
          have hW15 := hW14.ext G e15
          have hF15 := hF14.ext G e15
          have hc15 := e15.lst hc14
          refine ⟨_, rfl, _, rfl, _, rfl, FL, _, _, _, rfl, rfl, SqL.of hF15.fl, two_at (g := V.ref) ho, _, rfl, _, rfl, TK, _, _, _, rfl, rfl, SqL.of hF15.tl, two_at (g := V.ref) ho, _, rfl, _, rfl, _, rfl, S0, fp o, L o, tk o, BT, KL, p, t, b, v, bk, bs, _, 14799980 - i * 9000 - 6000, hF, rfl, hF15.fw o ho, hF15.ls o ho, hF15.ln o ho, hF15.rm o ho, hW15, G.less (G.keep (kp_same s5) ok14) (by omega), fun L' tk' H16 xo16 ok16 hf16 hl16 hn16 hr16 => ?_⟩
          obtain ⟨hT16, xm, hF17⟩ := hF15.put G ho xo16 hf16 hl16 hn16 hr16
          obtain ⟨dxf, hvf, hpf, _⟩ := (hF15.fw o ho).ex
          have hW16 := hW15.extO G hpf xo16
          have hc16 := xo16.lst ((hF15.fw o ho).lst_ne hc15) hc15
          refine ⟨_, rfl, _, rfl, TK, _, _, o, rfl, rfl, hT16, two_ix ho, ?_⟩
          rw [two_set (g := V.ref) ho]
          have n1 : ∀ {x : Addr}, x ∉ [TK] → x ≠ TK := fun h e => h (by rw [e]; exact List.mem_cons_self)
          have nc : c ∉ [TK] := fun e => by
            rw [List.mem_singleton.mp e, hT16] at hc16
            cases ns with
            | nil => cases hc16
            | cons n0 ns => cases hc16
          have nKL : KL ∉ [TK] := fun e => by
            have h2 := hW16.kl
            rw [List.mem_singleton.mp e, hT16] at h2
            injection h2 with h2
            injection h2 with h2
            injection h2 with h2 _
            injection h2 with h2
            obtain ⟨dxk, hpk⟩ := (hW15.kp 0 (by decide)).at_
            have h3 := hF15.ls 0 (by decide)
            rw [h2, hpk] at h3
            cases h3
          have nbk : ∀ j, j < 2 → bk j ∉ [TK] := fun j hj e => by
            have h2 := hW16.bk j hj
            rw [List.mem_singleton.mp e, hT16] at h2
            injection h2 with h2
            injection h2 with h2
            exact txV_ref h2.symm
          have nt : ∀ j, j < 2 → t j ∉ [TK] ∧ b j ∉ [TK] ∧ v j ∉ [TK] := fun j hj => by
            have h2 := hTo j hj
            refine ⟨fun e => h2 ?_, fun e => h2 ?_, fun e => h2 ?_⟩
            · rw [← List.mem_singleton.mp e]; exact List.mem_cons_self
            · rw [← List.mem_singleton.mp e]; exact List.mem_cons_of_mem _ List.mem_cons_self
            · rw [← List.mem_singleton.mp e]; exact List.mem_cons_of_mem _ (List.mem_cons_of_mem _ List.mem_cons_self)
          have hW17 := hW16.extM G xm nKL nbk nt
          have hc17 := xm.lst nc hc16
          have ok17 := G.keep (Kp.lst (o := .lst [.ref (put2 L o L' 0), .ref (put2 L o L' 1)]) hT16) ok16
          refine ⟨_, rfl, _, rfl, TK, _, _, _, rfl, rfl, SqL.of hF17.tl, two_at (g := V.ref) ho, ?_⟩
          refine ⟨rfl, _, rfl, ?_⟩
          rw [decide_eq_false (fun e => nomatch e)]
          refine iteF ?_
          exact ⟨_, _, by rw [hcz]; rfl, hW17, hF17, hc17, ok17⟩
      · rintro σ H15 ⟨L, tk, rfl, hW, hFF, hc, ok⟩
        have hF0 : (0 : Nat) < 2 := by decide
        have hF1 : (1 : Nat) < 2 := by decide
        refine ⟨_, rfl, _, rfl, FL, _, 0, _, rfl, rfl, SqL.of hFF.fl, rfl, _, rfl, TK, _, 0, _, rfl, rfl, SqL.of hFF.tl, rfl, S0, fp 0, L 0, tk 0, 14799980 - i * 9000 - 7300, hF, rfl, hFF.fw 0 hF0, hFF.ls 0 hF0, Nat.le_trans (hFF.ln 0 hF0) (by decide), hFF.rm 0 hF0, G.less ok (by omega), fun H16 x16 ok16 => ?_⟩
        have hF16 := hFF.ext G x16
        refine ⟨_, rfl, iteF ?_⟩
        refine ⟨_, rfl, _, rfl, FL, _, 1, _, rfl, rfl, SqL.of hF16.fl, rfl, _, rfl, TK, _, 1, _, rfl, rfl, SqL.of hF16.tl, rfl, S0, fp 1, L 1, tk 1, 14799980 - i * 9000 - 8600, hF, rfl, hF16.fw 1 hF1, hF16.ls 1 hF1, Nat.le_trans (hF16.ln 1 hF1) (by decide), hF16.rm 1 hF1, G.less ok16 (by omega), fun H17 x17 ok17 => ?_⟩
        refine ⟨_, rfl, iteF ?_⟩
        exact ⟨_, _, _, L, tk, rfl, (hW.ext G x16).ext G x17, hF16.ext G x17, x17.lst (x16.lst hc), G.less ok17 (by omega)⟩
    · rintro σ H13 _
      exact q _
end

end My
open PySem PySem.W PyProof.Rows
set_option maxHeartbeats 0 in
theorem PySem.Challenge.cw_growbook_k13_whole_followers_holds : PySem.Challenge.rw_growbook_k13_whole_followers.Holds := by
  w_on; o_law; k_head; (case hw => w_witness2)
  k_fill
  refine LamX.walk_ofTs (l := PySem.Challenge.rw_growbook_k13_whole_followers) (n := 63) (k := 30) (x := "_law_script") (CX := fun _ => L2.CX0) rfl (by decide) rfl ⟨rfl, by decide, by decide⟩ (fun w h Y => PySem.W.km_in_of Y) ?F (fun _ _ _ _ _ h => h)
  case F =>
    intro w mg fa h Y KX G hmg
    have hT := PySem.W.km_tabs_of Y
    refine My.law_end (c := ?c) KX hT (by kernel_rfl) ?hcode (My.ok_law ?T hmg)
    case T =>
      refine' My.txt_mk KX G ?a0 ?l0 ?c0 ?k0 ?a1 ?l1 ?c1 ?k1 ?a2 ?l2 ?c2 ?k2 ?a3 ?l3 ?c3 ?k3 ?a4 ?l4 ?c4 ?k4 ?a5 ?l5 ?c5 ?k5 ?a6 ?l6 ?c6 ?k6 ?a7 ?l7 ?c7 ?k7 ?a8 ?l8 ?c8 ?k8 ?a9 ?l9 ?c9 ?k9 ?a10 ?l10 ?c10 ?k10 ?a11 ?l11 ?c11 ?k11 ?a12 ?l12 ?c12 ?k12 ?a13 ?l13 ?c13 ?k13 ?a14 ?l14 ?c14 ?k14 ?a15 ?l15 ?c15 ?k15 ?a16 ?l16 ?c16 ?k16 ?a17 ?l17 ?c17 ?k17 ?a18 ?l18 ?c18 ?k18 ?a19 ?l19 ?c19 ?k19 ?a20 ?l20 ?c20 ?k20 ?a21 ?l21 ?c21 ?k21 ?a22 ?l22 ?c22 ?k22 ?a23 ?l23 ?c23 ?k23 ?a24 ?l24 ?c24 ?k24 ?a25 ?l25 ?c25 ?k25 ?a26 ?l26 ?c26 ?k26 ?a27 ?l27 ?c27 ?k27 ?a28 ?l28 ?c28 ?k28 ?a29 ?l29 ?c29 ?k29 ?a30 ?l30 ?c30 ?k30 ?a31 ?l31 ?c31 ?k31 ?a32 ?l32 ?c32 ?k32 ?a33 ?l33 ?c33 ?k33 ?a34 ?l34 ?c34 ?k34 ?a35 ?l35 ?c35 ?k35 ?a36 ?l36 ?c36 ?k36 ?a37 ?l37 ?c37 ?k37 ?z_len ?z_isinstance ?z_int ?z_bool ?z_list ?z_tuple ?z_range ?z_str ?z_sorted ?z_min ?z_enumerate ?z_reversed ?g_BookError ?g_Claim ?g_BadPaper ?xP_BadPaper ?kP_BadPaper ?bP_BadPaper ?tP_BadPaper ?hg_BadPaper ?hk_BadPaper ?hd_BadPaper ?ha_BadPaper ?hn_BadPaper ?ht_BadPaper ?hm_BadPaper ?ex_BadPaper ?g_NoPlace ?xP_NoPlace ?kP_NoPlace ?bP_NoPlace ?tP_NoPlace ?hg_NoPlace ?hk_NoPlace ?hd_NoPlace ?ha_NoPlace ?hn_NoPlace ?ht_NoPlace ?hm_NoPlace ?ex_NoPlace ?g_BadRow ?xL_BadRow ?sa_BadRow ?ga_BadRow ?gg_BadRow ?nf_BadRow ?kC_BadRow ?eC_BadRow ?tC_BadRow ?hC_BadRow ?iac_BadRow ?xm_BadRow ?xe_BadRow ?fi_BadRow ?ti_BadRow ?bg_BadRow ?br_BadRow ?bf_BadRow ?xn_BadRow ?xt_BadRow ?li_BadRow ?ci_BadRow ?ki_BadRow ?g_Table ?pg_Table ?hd_Table ?po_Table ?sa_Table ?n_Table_seal ?n_Table_depth ?n_Table_held ?ia_Table ?in_Table ?it_Table ?im_Table ?aTable0 ?iTable0 ?lTable0 ?cTable0 ?kTable0 ?dTable0 ?mk_Table ?kc_Table ?aTable1 ?iTable1 ?lTable1 ?cTable1 ?kTable1 ?aTable2 ?iTable2 ?lTable2 ?cTable2 ?kTable2 ?aTable3 ?iTable3 ?lTable3 ?cTable3 ?kTable3 ?aTable4 ?iTable4 ?lTable4 ?cTable4 ?kTable4 ?aTable5 ?iTable5 ?lTable5 ?cTable5 ?kTable5 ?aTable6 ?iTable6 ?lTable6 ?cTable6 ?kTable6 ?aTable7 ?iTable7 ?lTable7 ?cTable7 ?kTable7 ?g_Keeper ?pg_Keeper ?hd_Keeper ?po_Keeper ?sa_Keeper ?n_Keeper_seal ?n_Keeper_depth ?n_Keeper_texts ?n_Keeper_tables ?n_Keeper_leaves ?ia_Keeper ?in_Keeper ?it_Keeper ?im_Keeper ?aKeeper0 ?iKeeper0 ?lKeeper0 ?cKeeper0 ?kKeeper0 ?dKeeper0 ?mk_Keeper ?kc_Keeper ?aKeeper1 ?iKeeper1 ?lKeeper1 ?cKeeper1 ?kKeeper1 ?aKeeper2 ?iKeeper2 ?lKeeper2 ?cKeeper2 ?kKeeper2 ?aKeeper3 ?iKeeper3 ?lKeeper3 ?cKeeper3 ?kKeeper3 ?aKeeper4 ?iKeeper4 ?lKeeper4 ?cKeeper4 ?kKeeper4 ?aKeeper5 ?iKeeper5 ?lKeeper5 ?cKeeper5 ?kKeeper5 ?aKeeper6 ?iKeeper6 ?lKeeper6 ?cKeeper6 ?kKeeper6 ?aKeeper7 ?iKeeper7 ?lKeeper7 ?cKeeper7 ?kKeeper7 ?dKeeper7 ?aKeeper8 ?iKeeper8 ?lKeeper8 ?cKeeper8 ?kKeeper8 ?dKeeper8 ?aKeeper9 ?iKeeper9 ?lKeeper9 ?cKeeper9 ?kKeeper9 ?dKeeper9 ?aKeeper10 ?iKeeper10 ?lKeeper10 ?cKeeper10 ?kKeeper10 ?aKeeper11 ?iKeeper11 ?lKeeper11 ?cKeeper11 ?kKeeper11 ?dKeeper11 ?g_Stands ?pg_Stands ?hd_Stands ?po_Stands ?sa_Stands ?n_Stands_place ?n_Stands_words ?n_Stands_table ?ia_Stands ?in_Stands ?it_Stands ?im_Stands ?aStands0 ?iStands0 ?lStands0 ?cStands0 ?kStands0 ?mk_Stands ?kc_Stands ?aStands1 ?iStands1 ?lStands1 ?cStands1 ?kStands1 ?aStands2 ?iStands2 ?lStands2 ?cStands2 ?kStands2 ?g_Grows ?pg_Grows ?hd_Grows ?po_Grows ?sa_Grows ?n_Grows_old ?n_Grows_before ?ia_Grows ?in_Grows ?it_Grows ?im_Grows ?aGrows0 ?iGrows0 ?lGrows0 ?cGrows0 ?kGrows0 ?mk_Grows ?kc_Grows ?aGrows1 ?iGrows1 ?lGrows1 ?cGrows1 ?kGrows1 ?aGrows2 ?iGrows2 ?lGrows2 ?cGrows2 ?kGrows2 ?g_Follower ?pg_Follower ?hd_Follower ?po_Follower ?sa_Follower ?n_Follower_seal ?n_Follower_count ?n_Follower_newest ?ia_Follower ?in_Follower ?it_Follower ?im_Follower ?aFollower0 ?iFollower0 ?lFollower0 ?cFollower0 ?kFollower0 ?mk_Follower ?kc_Follower ?aFollower1 ?iFollower1 ?lFollower1 ?cFollower1 ?kFollower1 ?aFollower2 ?iFollower2 ?lFollower2 ?cFollower2 ?kFollower2 ?aFollower3 ?iFollower3 ?lFollower3 ?cFollower3 ?kFollower3 ?aFollower4 ?iFollower4 ?lFollower4 ?cFollower4 ?kFollower4
      (case a0 => k_is)
      (case l0 => k_is)
      (case c0 => k_is)
      (case k0 => k_is)
      (case a1 => k_is)
      (case l1 => k_is)
      (case c1 => k_is)
      (case k1 => k_is)
      (case a2 => k_is)
      (case l2 => k_is)
      (case c2 => k_is)
      (case k2 => k_is)
      (case a3 => k_is)
      (case l3 => k_is)
      (case c3 => k_is)
      (case k3 => k_is)
      (case a4 => k_is)
      (case l4 => k_is)
      (case c4 => k_is)
      (case k4 => k_is)
      (case a5 => k_is)
      (case l5 => k_is)
      (case c5 => k_is)
      (case k5 => k_is)
      (case a6 => k_is)
      (case l6 => k_is)
      (case c6 => k_is)
      (case k6 => k_is)
      (case a7 => k_is)
      (case l7 => k_is)
      (case c7 => k_is)
      (case k7 => k_is)
      (case a8 => k_is)
      (case l8 => k_is)
      (case c8 => k_is)
      (case k8 => k_is)
      (case a9 => k_is)
      (case l9 => k_is)
      (case c9 => k_is)
      (case k9 => k_is)
      (case a10 => k_is)
      (case l10 => k_is)
      (case c10 => k_is)
      (case k10 => k_is)
      (case a11 => k_is)
      (case l11 => k_is)
      (case c11 => k_is)
      (case k11 => k_is)
      (case a12 => k_is)
      (case l12 => k_is)
      (case c12 => k_is)
      (case k12 => k_is)
      (case a13 => k_is)
      (case l13 => k_is)
      (case c13 => k_is)
      (case k13 => k_is)
      (case a14 => k_is)
      (case l14 => k_is)
      (case c14 => k_is)
      (case k14 => k_is)
      (case a15 => k_is)
      (case l15 => k_is)
      (case c15 => k_is)
      (case k15 => k_is)
      (case a16 => k_is)
      (case l16 => k_is)
      (case c16 => k_is)
      (case k16 => k_is)
      (case a17 => k_is)
      (case l17 => k_is)
      (case c17 => k_is)
      (case k17 => k_is)
      (case a18 => k_is)
      (case l18 => k_is)
      (case c18 => k_is)
      (case k18 => k_is)
      (case a19 => k_is)
      (case l19 => k_is)
      (case c19 => k_is)
      (case k19 => k_is)
      (case a20 => k_is)
      (case l20 => k_is)
      (case c20 => k_is)
      (case k20 => k_is)
      (case a21 => k_is)
      (case l21 => k_is)
      (case c21 => k_is)
      (case k21 => k_is)
      (case a22 => k_is)
      (case l22 => k_is)
      (case c22 => k_is)
      (case k22 => k_is)
      (case a23 => k_is)
      (case l23 => k_is)
      (case c23 => k_is)
      (case k23 => k_is)
      (case a24 => k_is)
      (case l24 => k_is)
      (case c24 => k_is)
      (case k24 => k_is)
      (case a25 => k_is)
      (case l25 => k_is)
      (case c25 => k_is)
      (case k25 => k_is)
      (case a26 => k_is)
      (case l26 => k_is)
      (case c26 => k_is)
      (case k26 => k_is)
      (case a27 => k_is)
      (case l27 => k_is)
      (case c27 => k_is)
      (case k27 => k_is)
      (case a28 => k_is)
      (case l28 => k_is)
      (case c28 => k_is)
      (case k28 => k_is)
      (case a29 => k_is)
      (case l29 => k_is)
      (case c29 => k_is)
      (case k29 => k_is)
      (case a30 => k_is)
      (case l30 => k_is)
      (case c30 => k_is)
      (case k30 => k_is)
      (case a31 => k_is)
      (case l31 => k_is)
      (case c31 => k_is)
      (case k31 => k_is)
      (case a32 => k_is)
      (case l32 => k_is)
      (case c32 => k_is)
      (case k32 => k_is)
      (case a33 => k_is)
      (case l33 => k_is)
      (case c33 => k_is)
      (case k33 => k_is)
      (case a34 => k_is)
      (case l34 => k_is)
      (case c34 => k_is)
      (case k34 => k_is)
      (case a35 => k_is)
      (case l35 => k_is)
      (case c35 => k_is)
      (case k35 => k_is)
      (case a36 => k_is)
      (case l36 => k_is)
      (case c36 => k_is)
      (case k36 => k_is)
      (case a37 => k_is)
      (case l37 => k_is)
      (case c37 => k_is)
      (case k37 => k_is)
      (case z_len => k_is)
      (case z_isinstance => k_is)
      (case z_int => k_is)
      (case z_bool => k_is)
      (case z_list => k_is)
      (case z_tuple => k_is)
      (case z_range => k_is)
      (case z_str => k_is)
      (case z_sorted => k_is)
      (case z_min => k_is)
      (case z_enumerate => k_is)
      (case z_reversed => k_is)
      (case g_BookError => k_is)
      (case g_Claim => k_is)
      (case g_BadPaper => k_is)
      (case xP_BadPaper => k_exc)
      (case kP_BadPaper => k_is)
      (case bP_BadPaper => k_is)
      (case tP_BadPaper => k_is)
      (case hg_BadPaper => k_is)
      (case hk_BadPaper => k_is)
      (case hd_BadPaper => k_is)
      (case ha_BadPaper => k_is)
      (case hn_BadPaper => k_is)
      (case ht_BadPaper => k_is)
      (case hm_BadPaper => k_is)
      (case ex_BadPaper => kernel_rfl)
      (case g_NoPlace => k_is)
      (case xP_NoPlace => k_exc)
      (case kP_NoPlace => k_is)
      (case bP_NoPlace => k_is)
      (case tP_NoPlace => k_is)
      (case hg_NoPlace => k_is)
      (case hk_NoPlace => k_is)
      (case hd_NoPlace => k_is)
      (case ha_NoPlace => k_is)
      (case hn_NoPlace => k_is)
      (case ht_NoPlace => k_is)
      (case hm_NoPlace => k_is)
      (case ex_NoPlace => kernel_rfl)
      (case g_BadRow => k_is)
      (case xL_BadRow => k_is)
      (case sa_BadRow => k_is)
      (case ga_BadRow => k_is)
      (case gg_BadRow => k_is)
      (case nf_BadRow => k_is)
      (case kC_BadRow => k_is)
      (case eC_BadRow => k_is)
      (case tC_BadRow => k_is)
      (case hC_BadRow => k_is)
      (case iac_BadRow => k_is)
      (case xm_BadRow => k_is)
      (case xe_BadRow => kernel_rfl)
      (case fi_BadRow => k_is)
      (case ti_BadRow => k_is)
      (case bg_BadRow => k_is)
      (case br_BadRow => kernel_rfl)
      (case bf_BadRow => kernel_rfl)
      (case xn_BadRow => k_is)
      (case xt_BadRow => k_is)
      (case li_BadRow => k_is)
      (case ci_BadRow => k_is)
      (case ki_BadRow => k_is)
      (case g_Table => k_is)
      (case pg_Table => k_is)
      (case hd_Table => k_is)
      (case po_Table => k_is)
      (case sa_Table => k_is)
      (case n_Table_seal => k_is)
      (case n_Table_depth => k_is)
      (case n_Table_held => k_is)
      (case ia_Table => k_is)
      (case in_Table => k_is)
      (case it_Table => k_is)
      (case im_Table => k_is)
      (case aTable0 => k_is)
      (case iTable0 => k_is)
      (case lTable0 => k_is)
      (case cTable0 => k_is)
      (case kTable0 => k_is)
      (case dTable0 => k_is)
      (case mk_Table => k_is)
      (case kc_Table => k_is)
      (case aTable1 => k_is)
      (case iTable1 => k_is)
      (case lTable1 => k_is)
      (case cTable1 => k_is)
      (case kTable1 => k_is)
      (case aTable2 => k_is)
      (case iTable2 => k_is)
      (case lTable2 => k_is)
      (case cTable2 => k_is)
      (case kTable2 => k_is)
      (case aTable3 => k_is)
      (case iTable3 => k_is)
      (case lTable3 => k_is)
      (case cTable3 => k_is)
      (case kTable3 => k_is)
      (case aTable4 => k_is)
      (case iTable4 => k_is)
      (case lTable4 => k_is)
      (case cTable4 => k_is)
      (case kTable4 => k_is)
      (case aTable5 => k_is)
      (case iTable5 => k_is)
      (case lTable5 => k_is)
      (case cTable5 => k_is)
      (case kTable5 => k_is)
      (case aTable6 => k_is)
      (case iTable6 => k_is)
      (case lTable6 => k_is)
      (case cTable6 => k_is)
      (case kTable6 => k_is)
      (case aTable7 => k_is)
      (case iTable7 => k_is)
      (case lTable7 => k_is)
      (case cTable7 => k_is)
      (case kTable7 => k_is)
      (case g_Keeper => k_is)
      (case pg_Keeper => k_is)
      (case hd_Keeper => k_is)
      (case po_Keeper => k_is)
      (case sa_Keeper => k_is)
      (case n_Keeper_seal => k_is)
      (case n_Keeper_depth => k_is)
      (case n_Keeper_texts => k_is)
      (case n_Keeper_tables => k_is)
      (case n_Keeper_leaves => k_is)
      (case ia_Keeper => k_is)
      (case in_Keeper => k_is)
      (case it_Keeper => k_is)
      (case im_Keeper => k_is)
      (case aKeeper0 => k_is)
      (case iKeeper0 => k_is)
      (case lKeeper0 => k_is)
      (case cKeeper0 => k_is)
      (case kKeeper0 => k_is)
      (case dKeeper0 => k_is)
      (case mk_Keeper => k_is)
      (case kc_Keeper => k_is)
      (case aKeeper1 => k_is)
      (case iKeeper1 => k_is)
      (case lKeeper1 => k_is)
      (case cKeeper1 => k_is)
      (case kKeeper1 => k_is)
      (case aKeeper2 => k_is)
      (case iKeeper2 => k_is)
      (case lKeeper2 => k_is)
      (case cKeeper2 => k_is)
      (case kKeeper2 => k_is)
      (case aKeeper3 => k_is)
      (case iKeeper3 => k_is)
      (case lKeeper3 => k_is)
      (case cKeeper3 => k_is)
      (case kKeeper3 => k_is)
      (case aKeeper4 => k_is)
      (case iKeeper4 => k_is)
      (case lKeeper4 => k_is)
      (case cKeeper4 => k_is)
      (case kKeeper4 => k_is)
      (case aKeeper5 => k_is)
      (case iKeeper5 => k_is)
      (case lKeeper5 => k_is)
      (case cKeeper5 => k_is)
      (case kKeeper5 => k_is)
      (case aKeeper6 => k_is)
      (case iKeeper6 => k_is)
      (case lKeeper6 => k_is)
      (case cKeeper6 => k_is)
      (case kKeeper6 => k_is)
      (case aKeeper7 => k_is)
      (case iKeeper7 => k_is)
      (case lKeeper7 => k_is)
      (case cKeeper7 => k_is)
      (case kKeeper7 => k_is)
      (case dKeeper7 => k_is)
      (case aKeeper8 => k_is)
      (case iKeeper8 => k_is)
      (case lKeeper8 => k_is)
      (case cKeeper8 => k_is)
      (case kKeeper8 => k_is)
      (case dKeeper8 => k_is)
      (case aKeeper9 => k_is)
      (case iKeeper9 => k_is)
      (case lKeeper9 => k_is)
      (case cKeeper9 => k_is)
      (case kKeeper9 => k_is)
      (case dKeeper9 => k_is)
      (case aKeeper10 => k_is)
      (case iKeeper10 => k_is)
      (case lKeeper10 => k_is)
      (case cKeeper10 => k_is)
      (case kKeeper10 => k_is)
      (case aKeeper11 => k_is)
      (case iKeeper11 => k_is)
      (case lKeeper11 => k_is)
      (case cKeeper11 => k_is)
      (case kKeeper11 => k_is)
      (case dKeeper11 => k_is)
      (case g_Stands => k_is)
      (case pg_Stands => k_is)
      (case hd_Stands => k_is)
      (case po_Stands => k_is)
      (case sa_Stands => k_is)
      (case n_Stands_place => k_is)
      (case n_Stands_words => k_is)
      (case n_Stands_table => k_is)
      (case ia_Stands => k_is)
      (case in_Stands => k_is)
      (case it_Stands => k_is)
      (case im_Stands => k_is)
      (case aStands0 => k_is)
      (case iStands0 => k_is)
      (case lStands0 => k_is)
      (case cStands0 => k_is)
      (case kStands0 => k_is)
      (case mk_Stands => k_is)
      (case kc_Stands => k_is)
      (case aStands1 => k_is)
      (case iStands1 => k_is)
      (case lStands1 => k_is)
      (case cStands1 => k_is)
      (case kStands1 => k_is)
      (case aStands2 => k_is)
      (case iStands2 => k_is)
      (case lStands2 => k_is)
      (case cStands2 => k_is)
      (case kStands2 => k_is)
      (case g_Grows => k_is)
      (case pg_Grows => k_is)
      (case hd_Grows => k_is)
      (case po_Grows => k_is)
      (case sa_Grows => k_is)
      (case n_Grows_old => k_is)
      (case n_Grows_before => k_is)
      (case ia_Grows => k_is)
      (case in_Grows => k_is)
      (case it_Grows => k_is)
      (case im_Grows => k_is)
      (case aGrows0 => k_is)
      (case iGrows0 => k_is)
      (case lGrows0 => k_is)
      (case cGrows0 => k_is)
      (case kGrows0 => k_is)
      (case mk_Grows => k_is)
      (case kc_Grows => k_is)
      (case aGrows1 => k_is)
      (case iGrows1 => k_is)
      (case lGrows1 => k_is)
      (case cGrows1 => k_is)
      (case kGrows1 => k_is)
      (case aGrows2 => k_is)
      (case iGrows2 => k_is)
      (case lGrows2 => k_is)
      (case cGrows2 => k_is)
      (case kGrows2 => k_is)
      (case g_Follower => k_is)
      (case pg_Follower => k_is)
      (case hd_Follower => k_is)
      (case po_Follower => k_is)
      (case sa_Follower => k_is)
      (case n_Follower_seal => k_is)
      (case n_Follower_count => k_is)
      (case n_Follower_newest => k_is)
      (case ia_Follower => k_is)
      (case in_Follower => k_is)
      (case it_Follower => k_is)
      (case im_Follower => k_is)
      (case aFollower0 => k_is)
      (case iFollower0 => k_is)
      (case lFollower0 => k_is)
      (case cFollower0 => k_is)
      (case kFollower0 => k_is)
      (case mk_Follower => k_is)
      (case kc_Follower => k_is)
      (case aFollower1 => k_is)
      (case iFollower1 => k_is)
      (case lFollower1 => k_is)
      (case cFollower1 => k_is)
      (case kFollower1 => k_is)
      (case aFollower2 => k_is)
      (case iFollower2 => k_is)
      (case lFollower2 => k_is)
      (case cFollower2 => k_is)
      (case kFollower2 => k_is)
      (case aFollower3 => k_is)
      (case iFollower3 => k_is)
      (case lFollower3 => k_is)
      (case cFollower3 => k_is)
      (case kFollower3 => k_is)
      (case aFollower4 => k_is)
      (case iFollower4 => k_is)
      (case lFollower4 => k_is)
      (case cFollower4 => k_is)
      (case kFollower4 => k_is)
    case hcode => kernel_rfl
#print axioms PySem.Challenge.cw_growbook_k13_whole_followers_holds

