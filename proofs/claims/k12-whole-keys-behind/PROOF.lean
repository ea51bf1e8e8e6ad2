import PyProof.Rows.All
import Wide.All
import OpenK.AllK
import Wide.FinOn
import HandS.ForMost
import HandS.WideBits
import HandS.IsInst
import HandS.Codes
import HandS.Evl
import HandS.Nested
import HandS.EndTab
import HandS.TupLen
import HandS.Conv
import HandS.Rev
import HandS.ForExc
import HandS.ExcIs
import HandS.TryElse
import HandS.Style
import HandS.Defaults
import HandS.SortInts
import HandS.More
import HandS.Walk
import HandS.HotCalls
import HandS.SuiteRaise
import PySem.Challenge.RW_growbook_k12_whole_keys_behind

import HandS.ExcInit
import HandS.ExcInitHot
import HandS.ExcField
import HandS.StrMore
import HandS.TupAny
import HandS.CallSlots
import HandS.ClsMeth
set_option Elab.async false
set_option linter.all false
set_option maxRecDepth 100000
set_option maxHeartbeats 4000000
namespace My
open PySem PySem.Spec PyProof.Rows L2
open C8 (Cal Met Mak CalAt pe_c pe_mk pe_mt pe_mt0)

/-! ### the text by places -/
def inDef (s : Stmt) (j : Nat) : Stmt := (defBody s).getD j (.Pass ⟨0, 0, 0, 0⟩)
def topS (i : Nat) : Stmt := PySem.Challenge.pw_growbook_k12_whole_keys_behind.main.body.getD i (.Pass ⟨0, 0, 0, 0⟩)
abbrev s__wall : Stmt := topS 0
abbrev N__wall : List Str := ["k"]
theorem sc__wall : FnScope ["k"] ["k"] (defScope s__wall) := ⟨rfl, rfl, rfl, by decide +kernel, rfl, by decide +kernel, by decide +kernel⟩
abbrev s_BadRow___init__ : Stmt := inClass (topS 5) 0
abbrev N_BadRow___init__ : List Str := ["self", "row"]
theorem sc_BadRow___init__ : FnScope ["self", "row"] ["self", "row"] (defScope s_BadRow___init__) := ⟨rfl, rfl, rfl, by decide +kernel, rfl, by decide +kernel, by decide +kernel⟩
abbrev s_split : Stmt := topS 7
abbrev N_split : List Str := ["size"]
theorem sc_split : FnScope ["size"] ["size"] (defScope s_split) := ⟨rfl, rfl, rfl, by decide +kernel, rfl, by decide +kernel, by decide +kernel⟩
abbrev s_none_seal : Stmt := topS 8
abbrev N_none_seal : List Str := ["seal"]
theorem sc_none_seal : FnScope ["seal"] ["seal"] (defScope s_none_seal) := ⟨rfl, rfl, rfl, by decide +kernel, rfl, by decide +kernel, by decide +kernel⟩
abbrev s_leaf_seal : Stmt := topS 9
abbrev N_leaf_seal : List Str := ["seal", "text", "table"]
theorem sc_leaf_seal : FnScope ["seal", "text", "table"] ["seal", "text", "table"] (defScope s_leaf_seal) := ⟨rfl, rfl, rfl, by decide +kernel, rfl, by decide +kernel, by decide +kernel⟩
abbrev s_pair_seal : Stmt := topS 10
abbrev N_pair_seal : List Str := ["seal", "left", "right"]
theorem sc_pair_seal : FnScope ["seal", "left", "right"] ["seal", "left", "right"] (defScope s_pair_seal) := ⟨rfl, rfl, rfl, by decide +kernel, rfl, by decide +kernel, by decide +kernel⟩
abbrev s_book_seal : Stmt := topS 11
abbrev N_book_seal : List Str := ["seal", "size", "top"]
theorem sc_book_seal : FnScope ["seal", "size", "top"] ["seal", "size", "top"] (defScope s_book_seal) := ⟨rfl, rfl, rfl, by decide +kernel, rfl, by decide +kernel, by decide +kernel⟩
abbrev s_top_of : Stmt := topS 12
abbrev N_top_of : List Str := ["seal", "leaves", "k"]
theorem sc_top_of : FnScope ["seal", "leaves", "k"] ["seal", "leaves"] (defScope s_top_of) := ⟨rfl, rfl, rfl, by decide +kernel, rfl, by decide +kernel, by decide +kernel⟩
abbrev s_path_of : Stmt := topS 13
abbrev N_path_of : List Str := ["seal", "leaves", "place", "k"]
theorem sc_path_of : FnScope ["seal", "leaves", "place", "k"] ["seal", "leaves", "place"] (defScope s_path_of) := ⟨rfl, rfl, rfl, by decide +kernel, rfl, by decide +kernel, by decide +kernel⟩
abbrev s_growth_of : Stmt := topS 14
abbrev N_growth_of : List Str := ["seal", "leaves", "old", "k"]
theorem sc_growth_of : FnScope ["seal", "leaves", "old", "k"] ["seal", "leaves", "old"] (defScope s_growth_of) := ⟨rfl, rfl, rfl, by decide +kernel, rfl, by decide +kernel, by decide +kernel⟩
abbrev s_last_of : Stmt := topS 15
abbrev N_last_of : List Str := ["paper"]
theorem sc_last_of : FnScope ["paper"] ["paper"] (defScope s_last_of) := ⟨rfl, rfl, rfl, by decide +kernel, rfl, by decide +kernel, by decide +kernel⟩
abbrev s_risen : Stmt := topS 16
abbrev N_risen : List Str := ["seal", "leaf", "place", "size", "path", "rest", "sides", "last", "k", "found", "low"]
theorem sc_risen : FnScope ["seal", "leaf", "place", "size", "path", "rest", "sides", "last", "k", "found", "low"] ["seal", "leaf", "place", "size", "path"] (defScope s_risen) := ⟨rfl, rfl, rfl, by decide +kernel, rfl, by decide +kernel, by decide +kernel⟩
abbrev s_regrown : Stmt := topS 17
abbrev N_regrown : List Str := ["seal", "old", "size", "paper", "last", "rest", "sides", "k", "one", "other", "low"]
theorem sc_regrown : FnScope ["seal", "old", "size", "paper", "last", "rest", "sides", "k", "one", "other", "low"] ["seal", "old", "size", "paper"] (defScope s_regrown) := ⟨rfl, rfl, rfl, by decide +kernel, rfl, by decide +kernel, by decide +kernel⟩
abbrev s_parted : Stmt := topS 19
abbrev N_parted : List Str := ["rows", "level", "low", "high", "row"]
theorem sc_parted : FnScope ["rows", "level", "low", "high", "row"] ["rows", "level"] (defScope s_parted) := ⟨rfl, rfl, rfl, by decide +kernel, rfl, by decide +kernel, by decide +kernel⟩
abbrev s_part_top : Stmt := topS 20
abbrev N_part_top : List Str := ["seal", "rows", "level", "both"]
theorem sc_part_top : FnScope ["seal", "rows", "level", "both"] ["seal", "rows", "level"] (defScope s_part_top) := ⟨rfl, rfl, rfl, by decide +kernel, rfl, by decide +kernel, by decide +kernel⟩
abbrev s_table_seal : Stmt := topS 21
abbrev N_table_seal : List Str := ["seal", "depth", "top"]
theorem sc_table_seal : FnScope ["seal", "depth", "top"] ["seal", "depth", "top"] (defScope s_table_seal) := ⟨rfl, rfl, rfl, by decide +kernel, rfl, by decide +kernel, by decide +kernel⟩
abbrev s_climbed : Stmt := topS 22
abbrev N_climbed : List Str := ["seal", "key", "depth", "way", "end", "top", "level", "other"]
theorem sc_climbed : FnScope ["seal", "key", "depth", "way", "end", "top", "level", "other"] ["seal", "key", "depth", "way"] (defScope s_climbed) := ⟨rfl, rfl, rfl, by decide +kernel, rfl, by decide +kernel, by decide +kernel⟩
abbrev s_Table___init__ : Stmt := inClass (topS 23) 0
abbrev N_Table___init__ : List Str := ["self", "seal", "depth"]
theorem sc_Table___init__ : FnScope ["self", "seal", "depth"] ["self", "seal", "depth"] (defScope s_Table___init__) := ⟨rfl, rfl, rfl, by decide +kernel, rfl, by decide +kernel, by decide +kernel⟩
abbrev s_Table_asked : Stmt := inClass (topS 23) 1
abbrev N_Table_asked : List Str := ["self", "key"]
theorem sc_Table_asked : FnScope ["self", "key"] ["self", "key"] (defScope s_Table_asked) := ⟨rfl, rfl, rfl, by decide +kernel, rfl, by decide +kernel, by decide +kernel⟩
abbrev s_Table_put : Stmt := inClass (topS 23) 2
abbrev N_Table_put : List Str := ["self", "key", "text"]
theorem sc_Table_put : FnScope ["self", "key", "text"] ["self", "key", "text"] (defScope s_Table_put) := ⟨rfl, rfl, rfl, by decide +kernel, rfl, by decide +kernel, by decide +kernel⟩
abbrev s_Table_cut : Stmt := inClass (topS 23) 3
abbrev N_Table_cut : List Str := ["self", "key"]
theorem sc_Table_cut : FnScope ["self", "key"] ["self", "key"] (defScope s_Table_cut) := ⟨rfl, rfl, rfl, by decide +kernel, rfl, by decide +kernel, by decide +kernel⟩
abbrev s_Table_value : Stmt := inClass (topS 23) 4
abbrev N_Table_value : List Str := ["self", "key"]
theorem sc_Table_value : FnScope ["self", "key"] ["self", "key"] (defScope s_Table_value) := ⟨rfl, rfl, rfl, by decide +kernel, rfl, by decide +kernel, by decide +kernel⟩
abbrev s_Table_rows : Stmt := inClass (topS 23) 5
abbrev N_Table_rows : List Str := ["self", "key", "text"]
theorem sc_Table_rows : FnScope ["self", "key", "text"] ["self"] (defScope s_Table_rows) := ⟨rfl, rfl, rfl, by decide +kernel, rfl, by decide +kernel, by decide +kernel⟩
abbrev s_Table_head : Stmt := inClass (topS 23) 6
abbrev N_Table_head : List Str := ["self"]
theorem sc_Table_head : FnScope ["self"] ["self"] (defScope s_Table_head) := ⟨rfl, rfl, rfl, by decide +kernel, rfl, by decide +kernel, by decide +kernel⟩
abbrev s_Table_way : Stmt := inClass (topS 23) 7
abbrev N_Table_way : List Str := ["self", "key", "rows", "level", "others", "both", "bit"]
theorem sc_Table_way : FnScope ["self", "key", "rows", "level", "others", "both", "bit"] ["self", "key"] (defScope s_Table_way) := ⟨rfl, rfl, rfl, by decide +kernel, rfl, by decide +kernel, by decide +kernel⟩
abbrev s_Table_twin : Stmt := inClass (topS 23) 8
abbrev N_Table_twin : List Str := ["self"]
theorem sc_Table_twin : FnScope ["self"] ["self"] (defScope s_Table_twin) := ⟨rfl, rfl, rfl, by decide +kernel, rfl, by decide +kernel, by decide +kernel⟩
abbrev s_Claim_judged : Stmt := inClass (topS 25) 0
abbrev N_Claim_judged : List Str := ["self", "seal", "size", "head", "paper", "shows"]
theorem sc_Claim_judged : FnScope ["self", "seal", "size", "head", "paper", "shows"] ["self", "seal", "size", "head", "paper"] (defScope s_Claim_judged) := ⟨rfl, rfl, rfl, by decide +kernel, rfl, by decide +kernel, by decide +kernel⟩
abbrev s_Claim_shown : Stmt := inClass (topS 25) 1
abbrev N_Claim_shown : List Str := ["self", "seal", "size", "head", "paper"]
theorem sc_Claim_shown : FnScope ["self", "seal", "size", "head", "paper"] ["self", "seal", "size", "head", "paper"] (defScope s_Claim_shown) := ⟨rfl, rfl, rfl, by decide +kernel, rfl, by decide +kernel, by decide +kernel⟩
abbrev s_Stands___init__ : Stmt := inClass (topS 26) 0
abbrev N_Stands___init__ : List Str := ["self", "place", "text", "table"]
theorem sc_Stands___init__ : FnScope ["self", "place", "text", "table"] ["self", "place", "text", "table"] (defScope s_Stands___init__) := ⟨rfl, rfl, rfl, by decide +kernel, rfl, by decide +kernel, by decide +kernel⟩
abbrev s_Stands_shown : Stmt := inClass (topS 26) 1
abbrev N_Stands_shown : List Str := ["self", "seal", "size", "head", "paper", "leaf"]
theorem sc_Stands_shown : FnScope ["self", "seal", "size", "head", "paper", "leaf"] ["self", "seal", "size", "head", "paper"] (defScope s_Stands_shown) := ⟨rfl, rfl, rfl, by decide +kernel, rfl, by decide +kernel, by decide +kernel⟩
abbrev s_Grows___init__ : Stmt := inClass (topS 27) 0
abbrev N_Grows___init__ : List Str := ["self", "old", "head"]
theorem sc_Grows___init__ : FnScope ["self", "old", "head"] ["self", "old", "head"] (defScope s_Grows___init__) := ⟨rfl, rfl, rfl, by decide +kernel, rfl, by decide +kernel, by decide +kernel⟩
abbrev s_Grows_shown : Stmt := inClass (topS 27) 1
abbrev N_Grows_shown : List Str := ["self", "seal", "size", "head", "paper", "empty", "both"]
theorem sc_Grows_shown : FnScope ["self", "seal", "size", "head", "paper", "empty", "both"] ["self", "seal", "size", "head", "paper"] (defScope s_Grows_shown) := ⟨rfl, rfl, rfl, by decide +kernel, rfl, by decide +kernel, by decide +kernel⟩
abbrev s_Behind___init__ : Stmt := inClass (topS 28) 0
abbrev N_Behind___init__ : List Str := ["self", "place", "key", "depth"]
theorem sc_Behind___init__ : FnScope ["self", "place", "key", "depth"] ["self", "place", "key", "depth"] (defScope s_Behind___init__) := ⟨rfl, rfl, rfl, by decide +kernel, rfl, by decide +kernel, by decide +kernel⟩
abbrev s_Behind_ends : Stmt := inClass (topS 28) 1
abbrev N_Behind_ends : List Str := ["self", "end"]
theorem sc_Behind_ends : FnScope ["self", "end"] ["self", "end"] (defScope s_Behind_ends) := ⟨rfl, rfl, rfl, by decide +kernel, rfl, by decide +kernel, by decide +kernel⟩
abbrev s_Behind_shown : Stmt := inClass (topS 28) 2
abbrev N_Behind_shown : List Str := ["self", "seal", "size", "head", "paper", "entry", "top"]
theorem sc_Behind_shown : FnScope ["self", "seal", "size", "head", "paper", "entry", "top"] ["self", "seal", "size", "head", "paper"] (defScope s_Behind_shown) := ⟨rfl, rfl, rfl, by decide +kernel, rfl, by decide +kernel, by decide +kernel⟩
abbrev s_Holds___init__ : Stmt := inClass (topS 29) 0
abbrev N_Holds___init__ : List Str := ["self", "place", "key", "value", "depth"]
theorem sc_Holds___init__ : FnScope ["self", "place", "key", "value", "depth"] ["self", "place", "key", "value", "depth"] (defScope s_Holds___init__) := ⟨rfl, rfl, rfl, by decide +kernel, rfl, by decide +kernel, by decide +kernel⟩
abbrev s_Holds_ends : Stmt := inClass (topS 29) 1
abbrev N_Holds_ends : List Str := ["self", "end"]
theorem sc_Holds_ends : FnScope ["self", "end"] ["self", "end"] (defScope s_Holds_ends) := ⟨rfl, rfl, rfl, by decide +kernel, rfl, by decide +kernel, by decide +kernel⟩
abbrev s_Lacks_ends : Stmt := inClass (topS 30) 0
abbrev N_Lacks_ends : List Str := ["self", "end"]
theorem sc_Lacks_ends : FnScope ["self", "end"] ["self", "end"] (defScope s_Lacks_ends) := ⟨rfl, rfl, rfl, by decide +kernel, rfl, by decide +kernel, by decide +kernel⟩
abbrev s_Follower___init__ : Stmt := inClass (topS 32) 0
abbrev N_Follower___init__ : List Str := ["self", "seal"]
theorem sc_Follower___init__ : FnScope ["self", "seal"] ["self", "seal"] (defScope s_Follower___init__) := ⟨rfl, rfl, rfl, by decide +kernel, rfl, by decide +kernel, by decide +kernel⟩
abbrev s_Follower_size : Stmt := inClass (topS 32) 1
abbrev N_Follower_size : List Str := ["self"]
theorem sc_Follower_size : FnScope ["self"] ["self"] (defScope s_Follower_size) := ⟨rfl, rfl, rfl, by decide +kernel, rfl, by decide +kernel, by decide +kernel⟩
abbrev s_Follower_head : Stmt := inClass (topS 32) 2
abbrev N_Follower_head : List Str := ["self"]
theorem sc_Follower_head : FnScope ["self"] ["self"] (defScope s_Follower_head) := ⟨rfl, rfl, rfl, by decide +kernel, rfl, by decide +kernel, by decide +kernel⟩
abbrev s_Follower_take : Stmt := inClass (topS 32) 3
abbrev N_Follower_take : List Str := ["self", "size", "head", "paper", "claim"]
theorem sc_Follower_take : FnScope ["self", "size", "head", "paper", "claim"] ["self", "size", "head", "paper"] (defScope s_Follower_take) := ⟨rfl, rfl, rfl, by decide +kernel, rfl, by decide +kernel, by decide +kernel⟩
abbrev s_Follower_judge : Stmt := inClass (topS 32) 4
abbrev N_Follower_judge : List Str := ["self", "claim", "paper"]
theorem sc_Follower_judge : FnScope ["self", "claim", "paper"] ["self", "claim", "paper"] (defScope s_Follower_judge) := ⟨rfl, rfl, rfl, by decide +kernel, rfl, by decide +kernel, by decide +kernel⟩
abbrev s_key_of : Stmt := topS 34
abbrev N_key_of : List Str := ["figures", "depth", "key"]
theorem sc_key_of : FnScope ["figures", "depth", "key"] ["figures", "depth"] (defScope s_key_of) := ⟨rfl, rfl, rfl, by decide +kernel, rfl, by decide +kernel, by decide +kernel⟩
abbrev s_read_row : Stmt := topS 35
abbrev N_read_row : List Str := ["row", "depth", "bare", "word", "blank", "rest", "figures", "behind", "text", "key"]
theorem sc_read_row : FnScope ["row", "depth", "bare", "word", "blank", "rest", "figures", "behind", "text", "key"] ["row", "depth"] (defScope s_read_row) := ⟨rfl, rfl, rfl, by decide +kernel, rfl, by decide +kernel, by decide +kernel⟩
abbrev s_placed : Stmt := topS 36
abbrev N_placed : List Str := ["row", "place", "depth", "said"]
theorem sc_placed : FnScope ["row", "place", "depth", "said"] ["row", "place", "depth"] (defScope s_placed) := ⟨rfl, rfl, rfl, by decide +kernel, rfl, by decide +kernel, by decide +kernel⟩
abbrev s_changed : Stmt := topS 37
abbrev N_changed : List Str := ["table", "text", "depth", "other", "key", "value", "place", "row", "said"]
theorem sc_changed : FnScope ["table", "text", "depth", "other", "key", "value", "place", "row", "said"] ["table", "text", "depth"] (defScope s_changed) := ⟨rfl, rfl, rfl, by decide +kernel, rfl, by decide +kernel, by decide +kernel⟩
abbrev s_Keeper___init__ : Stmt := inClass (topS 39) 0
abbrev N_Keeper___init__ : List Str := ["self", "seal", "depth"]
theorem sc_Keeper___init__ : FnScope ["self", "seal", "depth"] ["self", "seal", "depth"] (defScope s_Keeper___init__) := ⟨rfl, rfl, rfl, by decide +kernel, rfl, by decide +kernel, by decide +kernel⟩
abbrev s_Keeper_add : Stmt := inClass (topS 39) 1
abbrev N_Keeper_add : List Str := ["self", "text", "last", "table"]
theorem sc_Keeper_add : FnScope ["self", "text", "last", "table"] ["self", "text"] (defScope s_Keeper_add) := ⟨rfl, rfl, rfl, by decide +kernel, rfl, by decide +kernel, by decide +kernel⟩
abbrev s_Keeper_size : Stmt := inClass (topS 39) 2
abbrev N_Keeper_size : List Str := ["self"]
theorem sc_Keeper_size : FnScope ["self"] ["self"] (defScope s_Keeper_size) := ⟨rfl, rfl, rfl, by decide +kernel, rfl, by decide +kernel, by decide +kernel⟩
abbrev s_Keeper_first : Stmt := inClass (topS 39) 3
abbrev N_Keeper_first : List Str := ["self", "size"]
theorem sc_Keeper_first : FnScope ["self", "size"] ["self", "size"] (defScope s_Keeper_first) := ⟨rfl, rfl, rfl, by decide +kernel, rfl, by decide +kernel, by decide +kernel⟩
abbrev s_Keeper_within : Stmt := inClass (topS 39) 4
abbrev N_Keeper_within : List Str := ["self", "place", "size"]
theorem sc_Keeper_within : FnScope ["self", "place", "size"] ["self", "place", "size"] (defScope s_Keeper_within) := ⟨rfl, rfl, rfl, by decide +kernel, rfl, by decide +kernel, by decide +kernel⟩
abbrev s_Keeper_text : Stmt := inClass (topS 39) 5
abbrev N_Keeper_text : List Str := ["self", "place"]
theorem sc_Keeper_text : FnScope ["self", "place"] ["self", "place"] (defScope s_Keeper_text) := ⟨rfl, rfl, rfl, by decide +kernel, rfl, by decide +kernel, by decide +kernel⟩
abbrev s_Keeper_table_head : Stmt := inClass (topS 39) 6
abbrev N_Keeper_table_head : List Str := ["self", "place"]
theorem sc_Keeper_table_head : FnScope ["self", "place"] ["self", "place"] (defScope s_Keeper_table_head) := ⟨rfl, rfl, rfl, by decide +kernel, rfl, by decide +kernel, by decide +kernel⟩
abbrev s_Keeper_head : Stmt := inClass (topS 39) 7
abbrev N_Keeper_head : List Str := ["self", "size", "leaves"]
theorem sc_Keeper_head : FnScope ["self", "size", "leaves"] ["self", "size"] (defScope s_Keeper_head) := ⟨rfl, rfl, rfl, by decide +kernel, rfl, by decide +kernel, by decide +kernel⟩
abbrev s_Keeper_path : Stmt := inClass (topS 39) 8
abbrev N_Keeper_path : List Str := ["self", "place", "size", "leaves"]
theorem sc_Keeper_path : FnScope ["self", "place", "size", "leaves"] ["self", "place", "size"] (defScope s_Keeper_path) := ⟨rfl, rfl, rfl, by decide +kernel, rfl, by decide +kernel, by decide +kernel⟩
abbrev s_Keeper_growth : Stmt := inClass (topS 39) 9
abbrev N_Keeper_growth : List Str := ["self", "old", "size", "leaves"]
theorem sc_Keeper_growth : FnScope ["self", "old", "size", "leaves"] ["self", "old", "size"] (defScope s_Keeper_growth) := ⟨rfl, rfl, rfl, by decide +kernel, rfl, by decide +kernel, by decide +kernel⟩
abbrev s_Keeper_way : Stmt := inClass (topS 39) 10
abbrev N_Keeper_way : List Str := ["self", "place", "key"]
theorem sc_Keeper_way : FnScope ["self", "place", "key"] ["self", "place", "key"] (defScope s_Keeper_way) := ⟨rfl, rfl, rfl, by decide +kernel, rfl, by decide +kernel, by decide +kernel⟩
abbrev s_Keeper_paper : Stmt := inClass (topS 39) 11
abbrev N_Keeper_paper : List Str := ["self", "place", "key", "size", "path"]
theorem sc_Keeper_paper : FnScope ["self", "place", "key", "size", "path"] ["self", "place", "key", "size"] (defScope s_Keeper_paper) := ⟨rfl, rfl, rfl, by decide +kernel, rfl, by decide +kernel, by decide +kernel⟩
abbrev s__law_cell_at : Stmt := topS 41
abbrev N__law_cell_at : List Str := ["_law_script", "_law_k"]
theorem sc__law_cell_at : FnScope ["_law_script", "_law_k"] ["_law_script", "_law_k"] (defScope s__law_cell_at) := ⟨rfl, rfl, rfl, by decide +kernel, rfl, by decide +kernel, by decide +kernel⟩
abbrev s__law_plain : Stmt := topS 42
abbrev N__law_plain : List Str := ["_law_mark", "_law_one_here", "_law_two"]
theorem sc__law_plain : FnScope ["_law_mark", "_law_one_here", "_law_two"] ["_law_mark", "_law_one_here", "_law_two"] (defScope s__law_plain) := ⟨rfl, rfl, rfl, by decide +kernel, rfl, by decide +kernel, by decide +kernel⟩
abbrev s__law_turned : Stmt := topS 43
abbrev N__law_turned : List Str := ["_law_mark", "_law_one_here", "_law_two"]
theorem sc__law_turned : FnScope ["_law_mark", "_law_one_here", "_law_two"] ["_law_mark", "_law_one_here", "_law_two"] (defScope s__law_turned) := ⟨rfl, rfl, rfl, by decide +kernel, rfl, by decide +kernel, by decide +kernel⟩
abbrev s__law_numbering : Stmt := topS 44
abbrev N__law_numbering : List Str := ["_law_numbered", "_law_told"]
theorem sc__law_numbering : FnScope ["_law_numbered", "_law_told"] [] (defScope s__law_numbering) := ⟨rfl, rfl, rfl, by decide +kernel, rfl, by decide +kernel, by decide +kernel⟩
abbrev s__law_numbering__law_numbered : Stmt := inDef (topS 44) 1
abbrev N__law_numbering__law_numbered : List Str := ["_law_mark", "_law_one_here", "_law_two", "_law_told"]
abbrev s__law_seal_by : Stmt := topS 45
abbrev N__law_seal_by : List Str := ["_law_script", "_law_kind"]
theorem sc__law_seal_by : FnScope ["_law_script", "_law_kind"] ["_law_script"] (defScope s__law_seal_by) := ⟨rfl, rfl, rfl, by decide +kernel, rfl, by decide +kernel, by decide +kernel⟩
abbrev s__law_draw : Stmt := topS 46
abbrev N__law_draw : List Str := ["_law_cell", "_law_k", "_law_many", "_law_primes"]
theorem sc__law_draw : FnScope ["_law_cell", "_law_k", "_law_many", "_law_primes"] ["_law_cell", "_law_k", "_law_many"] (defScope s__law_draw) := ⟨rfl, rfl, rfl, by decide +kernel, rfl, by decide +kernel, by decide +kernel⟩
abbrev s__law_word : Stmt := topS 47
abbrev N__law_word : List Str := ["_law_cell", "_law_some", "_law_many", "_law_kept", "_law_k", "_law_sign"]
theorem sc__law_word : FnScope ["_law_cell", "_law_some", "_law_many", "_law_kept", "_law_k", "_law_sign"] ["_law_cell"] (defScope s__law_word) := ⟨rfl, rfl, rfl, by decide +kernel, rfl, by decide +kernel, by decide +kernel⟩
abbrev s__law_split : Stmt := topS 48
abbrev N__law_split : List Str := ["_law_size", "_law_k"]
theorem sc__law_split : FnScope ["_law_size", "_law_k"] ["_law_size"] (defScope s__law_split) := ⟨rfl, rfl, rfl, by decide +kernel, rfl, by decide +kernel, by decide +kernel⟩
abbrev s__law_top : Stmt := topS 49
abbrev N__law_top : List Str := ["_law_seal", "_law_leaves", "_law_k"]
theorem sc__law_top : FnScope ["_law_seal", "_law_leaves", "_law_k"] ["_law_seal", "_law_leaves"] (defScope s__law_top) := ⟨rfl, rfl, rfl, by decide +kernel, rfl, by decide +kernel, by decide +kernel⟩
abbrev s__law_path : Stmt := topS 50
abbrev N__law_path : List Str := ["_law_seal", "_law_leaves", "_law_place", "_law_k"]
theorem sc__law_path : FnScope ["_law_seal", "_law_leaves", "_law_place", "_law_k"] ["_law_seal", "_law_leaves", "_law_place"] (defScope s__law_path) := ⟨rfl, rfl, rfl, by decide +kernel, rfl, by decide +kernel, by decide +kernel⟩
abbrev s__law_part : Stmt := topS 51
abbrev N__law_part : List Str := ["_law_seal", "_law_rows", "_law_level", "_law_half", "_law_low", "_law_high", "_law_row"]
theorem sc__law_part : FnScope ["_law_seal", "_law_rows", "_law_level", "_law_half", "_law_low", "_law_high", "_law_row"] ["_law_seal", "_law_rows", "_law_level"] (defScope s__law_part) := ⟨rfl, rfl, rfl, by decide +kernel, rfl, by decide +kernel, by decide +kernel⟩
abbrev s__law_table : Stmt := topS 52
abbrev N__law_table : List Str := ["_law_seal", "_law_held", "_law_depth", "_law_key"]
theorem sc__law_table : FnScope ["_law_seal", "_law_held", "_law_depth", "_law_key"] ["_law_seal", "_law_held", "_law_depth"] (defScope s__law_table) := ⟨rfl, rfl, rfl, by decide +kernel, rfl, by decide +kernel, by decide +kernel⟩
abbrev s__law_way : Stmt := topS 53
abbrev N__law_way : List Str := ["_law_seal", "_law_rows", "_law_depth", "_law_key", "_law_others", "_law_level", "_law_half", "_law_row"]
theorem sc__law_way : FnScope ["_law_seal", "_law_rows", "_law_depth", "_law_key", "_law_others", "_law_level", "_law_half", "_law_row"] ["_law_seal", "_law_rows", "_law_depth", "_law_key"] (defScope s__law_way) := ⟨rfl, rfl, rfl, by decide +kernel, rfl, by decide +kernel, by decide +kernel⟩
abbrev s__law_text : Stmt := topS 54
abbrev N__law_text : List Str := ["_law_cell", "_law_depth", "_law_near", "_law_rows", "_law_done", "_law_k", "_law_one_here", "_law_key", "_law_kind", "_law_text_here"]
theorem sc__law_text : FnScope ["_law_cell", "_law_depth", "_law_near", "_law_rows", "_law_done", "_law_k", "_law_one_here", "_law_key", "_law_kind", "_law_text_here"] ["_law_cell", "_law_depth", "_law_near"] (defScope s__law_text) := ⟨rfl, rfl, rfl, by decide +kernel, rfl, by decide +kernel, by decide +kernel⟩
abbrev s__law_behind : Stmt := topS 55
abbrev N__law_behind : List Str := ["_law_held", "_law_done", "_law_behind_here", "_law_one_here"]
theorem sc__law_behind : FnScope ["_law_held", "_law_done", "_law_behind_here", "_law_one_here"] ["_law_held", "_law_done"] (defScope s__law_behind) := ⟨rfl, rfl, rfl, by decide +kernel, rfl, by decide +kernel, by decide +kernel⟩
abbrev s__law_filled : Stmt := topS 56
abbrev N__law_filled : List Str := ["_law_seal", "_law_keeper", "_law_script", "_law_depth", "_law_near", "_law_book", "_law_seed", "_law_many", "_law_k", "_law_made", "_law_due"]
theorem sc__law_filled : FnScope ["_law_seal", "_law_keeper", "_law_script", "_law_depth", "_law_near", "_law_book", "_law_seed", "_law_many", "_law_k", "_law_made", "_law_due"] ["_law_seal", "_law_keeper", "_law_script", "_law_depth", "_law_near"] (defScope s__law_filled) := ⟨rfl, rfl, rfl, by decide +kernel, rfl, by decide +kernel, by decide +kernel⟩
abbrev s__law_paper : Stmt := topS 57
abbrev N__law_paper : List Str := ["_law_seal", "_law_book", "_law_place", "_law_key", "_law_size", "_law_depth", "_law_entry", "_law_leaves", "_law_rows", "_law_one_here"]
theorem sc__law_paper : FnScope ["_law_seal", "_law_book", "_law_place", "_law_key", "_law_size", "_law_depth", "_law_entry", "_law_leaves", "_law_rows", "_law_one_here"] ["_law_seal", "_law_book", "_law_place", "_law_key", "_law_size", "_law_depth"] (defScope s__law_paper) := ⟨rfl, rfl, rfl, by decide +kernel, rfl, by decide +kernel, by decide +kernel⟩
abbrev s__law_list_bent : Stmt := topS 58
abbrev N__law_list_bent : List Str := ["_law_seal", "_law_tops", "_law_cell", "_law_bend", "_law_at"]
theorem sc__law_list_bent : FnScope ["_law_seal", "_law_tops", "_law_cell", "_law_bend", "_law_at"] ["_law_seal", "_law_tops", "_law_cell"] (defScope s__law_list_bent) := ⟨rfl, rfl, rfl, by decide +kernel, rfl, by decide +kernel, by decide +kernel⟩
abbrev s__law_bent : Stmt := topS 59
abbrev N__law_bent : List Str := ["_law_seal", "_law_paper_here", "_law_cell", "_law_bend", "_law_end"]
theorem sc__law_bent : FnScope ["_law_seal", "_law_paper_here", "_law_cell", "_law_bend", "_law_end"] ["_law_seal", "_law_paper_here", "_law_cell"] (defScope s__law_bent) := ⟨rfl, rfl, rfl, by decide +kernel, rfl, by decide +kernel, by decide +kernel⟩
abbrev s__law_one : Stmt := topS 60
abbrev N__law_one : List Str := ["_law_seal", "_law_cell", "_law_book", "_law_depth", "_law_near", "_law_size", "_law_held", "_law_place", "_law_key", "_law_deep", "_law_there", "_law_said", "_law_lacks", "_law_asked", "_law_paper_here", "_law_named", "_law_claim", "_law_head", "_law_found", "_law_due", "_law_follower", "_law_entry"]
theorem sc__law_one : FnScope ["_law_seal", "_law_cell", "_law_book", "_law_depth", "_law_near", "_law_size", "_law_held", "_law_place", "_law_key", "_law_deep", "_law_there", "_law_said", "_law_lacks", "_law_asked", "_law_paper_here", "_law_named", "_law_claim", "_law_head", "_law_found", "_law_due", "_law_follower", "_law_entry"] ["_law_seal", "_law_cell", "_law_book", "_law_depth", "_law_near"] (defScope s__law_one) := ⟨rfl, rfl, rfl, by decide +kernel, rfl, by decide +kernel, by decide +kernel⟩
abbrev s_law : Stmt := topS 61
abbrev N_law : List Str := ["_law_script", "_law_seal", "_law_depth", "_law_wide", "_law_near", "_law_keeper", "_law_book", "_law_place", "_law_at", "_law_k"]
theorem sc_law : FnScope ["_law_script", "_law_seal", "_law_depth", "_law_wide", "_law_near", "_law_keeper", "_law_book", "_law_place", "_law_at", "_law_k"] ["_law_script"] (defScope s_law) := ⟨rfl, rfl, rfl, by decide +kernel, rfl, by decide +kernel, by decide +kernel⟩

/-! ### a def of the module -/
structure DefX (K : PySem.W.Frag) (mg : Str → Option Value) (x : Str) (st : Stmt) (ps : List Str) : Prop where
  ex : ∃ (f : Addr) (fd : FuncData), L2.Fun K x x st f fd ∧ mg x = some (.ref f) ∧ ∀ us : List Value, us.length = ps.length → bindArgs fd ⟨us, []⟩ = pure (ps.zip us)
/-- a def that makes defs: its code object's address is told -/
structure DefM (K : PySem.W.Frag) (mg : Str → Option Value) (x : Str) (st : Stmt) (c : Addr) : Prop where
  ex : ∃ (f : Addr) (oc : Value) (od : Option Addr) (kV doc pm : Value) (an : Option Addr) (ct : Value) (osl : Array (Option Value)), K.lookup f = some ⟨oc, od, .func (PySem.W.fnOf x x (defArgs st) (defBody st) (defScope st) .none kV doc pm an (.ref c) ct), osl⟩ ∧
    PySem.W.codeIn K (.ref c) x = true ∧ PySem.W.keepIn K (.ref f) = true ∧ mg x = some (.ref f)
/-- an own class of errors over ValueError, without an __init__ of its own -/
structure ExcF (K : PySem.W.Frag) (C : Addr) : Prop where
  xP : PySem.W.excIn K C [.type "ValueError", .type "Exception", .type "BaseException", .type "object"] "ValueError.__new__" = true
  kP : PySem.W.keepIn K (.ref C) = true
  bP : PySem.W.subIn K (.ref C) (.type "BaseException") = some true
  tP : PySem.W.typeIn K (.ref C) = some (.type "type")
  cP : ExcC K C
  eP : PySem.W.exmOne K (.ref C) (.ref C) = some true
structure ExcX (K : PySem.W.Frag) (mg : Str → Option Value) (x : Str) : Prop where
  ex : ∃ C, mg x = some (.ref C) ∧ ExcF K C
/-- a def that may raise -/
structure CalX (P : Program) (w : World) (K : PySem.W.Frag) (mg : Str → Option Value) (base : Heap) (k : Nat) (x : Str) (sp : Sp) : Prop where
  ex : ∃ (f : Addr) (fd : FuncData) (ps : List Str), FnOk P w K mg base (L2.CX P w) k f fd ps sp ∧ mg x = some (.ref f) ∧ PySem.W.keepIn K (.ref f) = true ∧ Binds K fd ps []
theorem calX_of {P : Program} {w : World} {K : PySem.W.Frag} {mg : Str → Option Value} {base : Heap} {x : Str} {st : Stmt} {N ps : List Str} {k : Nat} {sp : Sp} (D : DefX K mg x st ps) (S : FnScope N ps (defScope st)) (len : ∀ vs H Q E, sp vs H Q E → vs.length = ps.length)
    (hbody : ∀ (f : Addr) (cdv : Value) (A : Around) (outer : List Env) (s : Shared) (H : Hp) (vs : List V) (Q : VK) (E : XK), Room k (A.deeper (envOfC x (defScope st) s.heap.objs.size f cdv)) → sp vs H Q E →
      ∃ t, PSs (cxOf (L2.CX P w) P w K mg base N x (defScope st) f cdv A outer s H E) (defBody st) t ∧ t { nx := fun _ H' => Q .non H', rt := Q } (start N vs) H) : CalX P w K mg base (k + 1) x sp := by
  obtain ⟨f, fd, F, m, b⟩ := D.ex
  exact ⟨f, fd, ps, F.okX S len (hbody f), m, F.kp, .all b⟩
theorem calX_mono {P : Program} {w : World} {K : PySem.W.Frag} {mg : Str → Option Value} {base : Heap} {x : Str} {j k : Nat} {sp : Sp} (c : CalX P w K mg base j x sp) (h : j ≤ k) : CalX P w K mg base k x sp := by
  obtain ⟨f, fd, ps, F, m, kp, b⟩ := c.ex
  exact ⟨f, fd, ps, F.mono h, m, kp, b⟩
/-- x(..) that may raise, within what takes W -/
theorem pe_cx {X : Cx} {k j : Nat} {x : Str} {sp : Sp} {W : WX} {t : TA} {e : Expr} {es : List Expr} {p pos : Pos} (c : CalX X.prog X.w X.K X.mg X.base k x sp) (tk : Takes X W) (hr : Room j X.A) (hk : k ≤ j) (hg : Gl X x) (ha : PA X (e :: es) t)
    (hdb : (x == ("__debug__" : Str)) = false := by decide) (he : starEach (e :: es) X.env = (false, eval e X.env) :: starEach es X.env := by rfl) (hpl : (backTo pos (starEach es X.env)).any (·.1) = false := by rfl) :
    PE X (.Call (.Name x p) (e :: es) [] pos) (tCallS sp (WE W) t) := by
  obtain ⟨f, fd, ps, F, m, kp, b⟩ := c.ex
  exact pe_callS F (hr.mono hk) hg m kp b (fun σ => passAt tk σ) ha hdb he hpl
theorem zc_of {cls : Value} {C : Addr} {d : Option Addr} {oe : Obj} (hz : Zc cls d oe) (h : cls = .ref C ∧ d = none) : Zc (.ref C) none oe := by
  rw [← h.1, ← h.2]
  exact hz
/-- known where the reading is at hand -/
theorem pss_when {X : Cx} {st : List Stmt} {t : TS} {P : Prop} (h : P → PSs X st t) : PSs X st (fun D σ H => P ∧ t D σ H) := ⟨fun pins s σ H D I ⟨p, q⟩ => (h p).run pins s σ H D I q⟩
theorem pe_when {X : Cx} {e : Expr} {t : TE} {P : Prop} (h : P → PE X e t) : PE X e (fun σ H Q => P ∧ t σ H Q) := ⟨fun pins s σ H Q I ⟨p, q⟩ => (h p).run pins s σ H Q I q⟩
/-- raise X('..') -/
theorem ps_raiseX {X : Cx} {W : WX} {x m : Str} {C : Addr} {j : Nat} {p p2 p3 pos : Pos} (F : ExcF X.K C) (gC : X.mg x = some (.ref C)) (hc : X.calm = true) (tk : Takes X W) (hg : Gl X x) (hdb : (x == ("__debug__" : Str)) = false := by decide) :
    PS X (.Raise (some (.Call (.Name x p) [.Constant (.str m) j p2] [] p3)) none pos) (fun _ σ H => W (.ref C) none σ H) :=
  ps_raise hc tk (pmk_own PySem.F.excBase_ValueError F.xP gC F.kP (raises_own F.bP F.tP) hg hdb)
theorem cal_of {P : Program} {w : World} {K : PySem.W.Frag} {mg : Str → Option Value} {base : Heap} {x : Str} {st : Stmt} {N ps : List Str} {k : Nat} {sp : Sp} (D : DefX K mg x st ps) (S : FnScope N ps (defScope st)) (len : ∀ vs H Q E, sp vs H Q E → vs.length = ps.length)
    (hbody : ∀ (f : Addr) (cdv : Value) (A : Around) (outer : List Env) (s : Shared) (H : Hp) (vs : List V) (Q : VK) (E : XK), Room k (A.deeper (envOfC x (defScope st) s.heap.objs.size f cdv)) → sp vs H Q E →
      ∃ t, PSs (cxOf L2.CX0 P w K mg base N x (defScope st) f cdv A outer s H E).nox (defBody st) t ∧ t { nx := fun _ H' => Q .non H', rt := Q } (start N vs) H) : Cal P w K mg base (k + 1) x sp [] := by
  obtain ⟨f, fd, F, m, b⟩ := D.ex
  exact ⟨f, fd, ps, [], F.ok S len (hbody f), m, F.kp, .all b, .nil⟩
/-- the law's own def, for the end -/
theorem law_fn {P : Program} {w : World} {K : PySem.W.Frag} {mg : Str → Option Value} {x p : Str} {st : Stmt} {N : List Str} {k : Nat} {sp : Sp} {fa : Addr} (D : DefX K mg x st [p]) (hfa : mg x = some (.ref fa)) (S : FnScope N [p] (defScope st)) (len : ∀ vs H Q E, sp vs H Q E → vs.length = 1)
    (hbody : ∀ (base : Heap) (f : Addr) (cdv : Value) (A : Around) (outer : List Env) (s : Shared) (H : Hp) (vs : List V) (Q : VK) (E : XK), Room k (A.deeper (envOfC x (defScope st) s.heap.objs.size f cdv)) → sp vs H Q E →
      ∃ t, PSs (cxOf L2.CX0 P w K mg base N x (defScope st) f cdv A outer s H E).nox (defBody st) t ∧ t { nx := fun _ H' => Q .non H', rt := Q } (start N vs) H) :
    ∃ fd : FuncData, (∀ (s : Shared) (v : Value), BindsTo s fd ⟨[v], []⟩ [(p, v)]) ∧ ∀ base : Heap, K.In base → base.Ns mainGlobals mg → FnOk P w K mg base L2.CX0 (k + 1) fa fd [p] sp := by
  obtain ⟨f, fd, F, m, b⟩ := D.ex
  have e := hfa.symm.trans m
  cases e
  exact ⟨fd, fun s v => .of_eq (b [v] rfl), fun base _ _ => F.ok S len (hbody base fa)⟩
theorem cut_to (xs : List V) (n : Nat) : cutV xs none (some (n : Int)) = xs.take n := by
  unfold cutV
  rw [HT.sIx_none, HT.sIx_nat, List.drop_zero, Nat.sub_zero]
  by_cases h : n ≤ xs.length
  · rw [Nat.min_eq_left h]
  · rw [Nat.min_eq_right (by omega), List.take_length, List.take_of_length_le (by omega)]
theorem cut_from (xs : List V) (n : Nat) : cutV xs (some (n : Int)) none = xs.drop n := by
  unfold cutV
  rw [HT.sIx_none, HT.sIx_nat]
  by_cases h : n ≤ xs.length
  · rw [Nat.min_eq_left h, List.take_of_length_le (by rw [List.length_drop]; omega)]
  · rw [Nat.min_eq_right (by omega), List.drop_length, List.drop_eq_nil_of_le (by omega), List.take_nil]
theorem cut_mid {xs : List V} {n m : Nat} (h : n ≤ m) (hm : m ≤ xs.length) : cutV xs (some (n : Int)) (some (m : Int)) = (xs.drop n).take (m - n) := by
  unfold cutV
  rw [HT.sIx_nat, HT.sIx_nat, Nat.min_eq_left hm, Nat.min_eq_left (show n ≤ xs.length by omega)]
theorem take63 {ns : List Int} (h : ns.length ≤ 63) : cutV (ns.map V.int) none (some 63) = ns.map V.int := by
  rw [show (63 : Int) = ((63 : Nat) : Int) from rfl, cut_to, List.take_of_length_le (by rw [List.length_map]; exact h)]
theorem small {n : Nat} (h : n ≤ 1000) : n ≤ sizeLine := Nat.le_of_lt (small1000 h)
theorem same_upd {H : Hp} {p : Addr} {o : HO} (h : H p = none) : Same H (upd H p o) := fun b x e => by
  rw [upd_ne (ne_of_none e h)]
  exact e

/-! ### classes -/
structure MetX (K : PySem.W.Frag) (C : Addr) (m qual : Str) (st : Stmt) (ps : List Str) : Prop where
  ex : ∃ (f : Addr) (fd : FuncData), L2.Fun K m qual st f fd ∧ Meth K C m f ∧ ∀ us : List Value, us.length = ps.length → bindArgs fd ⟨us, []⟩ = pure (ps.zip us)
structure MakX (K : PySem.W.Frag) (C : Addr) (qual : Str) (st : Stmt) (ps : List Str) : Prop where
  ex : ∃ (f : Addr) (fd : FuncData), L2.Fun K "__init__" qual st f fd ∧ Mk K C f ∧ ∀ us : List Value, us.length = ps.length → bindArgs fd ⟨us, []⟩ = pure (ps.zip us)
/-- an __init__ with defaults -/
structure MakD (K : PySem.W.Frag) (C : Addr) (qual : Str) (st : Stmt) (ps : List Str) (dvs : List V) : Prop where
  ex : ∃ (f : Addr) (fd : FuncData), L2.FunD K "__init__" qual (defArgs st) (defBody st) (defScope st) dvs [] f fd ∧ Mk K C f
theorem mak_ofD {P : Program} {w : World} {K : PySem.W.Frag} {mg : Str → Option Value} {base : Heap} {C : Addr} {x qual : Str} {st : Stmt} {N ps : List Str} {dvs : List V} {k : Nat} {sp : Sp} (n j : Nat) (hm : mg x = some (.ref C)) (D : MakD K C qual st ps dvs) (hd : dvs ≠ []) (hn : n + (dvs.length - j) = ps.length)
    (hb : ∀ (T : Addr) (kV doc pm : Value) (an : Option Addr) (cdv ct : Value) (us its : List Value), us.length = n → its.length = dvs.length →
      ∃ k, bindArgs (PySem.W.fnOf "__init__" qual (defArgs st) (defBody st) (defScope st) (.ref T) kV doc pm an cdv ct) ⟨us, []⟩ = seqItems? (.ref T) >>= k ∧ k (some its.toArray) = pure (ps.zip (us ++ its.drop j)))
    (S : FnScope N ps (defScope st)) (len : ∀ vs H Q E, sp vs H Q E → vs.length = ps.length)
    (hbody : ∀ (f : Addr) (cdv : Value) (A : Around) (outer : List Env) (s : Shared) (H : Hp) (vs : List V) (Q : VK) (E : XK), Room k (A.deeper (envOfC qual (defScope st) s.heap.objs.size f cdv)) → sp vs H Q E →
      ∃ t, PSs (cxOf L2.CX0 P w K mg base N qual (defScope st) f cdv A outer s H E).nox (defBody st) t ∧ t { nx := fun _ H' => Q .non H', rt := Q } (start N vs) H) : Mak P w K mg base (k + 1) x C sp (dvs.drop j) := by
  obtain ⟨f, fd, F, M⟩ := D.ex
  obtain ⟨ds, d, b⟩ := F.binds1 n j hd hn hb
  refine ⟨f, fd, ps, ds, M, F.ok S len fun cdv A outer s H vs Q E hr h => ?_, hm, b, d⟩
  obtain ⟨t, h1, h2⟩ := hbody f cdv A outer s H vs Q E hr h
  exact ⟨t, h1.nox, h2⟩
theorem met_of {P : Program} {w : World} {K : PySem.W.Frag} {mg : Str → Option Value} {base : Heap} {C : Addr} {m qual : Str} {st : Stmt} {N ps : List Str} {k : Nat} {sp : Sp} (c : Cls K C) (D : MetX K C m qual st ps) (S : FnScope N ps (defScope st)) (len : ∀ vs H Q E, sp vs H Q E → vs.length = ps.length)
    (hbody : ∀ (f : Addr) (cdv : Value) (A : Around) (outer : List Env) (s : Shared) (H : Hp) (vs : List V) (Q : VK) (E : XK), Room k (A.deeper (envOfC qual (defScope st) s.heap.objs.size f cdv)) → sp vs H Q E →
      ∃ t, PSs (cxOf L2.CX0 P w K mg base N qual (defScope st) f cdv A outer s H E).nox (defBody st) t ∧ t { nx := fun _ H' => Q .non H', rt := Q } (start N vs) H) : Met P w K mg base (k + 1) C m sp [] := by
  obtain ⟨f, fd, F, me, b⟩ := D.ex
  exact ⟨f, fd, ps, [], c, me, F.ok S len (hbody f), .all b, .nil⟩
theorem mak_of {P : Program} {w : World} {K : PySem.W.Frag} {mg : Str → Option Value} {base : Heap} {C : Addr} {x qual : Str} {st : Stmt} {N ps : List Str} {k : Nat} {sp : Sp} (hm : mg x = some (.ref C)) (D : MakX K C qual st ps) (S : FnScope N ps (defScope st)) (len : ∀ vs H Q E, sp vs H Q E → vs.length = ps.length)
    (hbody : ∀ (f : Addr) (cdv : Value) (A : Around) (outer : List Env) (s : Shared) (H : Hp) (vs : List V) (Q : VK) (E : XK), Room k (A.deeper (envOfC qual (defScope st) s.heap.objs.size f cdv)) → sp vs H Q E →
      ∃ t, PSs (cxOf L2.CX0 P w K mg base N qual (defScope st) f cdv A outer s H E).nox (defBody st) t ∧ t { nx := fun _ H' => Q .non H', rt := Q } (start N vs) H) : Mak P w K mg base (k + 1) x C sp [] := by
  obtain ⟨f, fd, F, M, b⟩ := D.ex
  exact ⟨f, fd, ps, [], M, F.ok S len (hbody f), hm, .all b, .nil⟩

/-! ### a method with defaults, as it stands -/
structure MetD (K : PySem.W.Frag) (C : Addr) (m qual : Str) (st : Stmt) (ps : List Str) (dvs : List V) : Prop where
  ex : ∃ (f : Addr) (fd : FuncData), L2.FunD K m qual (defArgs st) (defBody st) (defScope st) dvs [] f fd ∧ Meth K C m f

/-! ### a method read off its class -/
structure ClsM (K : PySem.W.Frag) (mg : Str → Option Value) (C : Addr) (x m qual : Str) (st : Stmt) (ps : List Str) : Prop where
  gC : mg x = some (.ref C)
  ex : ∃ (f : Addr) (fd : FuncData), ClX.CRead K C (.type "type") ∧ PySem.W.findCls K (.ref C) (.type "type") m = some (.val (.ref f)) ∧ L2.Fun K m qual st f fd ∧ PySem.W.keepIn K (.ref f) = true ∧ ∀ us : List Value, us.length = ps.length → bindArgs fd ⟨us, []⟩ = pure (ps.zip us)

/-! ### heaps that grow -/
/-- all that was tracked is as it was, but dicts keyed by tuples may have got more -/
structure Ext (H H' : Hp) : Prop where
  keep : ∀ a o, H a = some o → (∀ kvs, o ≠ .dT kvs) → H' a = some o
  grow : ∀ a kvs, H a = some (.dT kvs) → ∃ more, H' a = some (.dT (kvs ++ more))
theorem Ext.of_same {H H' : Hp} (h : Same H H') : Ext H H' := ⟨fun a o e _ => h a o e, fun a kvs e => ⟨[], by rw [List.append_nil]; exact h a _ e⟩⟩
theorem Ext.refl (H : Hp) : Ext H H := .of_same (Same.refl H)
theorem Ext.trans {H H1 H2 : Hp} (a : Ext H H1) (b : Ext H1 H2) : Ext H H2 := by
  refine ⟨fun x o e n => b.keep x o (a.keep x o e n) n, fun x kvs e => ?_⟩
  obtain ⟨m1, e1⟩ := a.grow x kvs e
  obtain ⟨m2, e2⟩ := b.grow x _ e1
  exact ⟨m1 ++ m2, by rw [e2, List.append_assoc]⟩
theorem Ext.new {H : Hp} {p : Addr} {o : HO} (h : H p = none) : Ext H (upd H p o) := .of_same (same_upd h)
theorem Ext.mut {H H' : Hp} {p : Addr} {o : HO} (e : Ext H H') (h : H p = none) : Ext H (upd H' p o) := by
  refine ⟨fun a u ha n => ?_, fun a kvs ha => ?_⟩
  · rw [upd_ne (ne_of_none ha h)]
    exact e.keep a u ha n
  · rw [upd_ne (ne_of_none ha h)]
    exact e.grow a kvs ha
theorem Ext.free {H H' : Hp} {p : Addr} (e : Ext H H') (h : H' p = none) : H p = none := by
  cases q : H p with
  | none => rfl
  | some o =>
    by_cases n : ∃ kvs, o = .dT kvs
    · obtain ⟨kvs, rfl⟩ := n
      obtain ⟨m, e1⟩ := e.grow p kvs q
      rw [e1] at h
      cases h
    · rw [e.keep p o q fun kvs z => n ⟨kvs, z⟩] at h
      cases h
theorem Ext.lst {H H' : Hp} {a : Addr} {xs : List V} (e : Ext H H') (h : H a = some (.lst xs)) : H' a = some (.lst xs) := e.keep _ _ h fun _ z => nomatch z
theorem Ext.tup {H H' : Hp} {a : Addr} {xs : List V} (e : Ext H H') (h : H a = some (.tup xs)) : H' a = some (.tup xs) := e.keep _ _ h fun _ z => nomatch z
theorem Ext.ins {H H' : Hp} {a C dx : Addr} {fs : List (Str × V)} (e : Ext H H') (h : H a = some (.ins C dx fs)) : H' a = some (.ins C dx fs) := e.keep _ _ h fun _ z => nomatch z
theorem Ext.dK {H H' : Hp} {a : Addr} {kvs : List (Key × V)} (e : Ext H H') (h : H a = some (.dK kvs)) : H' a = some (.dK kvs) := e.keep _ _ h fun _ z => nomatch z
theorem Ext.frz {H H' : Hp} {a : Addr} {o : Obj} {u : HO} (e : Ext H H') (h : H a = some (.frz o u)) : H' a = some (.frz o u) := e.keep _ _ h fun _ z => nomatch z
theorem Ext.seq {K : PySem.W.Frag} {H H' : Hp} {a : Addr} {xs : List V} (e : Ext H H') (h : SqL K H a xs) : SqL K H' a xs := by
  rcases h with (h | ⟨o, h⟩) | h
  · exact .inl (.inl (e.lst h))
  · exact .inl (.inr ⟨o, e.frz h⟩)
  · exact .inr h
theorem Ext.seqT {K : PySem.W.Frag} {H H' : Hp} {a : Addr} {xs : List V} (e : Ext H H') (h : SqT K H a xs) : SqT K H' a xs := by
  rcases h with (h | ⟨o, h⟩) | h
  · exact .inl (.inl (e.tup h))
  · exact .inl (.inr ⟨o, e.frz h⟩)
  · exact .inr h
/-- what the telling of a thing leans on: it is never changed, but dicts keyed by tuples -/
def stat : HO → Prop
  | .lst _ | .dK _ | .ins _ _ _ | .set _ _ | .xd _ => False
  | _ => True
def Kp (H H' : Hp) : Prop := ∀ a o, H a = some o → stat o → H' a = some o
structure Gr (H H' : Hp) : Prop where
  keep : ∀ a o, H a = some o → stat o → (∀ kvs, o ≠ .dT kvs) → H' a = some o
  grow : ∀ a kvs, H a = some (.dT kvs) → ∃ more, H' a = some (.dT (kvs ++ more))
theorem Ext.gr {H H' : Hp} (e : Ext H H') : Gr H H' := ⟨fun a o h _ n => e.keep a o h n, e.grow⟩
theorem Kp.gr {H H' : Hp} (e : Kp H H') : Gr H H' := ⟨fun a o h s _ => e a o h s, fun a kvs h => ⟨[], by rw [List.append_nil]; exact e a _ h True.intro⟩⟩
theorem Kp.refl (H : Hp) : Kp H H := fun _ _ h _ => h
theorem Kp.trans {H H1 H2 : Hp} (a : Kp H H1) (b : Kp H1 H2) : Kp H H2 := fun c o h s => b c o (a c o h s) s
theorem Gr.refl (H : Hp) : Gr H H := (Kp.refl H).gr
theorem Gr.trans {H H1 H2 : Hp} (a : Gr H H1) (b : Gr H1 H2) : Gr H H2 := by
  refine ⟨fun x o e s n => b.keep x o (a.keep x o e s n) s n, fun x kvs e => ?_⟩
  obtain ⟨m1, e1⟩ := a.grow x kvs e
  obtain ⟨m2, e2⟩ := b.grow x _ e1
  exact ⟨m1 ++ m2, by rw [e2, List.append_assoc]⟩
theorem Kp.new {H : Hp} {p : Addr} {o : HO} (h : H p = none) : Kp H (upd H p o) := fun a u e _ => by
  rw [upd_ne (ne_of_none e h)]
  exact e
theorem Kp.lst {H : Hp} {p : Addr} {o : HO} {xs : List V} (h : H p = some (.lst xs)) : Kp H (upd H p o) := fun a u e s => by
  by_cases q : a = p
  · subst q
    rw [h] at e
    cases e
    exact s.elim
  · rw [upd_ne q]
    exact e
theorem Kp.ins {H : Hp} {p C dx : Addr} {o : HO} {fs : List (Str × V)} (h : H p = some (.ins C dx fs)) : Kp H (upd H p o) := fun a u e s => by
  by_cases q : a = p
  · subst q
    rw [h] at e
    cases e
    exact s.elim
  · rw [upd_ne q]
    exact e
theorem Kp.dK {H : Hp} {p : Addr} {o : HO} {kvs : List (Key × V)} (h : H p = some (.dK kvs)) : Kp H (upd H p o) := fun a u e s => by
  by_cases q : a = p
  · subst q
    rw [h] at e
    cases e
    exact s.elim
  · rw [upd_ne q]
    exact e
/-! ### free terms, and seals -/
inductive Tm where
  | int (i : Int)
  | str (x : Str)
  | sl (m : Str) (a b : Tm)
  deriving DecidableEq
def Tm.dep : Tm → Nat
  | .int _ | .str _ => 0
  | .sl _ a b => max a.dep b.dep + 1
abbrev txtOk (x : Str) : Bool := PySem.PyData.strOk x
/-- a seal: its function, what its values tell, its state (so many more things may be told) -/
structure Sys where
  f : Addr
  den : Hp → V → Tm → Prop
  ok : Hp → Nat → Prop
structure Sys.Good (K : PySem.W.Frag) (S : Sys) : Prop where
  mono : ∀ {H H' : Hp} {v : V} {t : Tm}, Gr H H' → S.den H v t → S.den H' v t
  keep : ∀ {H H' : Hp} {r : Nat}, Kp H H' → S.ok H r → S.ok H' r
  less : ∀ {H : Hp} {r r' : Nat}, S.ok H r → r' ≤ r → S.ok H r'
  int : ∀ {H : Hp} {r : Nat} (i : Int), S.ok H r → S.den H (.int i) (.int i)
  str : ∀ {H : Hp} {r : Nat} (x : Str), S.ok H r → txtOk x = true → S.den H (.str x) (.str x)
  same : ∀ {H : Hp} {v v' : V} {t : Tm}, S.den H v t → S.den H v' t → ∃ d, Dp K H v d ∧ Dp K H v' d ∧ d.canLay0 = true ∧ d.depth ≤ t.dep
def spSl (S : Sys) : Sp := fun vs H Q _ => ∃ (r : Nat) (m : Str) (a b : Tm) (va vb : V), vs = [.str m, va, vb] ∧ txtOk m = true ∧ S.ok H (r + 1) ∧ S.den H va a ∧ S.den H vb b ∧
  ∀ v H', Ext H H' → S.ok H' r → S.den H' v (.sl m a b) → Q v H'
structure HeldSl (P : Program) (w : World) (K : PySem.W.Frag) (mg : Str → Option Value) (base : Heap) (k : Nat) (S : Sys) : Prop where
  at_ : ∀ (H : Hp) (h : Heap) (r : Nat), K.In h → HOk P w H h → S.ok H r → PySem.W.FnAt S.f h
  run : ∀ (A : Around) (outer : List Env) (s : Shared) (H : Hp) (us : List Value) (vs : List V) (Q : VK) (E : XK), Room k A → Env0 P w K mg base A outer s H → Vals vs us → spSl S vs H Q E →
    codeAny (model P w) A (.call (.ref S.f) ⟨us, []⟩) (CR L2.CX0 outer P w H s Q E) s
/-- of a family of seals: each is good, and its calls keep the promise -/
structure SlA (P : Program) (w : World) (K : PySem.W.Frag) (mg : Str → Option Value) (base : Heap) (Fam : Sys → Prop) : Prop where
  good : ∀ {S : Sys}, Fam S → S.Good K
  held : ∀ S, Fam S → HeldSl P w K mg base 1 S
/-- x(..), x a name that holds a seal -/
def tSl (Fam : Sys → Prop) (i : Nat) (t : TA) : TE := fun σ H Q => ∃ (S : Sys) (r : Nat), Fam S ∧ σ[i]? = some (some (.ref S.f)) ∧ S.ok H r ∧ t σ H fun vs H1 => spSl S vs H1 Q L2.E0
section
variable {X : Cx} {i j k : Nat} {x : Str} {p pos : Pos} {e : Expr} {es : List Expr} {t : TA} {Fam : Sys → Prop}
theorem pe_sl (A : ∀ S, Fam S → HeldSl X.prog X.w X.K X.mg X.base k S) (hr : Room j X.A) (hk : k ≤ j) (hN : X.N[i]? = some x) (hv : Vis X.env.scope x) (ha : PA X (e :: es) t)
    (hdb : (x == ("__debug__" : Str)) = false := by decide) (hcd : (x == ("__classdict__" : Str)) = false := by decide)
    (he : starEach (e :: es) X.env = (false, eval e X.env) :: starEach es X.env := by rfl) (hpl : (backTo pos (starEach es X.env)).any (·.1) = false := by rfl) : PE X (.Call (.Name x p) (e :: es) [] pos) (tSl Fam i t) := by
  refine ⟨fun pins s σ H Q I h => ?_⟩
  obtain ⟨S, r, hS, hs, hok, ht⟩ := h
  refine wpAny_Call_Name_kw (thn ((pe_var (pos := p) hN hv hdb hcd).run pins s σ H (fun v H1 => v = .ref S.f ∧ H1 = H) I ⟨.ref S.f, hs, rfl, rfl⟩) fun u s1 ⟨v, H1, I1, r1, q1⟩ => ?_)
  obtain ⟨rfl, rfl⟩ := q1
  cases r1
  refine PySem.W.callWith_F ((A S hS).at_ _ _ _ I1.kIn I1.hok hok) (thn (ha.run pos pins s1 σ _ _ I1 ht) fun us s2 ⟨vs, H2, I2, rv, q⟩ => ?_) he hpl
  obtain ⟨r', m, a, b, va, vb, e1, e2, e3, q'⟩ := id q
  refine ⟨(A S hS).at_ _ _ _ I2.kIn I2.hok e3, ?_⟩
  refine wpAny_call (codeAny_mono ((A S hS).run X.A X.stack s2 H2 us vs Q L2.E0 (hr.mono hk) I2.env0 rv q) fun r s' hq => ?_)
  cases r with
  | error e => exact False.elim hq
  | ok fl =>
    cases fl with
    | ret u => exact I2.after hq
    | next => exact False.elim hq
    | brk => exact False.elim hq
    | cont => exact False.elim hq
end
/-! ### rows of told things -/
structure DenL (S : Sys) (H : Hp) (vs : List V) (ts : List Tm) : Prop where
  len : vs.length = ts.length
  at_ : ∀ (i : Nat) (v : V) (t : Tm), vs[i]? = some v → ts[i]? = some t → S.den H v t
section
variable {S : Sys} {K : PySem.W.Frag} {H H' : Hp} {vs us : List V} {ts rs : List Tm}
theorem DenL.mono (G : S.Good K) (e : Gr H H') (h : DenL S H vs ts) : DenL S H' vs ts := ⟨h.len, fun i v t a b => G.mono e (h.at_ i v t a b)⟩
theorem DenL.nil : DenL S H [] [] := ⟨rfl, fun i v t a _ => by simp at a⟩
theorem DenL.append (h : DenL S H vs ts) (h' : DenL S H us rs) : DenL S H (vs ++ us) (ts ++ rs) := by
  refine ⟨by rw [List.length_append, List.length_append, h.len, h'.len], fun i v t a b => ?_⟩
  have hl := h.len
  by_cases q : i < vs.length
  · rw [List.getElem?_append_left q] at a
    rw [List.getElem?_append_left (by omega)] at b
    exact h.at_ i v t a b
  · rw [List.getElem?_append_right (by omega)] at a b
    rw [← hl] at b
    exact h'.at_ _ v t a b
theorem DenL.one {v : V} {t : Tm} (h : S.den H v t) : DenL S H [v] [t] := by
  refine ⟨rfl, fun i u r a b => ?_⟩
  cases i with
  | zero =>
    cases a
    cases b
    exact h
  | succ i => simp at a
theorem DenL.cons {v : V} {t : Tm} (h : S.den H v t) (h' : DenL S H vs ts) : DenL S H (v :: vs) (t :: ts) := (DenL.one h).append h'
theorem DenL.take (n : Nat) (h : DenL S H vs ts) : DenL S H (vs.take n) (ts.take n) := by
  refine ⟨by rw [List.length_take, List.length_take, h.len], fun i v t a b => ?_⟩
  rw [List.getElem?_take] at a b
  split at a
  · rename_i q
    rw [if_pos q] at b
    exact h.at_ i v t a b
  · cases a
theorem DenL.drop (n : Nat) (h : DenL S H vs ts) : DenL S H (vs.drop n) (ts.drop n) := by
  refine ⟨by rw [List.length_drop, List.length_drop, h.len], fun i v t a b => ?_⟩
  rw [List.getElem?_drop] at a b
  exact h.at_ _ v t a b
theorem DenL.get (h : DenL S H vs ts) {i : Nat} (hi : i < ts.length) : ∃ v, vs[i]? = some v ∧ S.den H v ts[i] := by
  have hl := h.len
  have hv : i < vs.length := by omega
  exact ⟨vs[i], List.getElem?_eq_getElem hv, h.at_ i _ _ (List.getElem?_eq_getElem hv) (List.getElem?_eq_getElem hi)⟩
/-- the same row told twice -/
theorem DenL.same (G : S.Good K) {n : Nat} : ∀ {vs us : List V} {ts : List Tm}, DenL S H vs ts → DenL S H us ts → (∀ t ∈ ts, t.dep ≤ n) → ∃ ds, DpAll K H vs ds ∧ DpAll K H us ds ∧ PyData.canLayAll0 ds = true ∧ PyData.depthAll ds ≤ n
  | vs, us, [], h, h', _ => by
    have e1 : vs = [] := List.eq_nil_of_length_eq_zero h.len
    have e2 : us = [] := List.eq_nil_of_length_eq_zero h'.len
    subst e1
    subst e2
    exact ⟨[], .nil, .nil, rfl, Nat.zero_le _⟩
  | [], us, t :: ts, h, _, _ => absurd h.len (by simp)
  | v :: vs, [], t :: ts, _, h, _ => absurd h.len (by simp)
  | v :: vs, u :: us, t :: ts, h, h', hd => by
    obtain ⟨d, a1, a2, a3, a4⟩ := G.same (h.at_ 0 v t rfl rfl) (h'.at_ 0 u t rfl rfl)
    have t1 : DenL S H vs ts := h.drop 1
    have t2 : DenL S H us ts := h'.drop 1
    obtain ⟨ds, b1, b2, b3, b4⟩ := DenL.same G t1 t2 fun x hx => hd x (List.mem_cons_of_mem _ hx)
    refine ⟨d :: ds, .cons a1 b1, .cons a2 b2, ?_, ?_⟩
    · rw [PyData.canLayAll0, a3, b3]
      rfl
    · have := hd t List.mem_cons_self
      show max d.depth (PyData.depthAll ds) ≤ n
      omega
end

/-! ### an own error with an __init__ of its own, over an own class of errors without one -/
structure ExcI (K : PySem.W.Frag) (mg : Str → Option Value) (x bx fld qual : Str) (st : Stmt) (ps : List Str) (C B : Addr) : Prop where
  gC : mg x = some (.ref C)
  T : OexC K C
  xf : XfC K C
  no : PySem.W.findIn K (.ref C) fld = some none
  ini : ∃ (fI : Addr) (fd : FuncData), L2.Fun K "__init__" qual st fI fd ∧ PySem.W.findIn K (.ref C) "__init__" = some (some (.ref fI)) ∧ PySem.W.typeIn K (.ref fI) = some (.type "function") ∧ ∀ us : List Value, us.length = ps.length → bindArgs fd ⟨us, []⟩ = pure (ps.zip us)
  cP : ExcC K C
  eP : PySem.W.exmOne K (.ref C) (.ref C) = some true
  gB : mg bx = some (.ref B)
  b1 : PySem.W.specialIn K (.ref B) "__getattribute__" = some (some (.builtin "type.__getattribute__"))
  b2 : PySem.W.readsIn K B (.type "type") = true
  b3 : PySem.W.findCls K (.ref B) (.type "type") "__init__" = some (.val (.builtin "ValueError.__init__"))

structure Zs (mg : Str → Option Value) : Prop where
  len : mg "len" = none
  isinstance : mg "isinstance" = none
  int : mg "int" = none
  bool : mg "bool" = none
  list : mg "list" = none
  dict : mg "dict" = none
  tuple : mg "tuple" = none
  range : mg "range" = none
  str : mg "str" = none
  sorted : mg "sorted" = none
  min : mg "min" = none
  max : mg "max" = none
  enumerate : mg "enumerate" = none
  reversed : mg "reversed" = none
structure K_Table (K : PySem.W.Frag) (mg : Str → Option Value) (C : Addr) : Prop where
  mgC : mg "Table" = some (.ref C)
  cl : Cls K C
  n_seal : NoAttr K C "seal"
  n_depth : NoAttr K C "depth"
  n_held : NoAttr K C "held"
  ia_ : PySem.W.findIn K (.ref C) "__class__" = some (some (.builtin "object.__class__"))
  in_ : PySem.W.specialIn K (.builtin "object.__class__") "__get__" = some (some (.builtin "getset_descriptor.__get__"))
  it_ : PySem.W.takesIn K (.builtin "object.__class__") = some true
  im_ : PySem.W.mroIn K C (.type "object") = some true
  made : MakD K C "Table.__init__" s_Table___init__ ["self", "seal", "depth"] [.int 8]
  m_asked : MetX K C "asked" "Table.asked" s_Table_asked ["self", "key"]
  m_put : MetX K C "put" "Table.put" s_Table_put ["self", "key", "text"]
  m_cut : MetX K C "cut" "Table.cut" s_Table_cut ["self", "key"]
  m_value : MetX K C "value" "Table.value" s_Table_value ["self", "key"]
  m_rows : MetX K C "rows" "Table.rows" s_Table_rows ["self"]
  m_head : MetX K C "head" "Table.head" s_Table_head ["self"]
  m_way : MetX K C "way" "Table.way" s_Table_way ["self", "key"]
structure K_Keeper (K : PySem.W.Frag) (mg : Str → Option Value) (C : Addr) : Prop where
  mgC : mg "Keeper" = some (.ref C)
  cl : Cls K C
  n_seal : NoAttr K C "seal"
  n_depth : NoAttr K C "depth"
  n_texts : NoAttr K C "texts"
  n_tables : NoAttr K C "tables"
  n_leaves : NoAttr K C "leaves"
  ia_ : PySem.W.findIn K (.ref C) "__class__" = some (some (.builtin "object.__class__"))
  in_ : PySem.W.specialIn K (.builtin "object.__class__") "__get__" = some (some (.builtin "getset_descriptor.__get__"))
  it_ : PySem.W.takesIn K (.builtin "object.__class__") = some true
  im_ : PySem.W.mroIn K C (.type "object") = some true
  made : MakD K C "Keeper.__init__" s_Keeper___init__ ["self", "seal", "depth"] [.int 8]
  m_add : MetX K C "add" "Keeper.add" s_Keeper_add ["self", "text"]
  m_size : MetX K C "size" "Keeper.size" s_Keeper_size ["self"]
  m_first : MetX K C "first" "Keeper.first" s_Keeper_first ["self", "size"]
  m_within : MetX K C "within" "Keeper.within" s_Keeper_within ["self", "place", "size"]
  m_text : MetX K C "text" "Keeper.text" s_Keeper_text ["self", "place"]
  m_table_head : MetX K C "table_head" "Keeper.table_head" s_Keeper_table_head ["self", "place"]
  m_head : MetD K C "head" "Keeper.head" s_Keeper_head ["self", "size"] [.non]
  m_path : MetD K C "path" "Keeper.path" s_Keeper_path ["self", "place", "size"] [.non]
  m_growth : MetD K C "growth" "Keeper.growth" s_Keeper_growth ["self", "old", "size"] [.non]
  m_way : MetX K C "way" "Keeper.way" s_Keeper_way ["self", "place", "key"]
  m_paper : MetD K C "paper" "Keeper.paper" s_Keeper_paper ["self", "place", "key", "size"] [.non]
structure K_Stands (K : PySem.W.Frag) (mg : Str → Option Value) (C : Addr) : Prop where
  mgC : mg "Stands" = some (.ref C)
  cl : Cls K C
  n_place : NoAttr K C "place"
  n_words : NoAttr K C "words"
  n_table : NoAttr K C "table"
  ia_ : PySem.W.findIn K (.ref C) "__class__" = some (some (.builtin "object.__class__"))
  in_ : PySem.W.specialIn K (.builtin "object.__class__") "__get__" = some (some (.builtin "getset_descriptor.__get__"))
  it_ : PySem.W.takesIn K (.builtin "object.__class__") = some true
  im_ : PySem.W.mroIn K C (.type "object") = some true
  made : MakX K C "Stands.__init__" s_Stands___init__ ["self", "place", "text", "table"]
  m_shown : MetX K C "shown" "Stands.shown" s_Stands_shown ["self", "seal", "size", "head", "paper"]
  m_judged : MetX K C "judged" "Claim.judged" s_Claim_judged ["self", "seal", "size", "head", "paper"]
structure K_Grows (K : PySem.W.Frag) (mg : Str → Option Value) (C : Addr) : Prop where
  mgC : mg "Grows" = some (.ref C)
  cl : Cls K C
  n_old : NoAttr K C "old"
  n_before : NoAttr K C "before"
  ia_ : PySem.W.findIn K (.ref C) "__class__" = some (some (.builtin "object.__class__"))
  in_ : PySem.W.specialIn K (.builtin "object.__class__") "__get__" = some (some (.builtin "getset_descriptor.__get__"))
  it_ : PySem.W.takesIn K (.builtin "object.__class__") = some true
  im_ : PySem.W.mroIn K C (.type "object") = some true
  made : MakX K C "Grows.__init__" s_Grows___init__ ["self", "old", "head"]
  m_shown : MetX K C "shown" "Grows.shown" s_Grows_shown ["self", "seal", "size", "head", "paper"]
  m_judged : MetX K C "judged" "Claim.judged" s_Claim_judged ["self", "seal", "size", "head", "paper"]
structure K_Holds (K : PySem.W.Frag) (mg : Str → Option Value) (C : Addr) : Prop where
  mgC : mg "Holds" = some (.ref C)
  cl : Cls K C
  n_place : NoAttr K C "place"
  n_key : NoAttr K C "key"
  n_depth : NoAttr K C "depth"
  n_said : NoAttr K C "said"
  ia_ : PySem.W.findIn K (.ref C) "__class__" = some (some (.builtin "object.__class__"))
  in_ : PySem.W.specialIn K (.builtin "object.__class__") "__get__" = some (some (.builtin "getset_descriptor.__get__"))
  it_ : PySem.W.takesIn K (.builtin "object.__class__") = some true
  im_ : PySem.W.mroIn K C (.type "object") = some true
  made : MakX K C "Holds.__init__" s_Holds___init__ ["self", "place", "key", "value", "depth"]
  m_ends : MetX K C "ends" "Holds.ends" s_Holds_ends ["self", "end"]
  m_shown : MetX K C "shown" "Behind.shown" s_Behind_shown ["self", "seal", "size", "head", "paper"]
  m_judged : MetX K C "judged" "Claim.judged" s_Claim_judged ["self", "seal", "size", "head", "paper"]
structure K_Lacks (K : PySem.W.Frag) (mg : Str → Option Value) (C : Addr) : Prop where
  mgC : mg "Lacks" = some (.ref C)
  cl : Cls K C
  n_place : NoAttr K C "place"
  n_key : NoAttr K C "key"
  n_depth : NoAttr K C "depth"
  ia_ : PySem.W.findIn K (.ref C) "__class__" = some (some (.builtin "object.__class__"))
  in_ : PySem.W.specialIn K (.builtin "object.__class__") "__get__" = some (some (.builtin "getset_descriptor.__get__"))
  it_ : PySem.W.takesIn K (.builtin "object.__class__") = some true
  im_ : PySem.W.mroIn K C (.type "object") = some true
  m_ends : MetX K C "ends" "Lacks.ends" s_Lacks_ends ["self", "end"]
  made : MakX K C "Behind.__init__" s_Behind___init__ ["self", "place", "key", "depth"]
  m_shown : MetX K C "shown" "Behind.shown" s_Behind_shown ["self", "seal", "size", "head", "paper"]
  m_judged : MetX K C "judged" "Claim.judged" s_Claim_judged ["self", "seal", "size", "head", "paper"]
structure K_Follower (K : PySem.W.Frag) (mg : Str → Option Value) (C : Addr) : Prop where
  mgC : mg "Follower" = some (.ref C)
  cl : Cls K C
  n_seal : NoAttr K C "seal"
  n_count : NoAttr K C "count"
  n_newest : NoAttr K C "newest"
  ia_ : PySem.W.findIn K (.ref C) "__class__" = some (some (.builtin "object.__class__"))
  in_ : PySem.W.specialIn K (.builtin "object.__class__") "__get__" = some (some (.builtin "getset_descriptor.__get__"))
  it_ : PySem.W.takesIn K (.builtin "object.__class__") = some true
  im_ : PySem.W.mroIn K C (.type "object") = some true
  made : MakX K C "Follower.__init__" s_Follower___init__ ["self", "seal"]
  m_size : MetX K C "size" "Follower.size" s_Follower_size ["self"]
  m_head : MetX K C "head" "Follower.head" s_Follower_head ["self"]
  m_take : MetX K C "take" "Follower.take" s_Follower_take ["self", "size", "head", "paper"]
  m_judge : MetX K C "judge" "Follower.judge" s_Follower_judge ["self", "claim", "paper"]
structure Txt (K : PySem.W.Frag) (mg : Str → Option Value) (cc : Addr) : Prop where
  d__wall : DefX K mg "_wall" s__wall ["k"]
  d_split : DefX K mg "split" s_split ["size"]
  d_none_seal : DefX K mg "none_seal" s_none_seal ["seal"]
  d_leaf_seal : DefX K mg "leaf_seal" s_leaf_seal ["seal", "text", "table"]
  d_pair_seal : DefX K mg "pair_seal" s_pair_seal ["seal", "left", "right"]
  d_book_seal : DefX K mg "book_seal" s_book_seal ["seal", "size", "top"]
  d_top_of : DefX K mg "top_of" s_top_of ["seal", "leaves"]
  d_path_of : DefX K mg "path_of" s_path_of ["seal", "leaves", "place"]
  d_growth_of : DefX K mg "growth_of" s_growth_of ["seal", "leaves", "old"]
  d_last_of : DefX K mg "last_of" s_last_of ["paper"]
  d_risen : DefX K mg "risen" s_risen ["seal", "leaf", "place", "size", "path"]
  d_regrown : DefX K mg "regrown" s_regrown ["seal", "old", "size", "paper"]
  d_parted : DefX K mg "parted" s_parted ["rows", "level"]
  d_part_top : DefX K mg "part_top" s_part_top ["seal", "rows", "level"]
  d_table_seal : DefX K mg "table_seal" s_table_seal ["seal", "depth", "top"]
  d_climbed : DefX K mg "climbed" s_climbed ["seal", "key", "depth", "way"]
  d_key_of : DefX K mg "key_of" s_key_of ["figures", "depth"]
  d_read_row : DefX K mg "read_row" s_read_row ["row", "depth"]
  d_placed : DefX K mg "placed" s_placed ["row", "place", "depth"]
  d_changed : DefX K mg "changed" s_changed ["table", "text", "depth"]
  d__law_cell_at : DefX K mg "_law_cell_at" s__law_cell_at ["_law_script", "_law_k"]
  d__law_plain : DefX K mg "_law_plain" s__law_plain ["_law_mark", "_law_one_here", "_law_two"]
  d__law_turned : DefX K mg "_law_turned" s__law_turned ["_law_mark", "_law_one_here", "_law_two"]
  m__law_numbering : DefM K mg "_law_numbering" s__law_numbering cc
  d__law_seal_by : DefX K mg "_law_seal_by" s__law_seal_by ["_law_script"]
  d__law_draw : DefX K mg "_law_draw" s__law_draw ["_law_cell", "_law_k", "_law_many"]
  d__law_word : DefX K mg "_law_word" s__law_word ["_law_cell"]
  d__law_split : DefX K mg "_law_split" s__law_split ["_law_size"]
  d__law_top : DefX K mg "_law_top" s__law_top ["_law_seal", "_law_leaves"]
  d__law_path : DefX K mg "_law_path" s__law_path ["_law_seal", "_law_leaves", "_law_place"]
  d__law_part : DefX K mg "_law_part" s__law_part ["_law_seal", "_law_rows", "_law_level"]
  d__law_table : DefX K mg "_law_table" s__law_table ["_law_seal", "_law_held", "_law_depth"]
  d__law_way : DefX K mg "_law_way" s__law_way ["_law_seal", "_law_rows", "_law_depth", "_law_key"]
  d__law_text : DefX K mg "_law_text" s__law_text ["_law_cell", "_law_depth", "_law_near"]
  d__law_behind : DefX K mg "_law_behind" s__law_behind ["_law_held", "_law_done"]
  d__law_filled : DefX K mg "_law_filled" s__law_filled ["_law_seal", "_law_keeper", "_law_script", "_law_depth", "_law_near"]
  d__law_paper : DefX K mg "_law_paper" s__law_paper ["_law_seal", "_law_book", "_law_place", "_law_key", "_law_size", "_law_depth"]
  d__law_list_bent : DefX K mg "_law_list_bent" s__law_list_bent ["_law_seal", "_law_tops", "_law_cell"]
  d__law_bent : DefX K mg "_law_bent" s__law_bent ["_law_seal", "_law_paper_here", "_law_cell"]
  d__law_one : DefX K mg "_law_one" s__law_one ["_law_seal", "_law_cell", "_law_book", "_law_depth", "_law_near"]
  d_law : DefX K mg "law" s_law ["_law_script"]
  g_BookError : ∃ C, mg "BookError" = some (.ref C)
  g_Claim : ∃ C, mg "Claim" = some (.ref C)
  x_BadPaper : ExcX K mg "BadPaper"
  x_NoPlace : ExcX K mg "NoPlace"
  y_BadRow : ∃ C B, ExcI K mg "BadRow" "BookError" "row" "BadRow.__init__" s_BadRow___init__ ["self", "row"] C B
  c_Behind___init__ : ∃ C, ClsM K mg C "Behind" "__init__" "Behind.__init__" s_Behind___init__ ["self", "place", "key", "depth"]
  k_Table : ∃ C, K_Table K mg C
  k_Keeper : ∃ C, K_Keeper K mg C
  k_Stands : ∃ C, K_Stands K mg C
  k_Grows : ∃ C, K_Grows K mg C
  k_Holds : ∃ C, K_Holds K mg C
  k_Lacks : ∃ C, K_Lacks K mg C
  q_Holds_Claim : ∀ C D, mg "Holds" = some (.ref C) → mg "Claim" = some (.ref D) → PySem.W.kitOne K (.ref C) (.ref D) = some true
  q_Lacks_Claim : ∀ C D, mg "Lacks" = some (.ref C) → mg "Claim" = some (.ref D) → PySem.W.kitOne K (.ref C) (.ref D) = some true
  k_Follower : ∃ C, K_Follower K mg C
  Z : Zs mg
theorem txt_mk {K : PySem.W.Frag} {h : Heap} {mg : Str → Option Value} (X : K.In h) (G : h.Ns mainGlobals mg) {cc f0 f1 f2 f3 f4 f5 f6 f7 f8 f9 f10 f11 f12 f13 f14 f15 f16 f17 f18 f19 f20 f21 f22 f23 f24 f25 f26 f27 f28 f29 f30 f31 f32 f33 f34 f35 f36 f37 f38 f39 f40 C_BookError C_Claim C_BadPaper C_NoPlace C_BadRow C_Behind C_Table C_Keeper C_Stands C_Grows C_Holds C_Lacks C_Follower fMBehind fTable0 dTTable0 fTable1 fTable2 fTable3 fTable4 fTable5 fTable6 fTable7 fKeeper0 dTKeeper0 fKeeper1 fKeeper2 fKeeper3 fKeeper4 fKeeper5 fKeeper6 fKeeper7 dTKeeper7 fKeeper8 dTKeeper8 fKeeper9 dTKeeper9 fKeeper10 fKeeper11 dTKeeper11 fStands0 fStands1 fStands2 fGrows0 fGrows1 fGrows2 fHolds0 fHolds1 fHolds2 fHolds3 fLacks0 fLacks1 fLacks2 fLacks3 fFollower0 fFollower1 fFollower2 fFollower3 fFollower4 : Addr} {od0 an0 od1 an1 od2 an2 od3 an3 od4 an4 od5 an5 od6 an6 od7 an7 od8 an8 od9 an9 od10 an10 od11 an11 od12 an12 od13 an13 od14 an14 od15 an15 od16 an16 od17 an17 od18 an18 od19 an19 od20 an20 od21 an21 od22 an22 od23 an23 od24 an24 od25 an25 od26 an26 od27 an27 od28 an28 od29 an29 od30 an30 od31 an31 od32 an32 od33 an33 od34 an34 od35 an35 od36 an36 od37 an37 od38 an38 od39 an39 od40 an40 odMBehind anMBehind odTable0 anTable0 pTTable0 odTable1 anTable1 odTable2 anTable2 odTable3 anTable3 odTable4 anTable4 odTable5 anTable5 odTable6 anTable6 odTable7 anTable7 odKeeper0 anKeeper0 pTKeeper0 odKeeper1 anKeeper1 odKeeper2 anKeeper2 odKeeper3 anKeeper3 odKeeper4 anKeeper4 odKeeper5 anKeeper5 odKeeper6 anKeeper6 odKeeper7 anKeeper7 pTKeeper7 odKeeper8 anKeeper8 pTKeeper8 odKeeper9 anKeeper9 pTKeeper9 odKeeper10 anKeeper10 odKeeper11 anKeeper11 pTKeeper11 odStands0 anStands0 odStands1 anStands1 odStands2 anStands2 odGrows0 anGrows0 odGrows1 anGrows1 odGrows2 anGrows2 odHolds0 anHolds0 odHolds1 anHolds1 odHolds2 anHolds2 odHolds3 anHolds3 odLacks0 anLacks0 odLacks1 anLacks1 odLacks2 anLacks2 odLacks3 anLacks3 odFollower0 anFollower0 odFollower1 anFollower1 odFollower2 anFollower2 odFollower3 anFollower3 odFollower4 anFollower4 : Option Addr} {sl0 sl1 sl2 sl3 sl4 sl5 sl6 sl7 sl8 sl9 sl10 sl11 sl12 sl13 sl14 sl15 sl16 sl17 sl18 sl19 sl20 sl21 sl22 sl23 sl24 sl25 sl26 sl27 sl28 sl29 sl30 sl31 sl32 sl33 sl34 sl35 sl36 sl37 sl38 sl39 sl40 slMBehind slTable0 sTTable0 slTable1 slTable2 slTable3 slTable4 slTable5 slTable6 slTable7 slKeeper0 sTKeeper0 slKeeper1 slKeeper2 slKeeper3 slKeeper4 slKeeper5 slKeeper6 slKeeper7 sTKeeper7 slKeeper8 sTKeeper8 slKeeper9 sTKeeper9 slKeeper10 slKeeper11 sTKeeper11 slStands0 slStands1 slStands2 slGrows0 slGrows1 slGrows2 slHolds0 slHolds1 slHolds2 slHolds3 slLacks0 slLacks1 slLacks2 slLacks3 slFollower0 slFollower1 slFollower2 slFollower3 slFollower4 : Array (Option Value)} {oc0 kV0 dc0 pm0 cd0 ct0 oc1 kV1 dc1 pm1 cd1 ct1 oc2 kV2 dc2 pm2 cd2 ct2 oc3 kV3 dc3 pm3 cd3 ct3 oc4 kV4 dc4 pm4 cd4 ct4 oc5 kV5 dc5 pm5 cd5 ct5 oc6 kV6 dc6 pm6 cd6 ct6 oc7 kV7 dc7 pm7 cd7 ct7 oc8 kV8 dc8 pm8 cd8 ct8 oc9 kV9 dc9 pm9 cd9 ct9 oc10 kV10 dc10 pm10 cd10 ct10 oc11 kV11 dc11 pm11 cd11 ct11 oc12 kV12 dc12 pm12 cd12 ct12 oc13 kV13 dc13 pm13 cd13 ct13 oc14 kV14 dc14 pm14 cd14 ct14 oc15 kV15 dc15 pm15 cd15 ct15 oc16 kV16 dc16 pm16 cd16 ct16 oc17 kV17 dc17 pm17 cd17 ct17 oc18 kV18 dc18 pm18 cd18 ct18 oc19 kV19 dc19 pm19 cd19 ct19 oc20 kV20 dc20 pm20 cd20 ct20 oc21 kV21 dc21 pm21 cd21 ct21 oc22 kV22 dc22 pm22 cd22 ct22 oc23 kV23 dc23 pm23 ct23 oc24 kV24 dc24 pm24 cd24 ct24 oc25 kV25 dc25 pm25 cd25 ct25 oc26 kV26 dc26 pm26 cd26 ct26 oc27 kV27 dc27 pm27 cd27 ct27 oc28 kV28 dc28 pm28 cd28 ct28 oc29 kV29 dc29 pm29 cd29 ct29 oc30 kV30 dc30 pm30 cd30 ct30 oc31 kV31 dc31 pm31 cd31 ct31 oc32 kV32 dc32 pm32 cd32 ct32 oc33 kV33 dc33 pm33 cd33 ct33 oc34 kV34 dc34 pm34 cd34 ct34 oc35 kV35 dc35 pm35 cd35 ct35 oc36 kV36 dc36 pm36 cd36 ct36 oc37 kV37 dc37 pm37 cd37 ct37 oc38 kV38 dc38 pm38 cd38 ct38 oc39 kV39 dc39 pm39 cd39 ct39 oc40 kV40 dc40 pm40 cd40 ct40 ocMBehind kVMBehind dcMBehind pmMBehind cdMBehind ctMBehind ocTable0 kVTable0 dcTable0 pmTable0 cdTable0 ctTable0 oTTable0 ocTable1 kVTable1 dcTable1 pmTable1 cdTable1 ctTable1 ocTable2 kVTable2 dcTable2 pmTable2 cdTable2 ctTable2 ocTable3 kVTable3 dcTable3 pmTable3 cdTable3 ctTable3 ocTable4 kVTable4 dcTable4 pmTable4 cdTable4 ctTable4 ocTable5 kVTable5 dcTable5 pmTable5 cdTable5 ctTable5 ocTable6 kVTable6 dcTable6 pmTable6 cdTable6 ctTable6 ocTable7 kVTable7 dcTable7 pmTable7 cdTable7 ctTable7 ocKeeper0 kVKeeper0 dcKeeper0 pmKeeper0 cdKeeper0 ctKeeper0 oTKeeper0 ocKeeper1 kVKeeper1 dcKeeper1 pmKeeper1 cdKeeper1 ctKeeper1 ocKeeper2 kVKeeper2 dcKeeper2 pmKeeper2 cdKeeper2 ctKeeper2 ocKeeper3 kVKeeper3 dcKeeper3 pmKeeper3 cdKeeper3 ctKeeper3 ocKeeper4 kVKeeper4 dcKeeper4 pmKeeper4 cdKeeper4 ctKeeper4 ocKeeper5 kVKeeper5 dcKeeper5 pmKeeper5 cdKeeper5 ctKeeper5 ocKeeper6 kVKeeper6 dcKeeper6 pmKeeper6 cdKeeper6 ctKeeper6 ocKeeper7 kVKeeper7 dcKeeper7 pmKeeper7 cdKeeper7 ctKeeper7 oTKeeper7 ocKeeper8 kVKeeper8 dcKeeper8 pmKeeper8 cdKeeper8 ctKeeper8 oTKeeper8 ocKeeper9 kVKeeper9 dcKeeper9 pmKeeper9 cdKeeper9 ctKeeper9 oTKeeper9 ocKeeper10 kVKeeper10 dcKeeper10 pmKeeper10 cdKeeper10 ctKeeper10 ocKeeper11 kVKeeper11 dcKeeper11 pmKeeper11 cdKeeper11 ctKeeper11 oTKeeper11 ocStands0 kVStands0 dcStands0 pmStands0 cdStands0 ctStands0 ocStands1 kVStands1 dcStands1 pmStands1 cdStands1 ctStands1 ocStands2 kVStands2 dcStands2 pmStands2 cdStands2 ctStands2 ocGrows0 kVGrows0 dcGrows0 pmGrows0 cdGrows0 ctGrows0 ocGrows1 kVGrows1 dcGrows1 pmGrows1 cdGrows1 ctGrows1 ocGrows2 kVGrows2 dcGrows2 pmGrows2 cdGrows2 ctGrows2 ocHolds0 kVHolds0 dcHolds0 pmHolds0 cdHolds0 ctHolds0 ocHolds1 kVHolds1 dcHolds1 pmHolds1 cdHolds1 ctHolds1 ocHolds2 kVHolds2 dcHolds2 pmHolds2 cdHolds2 ctHolds2 ocHolds3 kVHolds3 dcHolds3 pmHolds3 cdHolds3 ctHolds3 ocLacks0 kVLacks0 dcLacks0 pmLacks0 cdLacks0 ctLacks0 ocLacks1 kVLacks1 dcLacks1 pmLacks1 cdLacks1 ctLacks1 ocLacks2 kVLacks2 dcLacks2 pmLacks2 cdLacks2 ctLacks2 ocLacks3 kVLacks3 dcLacks3 pmLacks3 cdLacks3 ctLacks3 ocFollower0 kVFollower0 dcFollower0 pmFollower0 cdFollower0 ctFollower0 ocFollower1 kVFollower1 dcFollower1 pmFollower1 cdFollower1 ctFollower1 ocFollower2 kVFollower2 dcFollower2 pmFollower2 cdFollower2 ctFollower2 ocFollower3 kVFollower3 dcFollower3 pmFollower3 cdFollower3 ctFollower3 ocFollower4 kVFollower4 dcFollower4 pmFollower4 cdFollower4 ctFollower4 : Value} {fI_BadRow N_BadRow : Addr} {nm_BadRow qn_BadRow : Str} {bs_BadRow sub_BadRow : List Value} {sn_BadRow : List Str} {ab_BadRow : Bool} {col_BadRow : Option Bool} {dd_BadRow od_BadRow an_BadRow : Option Addr} {m0_BadRow m1_BadRow m2_BadRow m3_BadRow m5_BadRow : Option Value} {oc_BadRow kV_BadRow dc_BadRow pm_BadRow cd_BadRow ct_BadRow : Value} {sl_BadRow : Array (Option Value)} {nTTable0 nTKeeper0 nTKeeper7 nTKeeper8 nTKeeper9 nTKeeper11 : Nat} {uTTable0_0 uTKeeper0_0 : Tok}
    (a0 : PySem.W.nsIn K mainGlobals "_wall" = some (some (.ref f0))) (l0 : K.lookup f0 = some ⟨oc0, od0, .func (PySem.W.fnOf "_wall" "_wall" (defArgs s__wall) (defBody s__wall) (defScope s__wall) .none kV0 dc0 pm0 an0 cd0 ct0), sl0⟩) (c0 : PySem.W.codeIn K cd0 "_wall" = true) (k0 : PySem.W.keepIn K (.ref f0) = true)
    (a1 : PySem.W.nsIn K mainGlobals "split" = some (some (.ref f1))) (l1 : K.lookup f1 = some ⟨oc1, od1, .func (PySem.W.fnOf "split" "split" (defArgs s_split) (defBody s_split) (defScope s_split) .none kV1 dc1 pm1 an1 cd1 ct1), sl1⟩) (c1 : PySem.W.codeIn K cd1 "split" = true) (k1 : PySem.W.keepIn K (.ref f1) = true)
    (a2 : PySem.W.nsIn K mainGlobals "none_seal" = some (some (.ref f2))) (l2 : K.lookup f2 = some ⟨oc2, od2, .func (PySem.W.fnOf "none_seal" "none_seal" (defArgs s_none_seal) (defBody s_none_seal) (defScope s_none_seal) .none kV2 dc2 pm2 an2 cd2 ct2), sl2⟩) (c2 : PySem.W.codeIn K cd2 "none_seal" = true) (k2 : PySem.W.keepIn K (.ref f2) = true)
    (a3 : PySem.W.nsIn K mainGlobals "leaf_seal" = some (some (.ref f3))) (l3 : K.lookup f3 = some ⟨oc3, od3, .func (PySem.W.fnOf "leaf_seal" "leaf_seal" (defArgs s_leaf_seal) (defBody s_leaf_seal) (defScope s_leaf_seal) .none kV3 dc3 pm3 an3 cd3 ct3), sl3⟩) (c3 : PySem.W.codeIn K cd3 "leaf_seal" = true) (k3 : PySem.W.keepIn K (.ref f3) = true)
    (a4 : PySem.W.nsIn K mainGlobals "pair_seal" = some (some (.ref f4))) (l4 : K.lookup f4 = some ⟨oc4, od4, .func (PySem.W.fnOf "pair_seal" "pair_seal" (defArgs s_pair_seal) (defBody s_pair_seal) (defScope s_pair_seal) .none kV4 dc4 pm4 an4 cd4 ct4), sl4⟩) (c4 : PySem.W.codeIn K cd4 "pair_seal" = true) (k4 : PySem.W.keepIn K (.ref f4) = true)
    (a5 : PySem.W.nsIn K mainGlobals "book_seal" = some (some (.ref f5))) (l5 : K.lookup f5 = some ⟨oc5, od5, .func (PySem.W.fnOf "book_seal" "book_seal" (defArgs s_book_seal) (defBody s_book_seal) (defScope s_book_seal) .none kV5 dc5 pm5 an5 cd5 ct5), sl5⟩) (c5 : PySem.W.codeIn K cd5 "book_seal" = true) (k5 : PySem.W.keepIn K (.ref f5) = true)
    (a6 : PySem.W.nsIn K mainGlobals "top_of" = some (some (.ref f6))) (l6 : K.lookup f6 = some ⟨oc6, od6, .func (PySem.W.fnOf "top_of" "top_of" (defArgs s_top_of) (defBody s_top_of) (defScope s_top_of) .none kV6 dc6 pm6 an6 cd6 ct6), sl6⟩) (c6 : PySem.W.codeIn K cd6 "top_of" = true) (k6 : PySem.W.keepIn K (.ref f6) = true)
    (a7 : PySem.W.nsIn K mainGlobals "path_of" = some (some (.ref f7))) (l7 : K.lookup f7 = some ⟨oc7, od7, .func (PySem.W.fnOf "path_of" "path_of" (defArgs s_path_of) (defBody s_path_of) (defScope s_path_of) .none kV7 dc7 pm7 an7 cd7 ct7), sl7⟩) (c7 : PySem.W.codeIn K cd7 "path_of" = true) (k7 : PySem.W.keepIn K (.ref f7) = true)
    (a8 : PySem.W.nsIn K mainGlobals "growth_of" = some (some (.ref f8))) (l8 : K.lookup f8 = some ⟨oc8, od8, .func (PySem.W.fnOf "growth_of" "growth_of" (defArgs s_growth_of) (defBody s_growth_of) (defScope s_growth_of) .none kV8 dc8 pm8 an8 cd8 ct8), sl8⟩) (c8 : PySem.W.codeIn K cd8 "growth_of" = true) (k8 : PySem.W.keepIn K (.ref f8) = true)
    (a9 : PySem.W.nsIn K mainGlobals "last_of" = some (some (.ref f9))) (l9 : K.lookup f9 = some ⟨oc9, od9, .func (PySem.W.fnOf "last_of" "last_of" (defArgs s_last_of) (defBody s_last_of) (defScope s_last_of) .none kV9 dc9 pm9 an9 cd9 ct9), sl9⟩) (c9 : PySem.W.codeIn K cd9 "last_of" = true) (k9 : PySem.W.keepIn K (.ref f9) = true)
    (a10 : PySem.W.nsIn K mainGlobals "risen" = some (some (.ref f10))) (l10 : K.lookup f10 = some ⟨oc10, od10, .func (PySem.W.fnOf "risen" "risen" (defArgs s_risen) (defBody s_risen) (defScope s_risen) .none kV10 dc10 pm10 an10 cd10 ct10), sl10⟩) (c10 : PySem.W.codeIn K cd10 "risen" = true) (k10 : PySem.W.keepIn K (.ref f10) = true)
    (a11 : PySem.W.nsIn K mainGlobals "regrown" = some (some (.ref f11))) (l11 : K.lookup f11 = some ⟨oc11, od11, .func (PySem.W.fnOf "regrown" "regrown" (defArgs s_regrown) (defBody s_regrown) (defScope s_regrown) .none kV11 dc11 pm11 an11 cd11 ct11), sl11⟩) (c11 : PySem.W.codeIn K cd11 "regrown" = true) (k11 : PySem.W.keepIn K (.ref f11) = true)
    (a12 : PySem.W.nsIn K mainGlobals "parted" = some (some (.ref f12))) (l12 : K.lookup f12 = some ⟨oc12, od12, .func (PySem.W.fnOf "parted" "parted" (defArgs s_parted) (defBody s_parted) (defScope s_parted) .none kV12 dc12 pm12 an12 cd12 ct12), sl12⟩) (c12 : PySem.W.codeIn K cd12 "parted" = true) (k12 : PySem.W.keepIn K (.ref f12) = true)
    (a13 : PySem.W.nsIn K mainGlobals "part_top" = some (some (.ref f13))) (l13 : K.lookup f13 = some ⟨oc13, od13, .func (PySem.W.fnOf "part_top" "part_top" (defArgs s_part_top) (defBody s_part_top) (defScope s_part_top) .none kV13 dc13 pm13 an13 cd13 ct13), sl13⟩) (c13 : PySem.W.codeIn K cd13 "part_top" = true) (k13 : PySem.W.keepIn K (.ref f13) = true)
    (a14 : PySem.W.nsIn K mainGlobals "table_seal" = some (some (.ref f14))) (l14 : K.lookup f14 = some ⟨oc14, od14, .func (PySem.W.fnOf "table_seal" "table_seal" (defArgs s_table_seal) (defBody s_table_seal) (defScope s_table_seal) .none kV14 dc14 pm14 an14 cd14 ct14), sl14⟩) (c14 : PySem.W.codeIn K cd14 "table_seal" = true) (k14 : PySem.W.keepIn K (.ref f14) = true)
    (a15 : PySem.W.nsIn K mainGlobals "climbed" = some (some (.ref f15))) (l15 : K.lookup f15 = some ⟨oc15, od15, .func (PySem.W.fnOf "climbed" "climbed" (defArgs s_climbed) (defBody s_climbed) (defScope s_climbed) .none kV15 dc15 pm15 an15 cd15 ct15), sl15⟩) (c15 : PySem.W.codeIn K cd15 "climbed" = true) (k15 : PySem.W.keepIn K (.ref f15) = true)
    (a16 : PySem.W.nsIn K mainGlobals "key_of" = some (some (.ref f16))) (l16 : K.lookup f16 = some ⟨oc16, od16, .func (PySem.W.fnOf "key_of" "key_of" (defArgs s_key_of) (defBody s_key_of) (defScope s_key_of) .none kV16 dc16 pm16 an16 cd16 ct16), sl16⟩) (c16 : PySem.W.codeIn K cd16 "key_of" = true) (k16 : PySem.W.keepIn K (.ref f16) = true)
    (a17 : PySem.W.nsIn K mainGlobals "read_row" = some (some (.ref f17))) (l17 : K.lookup f17 = some ⟨oc17, od17, .func (PySem.W.fnOf "read_row" "read_row" (defArgs s_read_row) (defBody s_read_row) (defScope s_read_row) .none kV17 dc17 pm17 an17 cd17 ct17), sl17⟩) (c17 : PySem.W.codeIn K cd17 "read_row" = true) (k17 : PySem.W.keepIn K (.ref f17) = true)
    (a18 : PySem.W.nsIn K mainGlobals "placed" = some (some (.ref f18))) (l18 : K.lookup f18 = some ⟨oc18, od18, .func (PySem.W.fnOf "placed" "placed" (defArgs s_placed) (defBody s_placed) (defScope s_placed) .none kV18 dc18 pm18 an18 cd18 ct18), sl18⟩) (c18 : PySem.W.codeIn K cd18 "placed" = true) (k18 : PySem.W.keepIn K (.ref f18) = true)
    (a19 : PySem.W.nsIn K mainGlobals "changed" = some (some (.ref f19))) (l19 : K.lookup f19 = some ⟨oc19, od19, .func (PySem.W.fnOf "changed" "changed" (defArgs s_changed) (defBody s_changed) (defScope s_changed) .none kV19 dc19 pm19 an19 cd19 ct19), sl19⟩) (c19 : PySem.W.codeIn K cd19 "changed" = true) (k19 : PySem.W.keepIn K (.ref f19) = true)
    (a20 : PySem.W.nsIn K mainGlobals "_law_cell_at" = some (some (.ref f20))) (l20 : K.lookup f20 = some ⟨oc20, od20, .func (PySem.W.fnOf "_law_cell_at" "_law_cell_at" (defArgs s__law_cell_at) (defBody s__law_cell_at) (defScope s__law_cell_at) .none kV20 dc20 pm20 an20 cd20 ct20), sl20⟩) (c20 : PySem.W.codeIn K cd20 "_law_cell_at" = true) (k20 : PySem.W.keepIn K (.ref f20) = true)
    (a21 : PySem.W.nsIn K mainGlobals "_law_plain" = some (some (.ref f21))) (l21 : K.lookup f21 = some ⟨oc21, od21, .func (PySem.W.fnOf "_law_plain" "_law_plain" (defArgs s__law_plain) (defBody s__law_plain) (defScope s__law_plain) .none kV21 dc21 pm21 an21 cd21 ct21), sl21⟩) (c21 : PySem.W.codeIn K cd21 "_law_plain" = true) (k21 : PySem.W.keepIn K (.ref f21) = true)
    (a22 : PySem.W.nsIn K mainGlobals "_law_turned" = some (some (.ref f22))) (l22 : K.lookup f22 = some ⟨oc22, od22, .func (PySem.W.fnOf "_law_turned" "_law_turned" (defArgs s__law_turned) (defBody s__law_turned) (defScope s__law_turned) .none kV22 dc22 pm22 an22 cd22 ct22), sl22⟩) (c22 : PySem.W.codeIn K cd22 "_law_turned" = true) (k22 : PySem.W.keepIn K (.ref f22) = true)
    (a23 : PySem.W.nsIn K mainGlobals "_law_numbering" = some (some (.ref f23))) (l23 : K.lookup f23 = some ⟨oc23, od23, .func (PySem.W.fnOf "_law_numbering" "_law_numbering" (defArgs s__law_numbering) (defBody s__law_numbering) (defScope s__law_numbering) .none kV23 dc23 pm23 an23 (.ref cc) ct23), sl23⟩) (c23 : PySem.W.codeIn K (.ref cc) "_law_numbering" = true) (k23 : PySem.W.keepIn K (.ref f23) = true)
    (a24 : PySem.W.nsIn K mainGlobals "_law_seal_by" = some (some (.ref f24))) (l24 : K.lookup f24 = some ⟨oc24, od24, .func (PySem.W.fnOf "_law_seal_by" "_law_seal_by" (defArgs s__law_seal_by) (defBody s__law_seal_by) (defScope s__law_seal_by) .none kV24 dc24 pm24 an24 cd24 ct24), sl24⟩) (c24 : PySem.W.codeIn K cd24 "_law_seal_by" = true) (k24 : PySem.W.keepIn K (.ref f24) = true)
    (a25 : PySem.W.nsIn K mainGlobals "_law_draw" = some (some (.ref f25))) (l25 : K.lookup f25 = some ⟨oc25, od25, .func (PySem.W.fnOf "_law_draw" "_law_draw" (defArgs s__law_draw) (defBody s__law_draw) (defScope s__law_draw) .none kV25 dc25 pm25 an25 cd25 ct25), sl25⟩) (c25 : PySem.W.codeIn K cd25 "_law_draw" = true) (k25 : PySem.W.keepIn K (.ref f25) = true)
    (a26 : PySem.W.nsIn K mainGlobals "_law_word" = some (some (.ref f26))) (l26 : K.lookup f26 = some ⟨oc26, od26, .func (PySem.W.fnOf "_law_word" "_law_word" (defArgs s__law_word) (defBody s__law_word) (defScope s__law_word) .none kV26 dc26 pm26 an26 cd26 ct26), sl26⟩) (c26 : PySem.W.codeIn K cd26 "_law_word" = true) (k26 : PySem.W.keepIn K (.ref f26) = true)
    (a27 : PySem.W.nsIn K mainGlobals "_law_split" = some (some (.ref f27))) (l27 : K.lookup f27 = some ⟨oc27, od27, .func (PySem.W.fnOf "_law_split" "_law_split" (defArgs s__law_split) (defBody s__law_split) (defScope s__law_split) .none kV27 dc27 pm27 an27 cd27 ct27), sl27⟩) (c27 : PySem.W.codeIn K cd27 "_law_split" = true) (k27 : PySem.W.keepIn K (.ref f27) = true)
    (a28 : PySem.W.nsIn K mainGlobals "_law_top" = some (some (.ref f28))) (l28 : K.lookup f28 = some ⟨oc28, od28, .func (PySem.W.fnOf "_law_top" "_law_top" (defArgs s__law_top) (defBody s__law_top) (defScope s__law_top) .none kV28 dc28 pm28 an28 cd28 ct28), sl28⟩) (c28 : PySem.W.codeIn K cd28 "_law_top" = true) (k28 : PySem.W.keepIn K (.ref f28) = true)
    (a29 : PySem.W.nsIn K mainGlobals "_law_path" = some (some (.ref f29))) (l29 : K.lookup f29 = some ⟨oc29, od29, .func (PySem.W.fnOf "_law_path" "_law_path" (defArgs s__law_path) (defBody s__law_path) (defScope s__law_path) .none kV29 dc29 pm29 an29 cd29 ct29), sl29⟩) (c29 : PySem.W.codeIn K cd29 "_law_path" = true) (k29 : PySem.W.keepIn K (.ref f29) = true)
    (a30 : PySem.W.nsIn K mainGlobals "_law_part" = some (some (.ref f30))) (l30 : K.lookup f30 = some ⟨oc30, od30, .func (PySem.W.fnOf "_law_part" "_law_part" (defArgs s__law_part) (defBody s__law_part) (defScope s__law_part) .none kV30 dc30 pm30 an30 cd30 ct30), sl30⟩) (c30 : PySem.W.codeIn K cd30 "_law_part" = true) (k30 : PySem.W.keepIn K (.ref f30) = true)
    (a31 : PySem.W.nsIn K mainGlobals "_law_table" = some (some (.ref f31))) (l31 : K.lookup f31 = some ⟨oc31, od31, .func (PySem.W.fnOf "_law_table" "_law_table" (defArgs s__law_table) (defBody s__law_table) (defScope s__law_table) .none kV31 dc31 pm31 an31 cd31 ct31), sl31⟩) (c31 : PySem.W.codeIn K cd31 "_law_table" = true) (k31 : PySem.W.keepIn K (.ref f31) = true)
    (a32 : PySem.W.nsIn K mainGlobals "_law_way" = some (some (.ref f32))) (l32 : K.lookup f32 = some ⟨oc32, od32, .func (PySem.W.fnOf "_law_way" "_law_way" (defArgs s__law_way) (defBody s__law_way) (defScope s__law_way) .none kV32 dc32 pm32 an32 cd32 ct32), sl32⟩) (c32 : PySem.W.codeIn K cd32 "_law_way" = true) (k32 : PySem.W.keepIn K (.ref f32) = true)
    (a33 : PySem.W.nsIn K mainGlobals "_law_text" = some (some (.ref f33))) (l33 : K.lookup f33 = some ⟨oc33, od33, .func (PySem.W.fnOf "_law_text" "_law_text" (defArgs s__law_text) (defBody s__law_text) (defScope s__law_text) .none kV33 dc33 pm33 an33 cd33 ct33), sl33⟩) (c33 : PySem.W.codeIn K cd33 "_law_text" = true) (k33 : PySem.W.keepIn K (.ref f33) = true)
    (a34 : PySem.W.nsIn K mainGlobals "_law_behind" = some (some (.ref f34))) (l34 : K.lookup f34 = some ⟨oc34, od34, .func (PySem.W.fnOf "_law_behind" "_law_behind" (defArgs s__law_behind) (defBody s__law_behind) (defScope s__law_behind) .none kV34 dc34 pm34 an34 cd34 ct34), sl34⟩) (c34 : PySem.W.codeIn K cd34 "_law_behind" = true) (k34 : PySem.W.keepIn K (.ref f34) = true)
    (a35 : PySem.W.nsIn K mainGlobals "_law_filled" = some (some (.ref f35))) (l35 : K.lookup f35 = some ⟨oc35, od35, .func (PySem.W.fnOf "_law_filled" "_law_filled" (defArgs s__law_filled) (defBody s__law_filled) (defScope s__law_filled) .none kV35 dc35 pm35 an35 cd35 ct35), sl35⟩) (c35 : PySem.W.codeIn K cd35 "_law_filled" = true) (k35 : PySem.W.keepIn K (.ref f35) = true)
    (a36 : PySem.W.nsIn K mainGlobals "_law_paper" = some (some (.ref f36))) (l36 : K.lookup f36 = some ⟨oc36, od36, .func (PySem.W.fnOf "_law_paper" "_law_paper" (defArgs s__law_paper) (defBody s__law_paper) (defScope s__law_paper) .none kV36 dc36 pm36 an36 cd36 ct36), sl36⟩) (c36 : PySem.W.codeIn K cd36 "_law_paper" = true) (k36 : PySem.W.keepIn K (.ref f36) = true)
    (a37 : PySem.W.nsIn K mainGlobals "_law_list_bent" = some (some (.ref f37))) (l37 : K.lookup f37 = some ⟨oc37, od37, .func (PySem.W.fnOf "_law_list_bent" "_law_list_bent" (defArgs s__law_list_bent) (defBody s__law_list_bent) (defScope s__law_list_bent) .none kV37 dc37 pm37 an37 cd37 ct37), sl37⟩) (c37 : PySem.W.codeIn K cd37 "_law_list_bent" = true) (k37 : PySem.W.keepIn K (.ref f37) = true)
    (a38 : PySem.W.nsIn K mainGlobals "_law_bent" = some (some (.ref f38))) (l38 : K.lookup f38 = some ⟨oc38, od38, .func (PySem.W.fnOf "_law_bent" "_law_bent" (defArgs s__law_bent) (defBody s__law_bent) (defScope s__law_bent) .none kV38 dc38 pm38 an38 cd38 ct38), sl38⟩) (c38 : PySem.W.codeIn K cd38 "_law_bent" = true) (k38 : PySem.W.keepIn K (.ref f38) = true)
    (a39 : PySem.W.nsIn K mainGlobals "_law_one" = some (some (.ref f39))) (l39 : K.lookup f39 = some ⟨oc39, od39, .func (PySem.W.fnOf "_law_one" "_law_one" (defArgs s__law_one) (defBody s__law_one) (defScope s__law_one) .none kV39 dc39 pm39 an39 cd39 ct39), sl39⟩) (c39 : PySem.W.codeIn K cd39 "_law_one" = true) (k39 : PySem.W.keepIn K (.ref f39) = true)
    (a40 : PySem.W.nsIn K mainGlobals "law" = some (some (.ref f40))) (l40 : K.lookup f40 = some ⟨oc40, od40, .func (PySem.W.fnOf "law" "law" (defArgs s_law) (defBody s_law) (defScope s_law) .none kV40 dc40 pm40 an40 cd40 ct40), sl40⟩) (c40 : PySem.W.codeIn K cd40 "law" = true) (k40 : PySem.W.keepIn K (.ref f40) = true)
    (z_len : PySem.W.nsIn K mainGlobals "len" = some none)
    (z_isinstance : PySem.W.nsIn K mainGlobals "isinstance" = some none)
    (z_int : PySem.W.nsIn K mainGlobals "int" = some none)
    (z_bool : PySem.W.nsIn K mainGlobals "bool" = some none)
    (z_list : PySem.W.nsIn K mainGlobals "list" = some none)
    (z_dict : PySem.W.nsIn K mainGlobals "dict" = some none)
    (z_tuple : PySem.W.nsIn K mainGlobals "tuple" = some none)
    (z_range : PySem.W.nsIn K mainGlobals "range" = some none)
    (z_str : PySem.W.nsIn K mainGlobals "str" = some none)
    (z_sorted : PySem.W.nsIn K mainGlobals "sorted" = some none)
    (z_min : PySem.W.nsIn K mainGlobals "min" = some none)
    (z_max : PySem.W.nsIn K mainGlobals "max" = some none)
    (z_enumerate : PySem.W.nsIn K mainGlobals "enumerate" = some none)
    (z_reversed : PySem.W.nsIn K mainGlobals "reversed" = some none)
    (g_BookError : PySem.W.nsIn K mainGlobals "BookError" = some (some (.ref C_BookError)))
    (g_Claim : PySem.W.nsIn K mainGlobals "Claim" = some (some (.ref C_Claim)))
    (g_BadPaper : PySem.W.nsIn K mainGlobals "BadPaper" = some (some (.ref C_BadPaper)))
    (xP_BadPaper : PySem.W.excIn K C_BadPaper [.type "ValueError", .type "Exception", .type "BaseException", .type "object"] "ValueError.__new__" = true)
    (kP_BadPaper : PySem.W.keepIn K (.ref C_BadPaper) = true)
    (bP_BadPaper : PySem.W.subIn K (.ref C_BadPaper) (.type "BaseException") = some true)
    (tP_BadPaper : PySem.W.typeIn K (.ref C_BadPaper) = some (.type "type"))
    (hg_BadPaper : PySem.W.findIn K (.ref C_BadPaper) "__getattribute__" = some (some (.builtin "BaseException.__getattribute__")))
    (hk_BadPaper : PySem.W.findIn K (.ref C_BadPaper) "__getattr__" = some none)
    (hd_BadPaper : PySem.W.hasDictIn K C_BadPaper = true)
    (ha_BadPaper : PySem.W.findIn K (.ref C_BadPaper) "__class__" = some (some (.builtin "object.__class__")))
    (hn_BadPaper : PySem.W.specialIn K (.builtin "object.__class__") "__get__" = some (some (.builtin "getset_descriptor.__get__")))
    (ht_BadPaper : PySem.W.takesIn K (.builtin "object.__class__") = some true)
    (hm_BadPaper : PySem.W.mroIn K C_BadPaper (.type "object") = some true)
    (ex_BadPaper : PySem.W.exmOne K (.ref C_BadPaper) (.ref C_BadPaper) = some true)
    (g_NoPlace : PySem.W.nsIn K mainGlobals "NoPlace" = some (some (.ref C_NoPlace)))
    (xP_NoPlace : PySem.W.excIn K C_NoPlace [.type "ValueError", .type "Exception", .type "BaseException", .type "object"] "ValueError.__new__" = true)
    (kP_NoPlace : PySem.W.keepIn K (.ref C_NoPlace) = true)
    (bP_NoPlace : PySem.W.subIn K (.ref C_NoPlace) (.type "BaseException") = some true)
    (tP_NoPlace : PySem.W.typeIn K (.ref C_NoPlace) = some (.type "type"))
    (hg_NoPlace : PySem.W.findIn K (.ref C_NoPlace) "__getattribute__" = some (some (.builtin "BaseException.__getattribute__")))
    (hk_NoPlace : PySem.W.findIn K (.ref C_NoPlace) "__getattr__" = some none)
    (hd_NoPlace : PySem.W.hasDictIn K C_NoPlace = true)
    (ha_NoPlace : PySem.W.findIn K (.ref C_NoPlace) "__class__" = some (some (.builtin "object.__class__")))
    (hn_NoPlace : PySem.W.specialIn K (.builtin "object.__class__") "__get__" = some (some (.builtin "getset_descriptor.__get__")))
    (ht_NoPlace : PySem.W.takesIn K (.builtin "object.__class__") = some true)
    (hm_NoPlace : PySem.W.mroIn K C_NoPlace (.type "object") = some true)
    (ex_NoPlace : PySem.W.exmOne K (.ref C_NoPlace) (.ref C_NoPlace) = some true)
    (g_BadRow : PySem.W.nsIn K mainGlobals "BadRow" = some (some (.ref C_BadRow)))
    (xL_BadRow : K.lookup C_BadRow = some (excClassObj nm_BadRow qn_BadRow C_BadRow N_BadRow bs_BadRow [.ref C_BookError, .type "ValueError", .type "Exception", .type "BaseException", .type "object"] true sn_BadRow sub_BadRow ab_BadRow col_BadRow dd_BadRow m0_BadRow m1_BadRow m2_BadRow m3_BadRow m5_BadRow "ValueError.__new__"))
    (sa_BadRow : PySem.W.findIn K (.ref C_BadRow) "__setattr__" = some (some (.builtin "object.__setattr__")))
    (ga_BadRow : PySem.W.findIn K (.ref C_BadRow) "__getattribute__" = some (some (.builtin "BaseException.__getattribute__")))
    (gg_BadRow : PySem.W.findIn K (.ref C_BadRow) "__getattr__" = some none)
    (nf_BadRow : PySem.W.findIn K (.ref C_BadRow) "row" = some none)
    (kC_BadRow : PySem.W.keepIn K (.ref C_BadRow) = true)
    (eC_BadRow : PySem.W.subIn K (.ref C_BadRow) (.type "BaseException") = some true)
    (tC_BadRow : PySem.W.typeIn K (.ref C_BadRow) = some (.type "type"))
    (hC_BadRow : PySem.W.hasDictIn K C_BadRow = true)
    (iac_BadRow : PySem.W.findIn K (.ref C_BadRow) "__class__" = some (some (.builtin "object.__class__")))
    (xm_BadRow : PySem.W.mroIn K C_BadRow (.type "object") = some true)
    (xe_BadRow : PySem.W.exmOne K (.ref C_BadRow) (.ref C_BadRow) = some true)
    (fi_BadRow : PySem.W.findIn K (.ref C_BadRow) "__init__" = some (some (.ref fI_BadRow)))
    (ti_BadRow : PySem.W.typeIn K (.ref fI_BadRow) = some (.type "function"))
    (bg_BadRow : PySem.W.specialIn K (.ref C_BookError) "__getattribute__" = some (some (.builtin "type.__getattribute__")))
    (br_BadRow : PySem.W.readsIn K C_BookError (.type "type") = true)
    (bf_BadRow : PySem.W.findCls K (.ref C_BookError) (.type "type") "__init__" = some (.val (.builtin "ValueError.__init__")))
    (xn_BadRow : PySem.W.specialIn K (.builtin "object.__class__") "__get__" = some (some (.builtin "getset_descriptor.__get__")))
    (xt_BadRow : PySem.W.takesIn K (.builtin "object.__class__") = some true)
    (li_BadRow : K.lookup fI_BadRow = some ⟨oc_BadRow, od_BadRow, .func (PySem.W.fnOf "__init__" "BadRow.__init__" (defArgs s_BadRow___init__) (defBody s_BadRow___init__) (defScope s_BadRow___init__) .none kV_BadRow dc_BadRow pm_BadRow an_BadRow cd_BadRow ct_BadRow), sl_BadRow⟩) (ci_BadRow : PySem.W.codeIn K cd_BadRow "BadRow.__init__" = true) (ki_BadRow : PySem.W.keepIn K (.ref fI_BadRow) = true)
    (g_Behind : PySem.W.nsIn K mainGlobals "Behind" = some (some (.ref C_Behind)))
    (aMBehind : PySem.W.findIn K (.ref C_Behind) "__init__" = some (some (.ref fMBehind))) (lMBehind : K.lookup fMBehind = some ⟨ocMBehind, odMBehind, .func (PySem.W.fnOf "__init__" "Behind.__init__" (defArgs s_Behind___init__) (defBody s_Behind___init__) (defScope s_Behind___init__) .none kVMBehind dcMBehind pmMBehind anMBehind cdMBehind ctMBehind), slMBehind⟩) (cMBehind : PySem.W.codeIn K cdMBehind "Behind.__init__" = true) (kMBehind : PySem.W.keepIn K (.ref fMBehind) = true) (gaMBehind : PySem.W.specialIn K (.ref C_Behind) "__getattribute__" = some (some (.builtin "type.__getattribute__"))) (rdMBehind : PySem.W.readsIn K C_Behind (.type "type") = true) (fcMBehind : PySem.W.findCls K (.ref C_Behind) (.type "type") "__init__" = some (.val (.ref fMBehind)))
    (g_Table : PySem.W.nsIn K mainGlobals "Table" = some (some (.ref C_Table)))
    (pg_Table : PySem.W.plainGet K C_Table Str.empty = true)
    (hd_Table : PySem.W.hasDictIn K C_Table = true)
    (po_Table : PySem.W.plainOver K C_Table = true)
    (sa_Table : PySem.W.findIn K (.ref C_Table) "__setattr__" = some (some (.builtin "object.__setattr__")))
    (n_Table_seal : PySem.W.findIn K (.ref C_Table) "seal" = some none)
    (n_Table_depth : PySem.W.findIn K (.ref C_Table) "depth" = some none)
    (n_Table_held : PySem.W.findIn K (.ref C_Table) "held" = some none)
    (ia_Table : PySem.W.findIn K (.ref C_Table) "__class__" = some (some (.builtin "object.__class__")))
    (in_Table : PySem.W.specialIn K (.builtin "object.__class__") "__get__" = some (some (.builtin "getset_descriptor.__get__")))
    (it_Table : PySem.W.takesIn K (.builtin "object.__class__") = some true)
    (im_Table : PySem.W.mroIn K C_Table (.type "object") = some true)
    (aTable0 : PySem.W.findIn K (.ref C_Table) "__init__" = some (some (.ref fTable0))) (iTable0 : PySem.W.isFn K (.ref fTable0) = true) (lTable0 : K.lookup fTable0 = some ⟨ocTable0, odTable0, .func (PySem.W.fnOf "__init__" "Table.__init__" (defArgs s_Table___init__) (defBody s_Table___init__) (defScope s_Table___init__) (.ref dTTable0) kVTable0 dcTable0 pmTable0 anTable0 cdTable0 ctTable0), slTable0⟩) (cTable0 : PySem.W.codeIn K cdTable0 "Table.__init__" = true) (kTable0 : PySem.W.keepIn K (.ref fTable0) = true)
    (dTable0 : K.lookup dTTable0 = some ⟨oTTable0, pTTable0, .seq #[.int 8 uTTable0_0] nTTable0, sTTable0⟩)
    (mk_Table : PySem.W.makesIn K C_Table = true) (kc_Table : PySem.W.keepIn K (.ref C_Table) = true)
    (aTable1 : PySem.W.findIn K (.ref C_Table) "asked" = some (some (.ref fTable1))) (iTable1 : PySem.W.isFn K (.ref fTable1) = true) (lTable1 : K.lookup fTable1 = some ⟨ocTable1, odTable1, .func (PySem.W.fnOf "asked" "Table.asked" (defArgs s_Table_asked) (defBody s_Table_asked) (defScope s_Table_asked) .none kVTable1 dcTable1 pmTable1 anTable1 cdTable1 ctTable1), slTable1⟩) (cTable1 : PySem.W.codeIn K cdTable1 "Table.asked" = true) (kTable1 : PySem.W.keepIn K (.ref fTable1) = true)
    (aTable2 : PySem.W.findIn K (.ref C_Table) "put" = some (some (.ref fTable2))) (iTable2 : PySem.W.isFn K (.ref fTable2) = true) (lTable2 : K.lookup fTable2 = some ⟨ocTable2, odTable2, .func (PySem.W.fnOf "put" "Table.put" (defArgs s_Table_put) (defBody s_Table_put) (defScope s_Table_put) .none kVTable2 dcTable2 pmTable2 anTable2 cdTable2 ctTable2), slTable2⟩) (cTable2 : PySem.W.codeIn K cdTable2 "Table.put" = true) (kTable2 : PySem.W.keepIn K (.ref fTable2) = true)
    (aTable3 : PySem.W.findIn K (.ref C_Table) "cut" = some (some (.ref fTable3))) (iTable3 : PySem.W.isFn K (.ref fTable3) = true) (lTable3 : K.lookup fTable3 = some ⟨ocTable3, odTable3, .func (PySem.W.fnOf "cut" "Table.cut" (defArgs s_Table_cut) (defBody s_Table_cut) (defScope s_Table_cut) .none kVTable3 dcTable3 pmTable3 anTable3 cdTable3 ctTable3), slTable3⟩) (cTable3 : PySem.W.codeIn K cdTable3 "Table.cut" = true) (kTable3 : PySem.W.keepIn K (.ref fTable3) = true)
    (aTable4 : PySem.W.findIn K (.ref C_Table) "value" = some (some (.ref fTable4))) (iTable4 : PySem.W.isFn K (.ref fTable4) = true) (lTable4 : K.lookup fTable4 = some ⟨ocTable4, odTable4, .func (PySem.W.fnOf "value" "Table.value" (defArgs s_Table_value) (defBody s_Table_value) (defScope s_Table_value) .none kVTable4 dcTable4 pmTable4 anTable4 cdTable4 ctTable4), slTable4⟩) (cTable4 : PySem.W.codeIn K cdTable4 "Table.value" = true) (kTable4 : PySem.W.keepIn K (.ref fTable4) = true)
    (aTable5 : PySem.W.findIn K (.ref C_Table) "rows" = some (some (.ref fTable5))) (iTable5 : PySem.W.isFn K (.ref fTable5) = true) (lTable5 : K.lookup fTable5 = some ⟨ocTable5, odTable5, .func (PySem.W.fnOf "rows" "Table.rows" (defArgs s_Table_rows) (defBody s_Table_rows) (defScope s_Table_rows) .none kVTable5 dcTable5 pmTable5 anTable5 cdTable5 ctTable5), slTable5⟩) (cTable5 : PySem.W.codeIn K cdTable5 "Table.rows" = true) (kTable5 : PySem.W.keepIn K (.ref fTable5) = true)
    (aTable6 : PySem.W.findIn K (.ref C_Table) "head" = some (some (.ref fTable6))) (iTable6 : PySem.W.isFn K (.ref fTable6) = true) (lTable6 : K.lookup fTable6 = some ⟨ocTable6, odTable6, .func (PySem.W.fnOf "head" "Table.head" (defArgs s_Table_head) (defBody s_Table_head) (defScope s_Table_head) .none kVTable6 dcTable6 pmTable6 anTable6 cdTable6 ctTable6), slTable6⟩) (cTable6 : PySem.W.codeIn K cdTable6 "Table.head" = true) (kTable6 : PySem.W.keepIn K (.ref fTable6) = true)
    (aTable7 : PySem.W.findIn K (.ref C_Table) "way" = some (some (.ref fTable7))) (iTable7 : PySem.W.isFn K (.ref fTable7) = true) (lTable7 : K.lookup fTable7 = some ⟨ocTable7, odTable7, .func (PySem.W.fnOf "way" "Table.way" (defArgs s_Table_way) (defBody s_Table_way) (defScope s_Table_way) .none kVTable7 dcTable7 pmTable7 anTable7 cdTable7 ctTable7), slTable7⟩) (cTable7 : PySem.W.codeIn K cdTable7 "Table.way" = true) (kTable7 : PySem.W.keepIn K (.ref fTable7) = true)
    (g_Keeper : PySem.W.nsIn K mainGlobals "Keeper" = some (some (.ref C_Keeper)))
    (pg_Keeper : PySem.W.plainGet K C_Keeper Str.empty = true)
    (hd_Keeper : PySem.W.hasDictIn K C_Keeper = true)
    (po_Keeper : PySem.W.plainOver K C_Keeper = true)
    (sa_Keeper : PySem.W.findIn K (.ref C_Keeper) "__setattr__" = some (some (.builtin "object.__setattr__")))
    (n_Keeper_seal : PySem.W.findIn K (.ref C_Keeper) "seal" = some none)
    (n_Keeper_depth : PySem.W.findIn K (.ref C_Keeper) "depth" = some none)
    (n_Keeper_texts : PySem.W.findIn K (.ref C_Keeper) "texts" = some none)
    (n_Keeper_tables : PySem.W.findIn K (.ref C_Keeper) "tables" = some none)
    (n_Keeper_leaves : PySem.W.findIn K (.ref C_Keeper) "leaves" = some none)
    (ia_Keeper : PySem.W.findIn K (.ref C_Keeper) "__class__" = some (some (.builtin "object.__class__")))
    (in_Keeper : PySem.W.specialIn K (.builtin "object.__class__") "__get__" = some (some (.builtin "getset_descriptor.__get__")))
    (it_Keeper : PySem.W.takesIn K (.builtin "object.__class__") = some true)
    (im_Keeper : PySem.W.mroIn K C_Keeper (.type "object") = some true)
    (aKeeper0 : PySem.W.findIn K (.ref C_Keeper) "__init__" = some (some (.ref fKeeper0))) (iKeeper0 : PySem.W.isFn K (.ref fKeeper0) = true) (lKeeper0 : K.lookup fKeeper0 = some ⟨ocKeeper0, odKeeper0, .func (PySem.W.fnOf "__init__" "Keeper.__init__" (defArgs s_Keeper___init__) (defBody s_Keeper___init__) (defScope s_Keeper___init__) (.ref dTKeeper0) kVKeeper0 dcKeeper0 pmKeeper0 anKeeper0 cdKeeper0 ctKeeper0), slKeeper0⟩) (cKeeper0 : PySem.W.codeIn K cdKeeper0 "Keeper.__init__" = true) (kKeeper0 : PySem.W.keepIn K (.ref fKeeper0) = true)
    (dKeeper0 : K.lookup dTKeeper0 = some ⟨oTKeeper0, pTKeeper0, .seq #[.int 8 uTKeeper0_0] nTKeeper0, sTKeeper0⟩)
    (mk_Keeper : PySem.W.makesIn K C_Keeper = true) (kc_Keeper : PySem.W.keepIn K (.ref C_Keeper) = true)
    (aKeeper1 : PySem.W.findIn K (.ref C_Keeper) "add" = some (some (.ref fKeeper1))) (iKeeper1 : PySem.W.isFn K (.ref fKeeper1) = true) (lKeeper1 : K.lookup fKeeper1 = some ⟨ocKeeper1, odKeeper1, .func (PySem.W.fnOf "add" "Keeper.add" (defArgs s_Keeper_add) (defBody s_Keeper_add) (defScope s_Keeper_add) .none kVKeeper1 dcKeeper1 pmKeeper1 anKeeper1 cdKeeper1 ctKeeper1), slKeeper1⟩) (cKeeper1 : PySem.W.codeIn K cdKeeper1 "Keeper.add" = true) (kKeeper1 : PySem.W.keepIn K (.ref fKeeper1) = true)
    (aKeeper2 : PySem.W.findIn K (.ref C_Keeper) "size" = some (some (.ref fKeeper2))) (iKeeper2 : PySem.W.isFn K (.ref fKeeper2) = true) (lKeeper2 : K.lookup fKeeper2 = some ⟨ocKeeper2, odKeeper2, .func (PySem.W.fnOf "size" "Keeper.size" (defArgs s_Keeper_size) (defBody s_Keeper_size) (defScope s_Keeper_size) .none kVKeeper2 dcKeeper2 pmKeeper2 anKeeper2 cdKeeper2 ctKeeper2), slKeeper2⟩) (cKeeper2 : PySem.W.codeIn K cdKeeper2 "Keeper.size" = true) (kKeeper2 : PySem.W.keepIn K (.ref fKeeper2) = true)
    (aKeeper3 : PySem.W.findIn K (.ref C_Keeper) "first" = some (some (.ref fKeeper3))) (iKeeper3 : PySem.W.isFn K (.ref fKeeper3) = true) (lKeeper3 : K.lookup fKeeper3 = some ⟨ocKeeper3, odKeeper3, .func (PySem.W.fnOf "first" "Keeper.first" (defArgs s_Keeper_first) (defBody s_Keeper_first) (defScope s_Keeper_first) .none kVKeeper3 dcKeeper3 pmKeeper3 anKeeper3 cdKeeper3 ctKeeper3), slKeeper3⟩) (cKeeper3 : PySem.W.codeIn K cdKeeper3 "Keeper.first" = true) (kKeeper3 : PySem.W.keepIn K (.ref fKeeper3) = true)
    (aKeeper4 : PySem.W.findIn K (.ref C_Keeper) "within" = some (some (.ref fKeeper4))) (iKeeper4 : PySem.W.isFn K (.ref fKeeper4) = true) (lKeeper4 : K.lookup fKeeper4 = some ⟨ocKeeper4, odKeeper4, .func (PySem.W.fnOf "within" "Keeper.within" (defArgs s_Keeper_within) (defBody s_Keeper_within) (defScope s_Keeper_within) .none kVKeeper4 dcKeeper4 pmKeeper4 anKeeper4 cdKeeper4 ctKeeper4), slKeeper4⟩) (cKeeper4 : PySem.W.codeIn K cdKeeper4 "Keeper.within" = true) (kKeeper4 : PySem.W.keepIn K (.ref fKeeper4) = true)
    (aKeeper5 : PySem.W.findIn K (.ref C_Keeper) "text" = some (some (.ref fKeeper5))) (iKeeper5 : PySem.W.isFn K (.ref fKeeper5) = true) (lKeeper5 : K.lookup fKeeper5 = some ⟨ocKeeper5, odKeeper5, .func (PySem.W.fnOf "text" "Keeper.text" (defArgs s_Keeper_text) (defBody s_Keeper_text) (defScope s_Keeper_text) .none kVKeeper5 dcKeeper5 pmKeeper5 anKeeper5 cdKeeper5 ctKeeper5), slKeeper5⟩) (cKeeper5 : PySem.W.codeIn K cdKeeper5 "Keeper.text" = true) (kKeeper5 : PySem.W.keepIn K (.ref fKeeper5) = true)
    (aKeeper6 : PySem.W.findIn K (.ref C_Keeper) "table_head" = some (some (.ref fKeeper6))) (iKeeper6 : PySem.W.isFn K (.ref fKeeper6) = true) (lKeeper6 : K.lookup fKeeper6 = some ⟨ocKeeper6, odKeeper6, .func (PySem.W.fnOf "table_head" "Keeper.table_head" (defArgs s_Keeper_table_head) (defBody s_Keeper_table_head) (defScope s_Keeper_table_head) .none kVKeeper6 dcKeeper6 pmKeeper6 anKeeper6 cdKeeper6 ctKeeper6), slKeeper6⟩) (cKeeper6 : PySem.W.codeIn K cdKeeper6 "Keeper.table_head" = true) (kKeeper6 : PySem.W.keepIn K (.ref fKeeper6) = true)
    (aKeeper7 : PySem.W.findIn K (.ref C_Keeper) "head" = some (some (.ref fKeeper7))) (iKeeper7 : PySem.W.isFn K (.ref fKeeper7) = true) (lKeeper7 : K.lookup fKeeper7 = some ⟨ocKeeper7, odKeeper7, .func (PySem.W.fnOf "head" "Keeper.head" (defArgs s_Keeper_head) (defBody s_Keeper_head) (defScope s_Keeper_head) (.ref dTKeeper7) kVKeeper7 dcKeeper7 pmKeeper7 anKeeper7 cdKeeper7 ctKeeper7), slKeeper7⟩) (cKeeper7 : PySem.W.codeIn K cdKeeper7 "Keeper.head" = true) (kKeeper7 : PySem.W.keepIn K (.ref fKeeper7) = true)
    (dKeeper7 : K.lookup dTKeeper7 = some ⟨oTKeeper7, pTKeeper7, .seq #[.none] nTKeeper7, sTKeeper7⟩)
    (aKeeper8 : PySem.W.findIn K (.ref C_Keeper) "path" = some (some (.ref fKeeper8))) (iKeeper8 : PySem.W.isFn K (.ref fKeeper8) = true) (lKeeper8 : K.lookup fKeeper8 = some ⟨ocKeeper8, odKeeper8, .func (PySem.W.fnOf "path" "Keeper.path" (defArgs s_Keeper_path) (defBody s_Keeper_path) (defScope s_Keeper_path) (.ref dTKeeper8) kVKeeper8 dcKeeper8 pmKeeper8 anKeeper8 cdKeeper8 ctKeeper8), slKeeper8⟩) (cKeeper8 : PySem.W.codeIn K cdKeeper8 "Keeper.path" = true) (kKeeper8 : PySem.W.keepIn K (.ref fKeeper8) = true)
    (dKeeper8 : K.lookup dTKeeper8 = some ⟨oTKeeper8, pTKeeper8, .seq #[.none] nTKeeper8, sTKeeper8⟩)
    (aKeeper9 : PySem.W.findIn K (.ref C_Keeper) "growth" = some (some (.ref fKeeper9))) (iKeeper9 : PySem.W.isFn K (.ref fKeeper9) = true) (lKeeper9 : K.lookup fKeeper9 = some ⟨ocKeeper9, odKeeper9, .func (PySem.W.fnOf "growth" "Keeper.growth" (defArgs s_Keeper_growth) (defBody s_Keeper_growth) (defScope s_Keeper_growth) (.ref dTKeeper9) kVKeeper9 dcKeeper9 pmKeeper9 anKeeper9 cdKeeper9 ctKeeper9), slKeeper9⟩) (cKeeper9 : PySem.W.codeIn K cdKeeper9 "Keeper.growth" = true) (kKeeper9 : PySem.W.keepIn K (.ref fKeeper9) = true)
    (dKeeper9 : K.lookup dTKeeper9 = some ⟨oTKeeper9, pTKeeper9, .seq #[.none] nTKeeper9, sTKeeper9⟩)
    (aKeeper10 : PySem.W.findIn K (.ref C_Keeper) "way" = some (some (.ref fKeeper10))) (iKeeper10 : PySem.W.isFn K (.ref fKeeper10) = true) (lKeeper10 : K.lookup fKeeper10 = some ⟨ocKeeper10, odKeeper10, .func (PySem.W.fnOf "way" "Keeper.way" (defArgs s_Keeper_way) (defBody s_Keeper_way) (defScope s_Keeper_way) .none kVKeeper10 dcKeeper10 pmKeeper10 anKeeper10 cdKeeper10 ctKeeper10), slKeeper10⟩) (cKeeper10 : PySem.W.codeIn K cdKeeper10 "Keeper.way" = true) (kKeeper10 : PySem.W.keepIn K (.ref fKeeper10) = true)
    (aKeeper11 : PySem.W.findIn K (.ref C_Keeper) "paper" = some (some (.ref fKeeper11))) (iKeeper11 : PySem.W.isFn K (.ref fKeeper11) = true) (lKeeper11 : K.lookup fKeeper11 = some ⟨ocKeeper11, odKeeper11, .func (PySem.W.fnOf "paper" "Keeper.paper" (defArgs s_Keeper_paper) (defBody s_Keeper_paper) (defScope s_Keeper_paper) (.ref dTKeeper11) kVKeeper11 dcKeeper11 pmKeeper11 anKeeper11 cdKeeper11 ctKeeper11), slKeeper11⟩) (cKeeper11 : PySem.W.codeIn K cdKeeper11 "Keeper.paper" = true) (kKeeper11 : PySem.W.keepIn K (.ref fKeeper11) = true)
    (dKeeper11 : K.lookup dTKeeper11 = some ⟨oTKeeper11, pTKeeper11, .seq #[.none] nTKeeper11, sTKeeper11⟩)
    (g_Stands : PySem.W.nsIn K mainGlobals "Stands" = some (some (.ref C_Stands)))
    (pg_Stands : PySem.W.plainGet K C_Stands Str.empty = true)
    (hd_Stands : PySem.W.hasDictIn K C_Stands = true)
    (po_Stands : PySem.W.plainOver K C_Stands = true)
    (sa_Stands : PySem.W.findIn K (.ref C_Stands) "__setattr__" = some (some (.builtin "object.__setattr__")))
    (n_Stands_place : PySem.W.findIn K (.ref C_Stands) "place" = some none)
    (n_Stands_words : PySem.W.findIn K (.ref C_Stands) "words" = some none)
    (n_Stands_table : PySem.W.findIn K (.ref C_Stands) "table" = some none)
    (ia_Stands : PySem.W.findIn K (.ref C_Stands) "__class__" = some (some (.builtin "object.__class__")))
    (in_Stands : PySem.W.specialIn K (.builtin "object.__class__") "__get__" = some (some (.builtin "getset_descriptor.__get__")))
    (it_Stands : PySem.W.takesIn K (.builtin "object.__class__") = some true)
    (im_Stands : PySem.W.mroIn K C_Stands (.type "object") = some true)
    (aStands0 : PySem.W.findIn K (.ref C_Stands) "__init__" = some (some (.ref fStands0))) (iStands0 : PySem.W.isFn K (.ref fStands0) = true) (lStands0 : K.lookup fStands0 = some ⟨ocStands0, odStands0, .func (PySem.W.fnOf "__init__" "Stands.__init__" (defArgs s_Stands___init__) (defBody s_Stands___init__) (defScope s_Stands___init__) .none kVStands0 dcStands0 pmStands0 anStands0 cdStands0 ctStands0), slStands0⟩) (cStands0 : PySem.W.codeIn K cdStands0 "Stands.__init__" = true) (kStands0 : PySem.W.keepIn K (.ref fStands0) = true)
    (mk_Stands : PySem.W.makesIn K C_Stands = true) (kc_Stands : PySem.W.keepIn K (.ref C_Stands) = true)
    (aStands1 : PySem.W.findIn K (.ref C_Stands) "shown" = some (some (.ref fStands1))) (iStands1 : PySem.W.isFn K (.ref fStands1) = true) (lStands1 : K.lookup fStands1 = some ⟨ocStands1, odStands1, .func (PySem.W.fnOf "shown" "Stands.shown" (defArgs s_Stands_shown) (defBody s_Stands_shown) (defScope s_Stands_shown) .none kVStands1 dcStands1 pmStands1 anStands1 cdStands1 ctStands1), slStands1⟩) (cStands1 : PySem.W.codeIn K cdStands1 "Stands.shown" = true) (kStands1 : PySem.W.keepIn K (.ref fStands1) = true)
    (aStands2 : PySem.W.findIn K (.ref C_Stands) "judged" = some (some (.ref fStands2))) (iStands2 : PySem.W.isFn K (.ref fStands2) = true) (lStands2 : K.lookup fStands2 = some ⟨ocStands2, odStands2, .func (PySem.W.fnOf "judged" "Claim.judged" (defArgs s_Claim_judged) (defBody s_Claim_judged) (defScope s_Claim_judged) .none kVStands2 dcStands2 pmStands2 anStands2 cdStands2 ctStands2), slStands2⟩) (cStands2 : PySem.W.codeIn K cdStands2 "Claim.judged" = true) (kStands2 : PySem.W.keepIn K (.ref fStands2) = true)
    (g_Grows : PySem.W.nsIn K mainGlobals "Grows" = some (some (.ref C_Grows)))
    (pg_Grows : PySem.W.plainGet K C_Grows Str.empty = true)
    (hd_Grows : PySem.W.hasDictIn K C_Grows = true)
    (po_Grows : PySem.W.plainOver K C_Grows = true)
    (sa_Grows : PySem.W.findIn K (.ref C_Grows) "__setattr__" = some (some (.builtin "object.__setattr__")))
    (n_Grows_old : PySem.W.findIn K (.ref C_Grows) "old" = some none)
    (n_Grows_before : PySem.W.findIn K (.ref C_Grows) "before" = some none)
    (ia_Grows : PySem.W.findIn K (.ref C_Grows) "__class__" = some (some (.builtin "object.__class__")))
    (in_Grows : PySem.W.specialIn K (.builtin "object.__class__") "__get__" = some (some (.builtin "getset_descriptor.__get__")))
    (it_Grows : PySem.W.takesIn K (.builtin "object.__class__") = some true)
    (im_Grows : PySem.W.mroIn K C_Grows (.type "object") = some true)
    (aGrows0 : PySem.W.findIn K (.ref C_Grows) "__init__" = some (some (.ref fGrows0))) (iGrows0 : PySem.W.isFn K (.ref fGrows0) = true) (lGrows0 : K.lookup fGrows0 = some ⟨ocGrows0, odGrows0, .func (PySem.W.fnOf "__init__" "Grows.__init__" (defArgs s_Grows___init__) (defBody s_Grows___init__) (defScope s_Grows___init__) .none kVGrows0 dcGrows0 pmGrows0 anGrows0 cdGrows0 ctGrows0), slGrows0⟩) (cGrows0 : PySem.W.codeIn K cdGrows0 "Grows.__init__" = true) (kGrows0 : PySem.W.keepIn K (.ref fGrows0) = true)
    (mk_Grows : PySem.W.makesIn K C_Grows = true) (kc_Grows : PySem.W.keepIn K (.ref C_Grows) = true)
    (aGrows1 : PySem.W.findIn K (.ref C_Grows) "shown" = some (some (.ref fGrows1))) (iGrows1 : PySem.W.isFn K (.ref fGrows1) = true) (lGrows1 : K.lookup fGrows1 = some ⟨ocGrows1, odGrows1, .func (PySem.W.fnOf "shown" "Grows.shown" (defArgs s_Grows_shown) (defBody s_Grows_shown) (defScope s_Grows_shown) .none kVGrows1 dcGrows1 pmGrows1 anGrows1 cdGrows1 ctGrows1), slGrows1⟩) (cGrows1 : PySem.W.codeIn K cdGrows1 "Grows.shown" = true) (kGrows1 : PySem.W.keepIn K (.ref fGrows1) = true)
    (aGrows2 : PySem.W.findIn K (.ref C_Grows) "judged" = some (some (.ref fGrows2))) (iGrows2 : PySem.W.isFn K (.ref fGrows2) = true) (lGrows2 : K.lookup fGrows2 = some ⟨ocGrows2, odGrows2, .func (PySem.W.fnOf "judged" "Claim.judged" (defArgs s_Claim_judged) (defBody s_Claim_judged) (defScope s_Claim_judged) .none kVGrows2 dcGrows2 pmGrows2 anGrows2 cdGrows2 ctGrows2), slGrows2⟩) (cGrows2 : PySem.W.codeIn K cdGrows2 "Claim.judged" = true) (kGrows2 : PySem.W.keepIn K (.ref fGrows2) = true)
    (g_Holds : PySem.W.nsIn K mainGlobals "Holds" = some (some (.ref C_Holds)))
    (pg_Holds : PySem.W.plainGet K C_Holds Str.empty = true)
    (hd_Holds : PySem.W.hasDictIn K C_Holds = true)
    (po_Holds : PySem.W.plainOver K C_Holds = true)
    (sa_Holds : PySem.W.findIn K (.ref C_Holds) "__setattr__" = some (some (.builtin "object.__setattr__")))
    (n_Holds_place : PySem.W.findIn K (.ref C_Holds) "place" = some none)
    (n_Holds_key : PySem.W.findIn K (.ref C_Holds) "key" = some none)
    (n_Holds_depth : PySem.W.findIn K (.ref C_Holds) "depth" = some none)
    (n_Holds_said : PySem.W.findIn K (.ref C_Holds) "said" = some none)
    (ia_Holds : PySem.W.findIn K (.ref C_Holds) "__class__" = some (some (.builtin "object.__class__")))
    (in_Holds : PySem.W.specialIn K (.builtin "object.__class__") "__get__" = some (some (.builtin "getset_descriptor.__get__")))
    (it_Holds : PySem.W.takesIn K (.builtin "object.__class__") = some true)
    (im_Holds : PySem.W.mroIn K C_Holds (.type "object") = some true)
    (aHolds0 : PySem.W.findIn K (.ref C_Holds) "__init__" = some (some (.ref fHolds0))) (iHolds0 : PySem.W.isFn K (.ref fHolds0) = true) (lHolds0 : K.lookup fHolds0 = some ⟨ocHolds0, odHolds0, .func (PySem.W.fnOf "__init__" "Holds.__init__" (defArgs s_Holds___init__) (defBody s_Holds___init__) (defScope s_Holds___init__) .none kVHolds0 dcHolds0 pmHolds0 anHolds0 cdHolds0 ctHolds0), slHolds0⟩) (cHolds0 : PySem.W.codeIn K cdHolds0 "Holds.__init__" = true) (kHolds0 : PySem.W.keepIn K (.ref fHolds0) = true)
    (mk_Holds : PySem.W.makesIn K C_Holds = true) (kc_Holds : PySem.W.keepIn K (.ref C_Holds) = true)
    (aHolds1 : PySem.W.findIn K (.ref C_Holds) "ends" = some (some (.ref fHolds1))) (iHolds1 : PySem.W.isFn K (.ref fHolds1) = true) (lHolds1 : K.lookup fHolds1 = some ⟨ocHolds1, odHolds1, .func (PySem.W.fnOf "ends" "Holds.ends" (defArgs s_Holds_ends) (defBody s_Holds_ends) (defScope s_Holds_ends) .none kVHolds1 dcHolds1 pmHolds1 anHolds1 cdHolds1 ctHolds1), slHolds1⟩) (cHolds1 : PySem.W.codeIn K cdHolds1 "Holds.ends" = true) (kHolds1 : PySem.W.keepIn K (.ref fHolds1) = true)
    (aHolds2 : PySem.W.findIn K (.ref C_Holds) "shown" = some (some (.ref fHolds2))) (iHolds2 : PySem.W.isFn K (.ref fHolds2) = true) (lHolds2 : K.lookup fHolds2 = some ⟨ocHolds2, odHolds2, .func (PySem.W.fnOf "shown" "Behind.shown" (defArgs s_Behind_shown) (defBody s_Behind_shown) (defScope s_Behind_shown) .none kVHolds2 dcHolds2 pmHolds2 anHolds2 cdHolds2 ctHolds2), slHolds2⟩) (cHolds2 : PySem.W.codeIn K cdHolds2 "Behind.shown" = true) (kHolds2 : PySem.W.keepIn K (.ref fHolds2) = true)
    (aHolds3 : PySem.W.findIn K (.ref C_Holds) "judged" = some (some (.ref fHolds3))) (iHolds3 : PySem.W.isFn K (.ref fHolds3) = true) (lHolds3 : K.lookup fHolds3 = some ⟨ocHolds3, odHolds3, .func (PySem.W.fnOf "judged" "Claim.judged" (defArgs s_Claim_judged) (defBody s_Claim_judged) (defScope s_Claim_judged) .none kVHolds3 dcHolds3 pmHolds3 anHolds3 cdHolds3 ctHolds3), slHolds3⟩) (cHolds3 : PySem.W.codeIn K cdHolds3 "Claim.judged" = true) (kHolds3 : PySem.W.keepIn K (.ref fHolds3) = true)
    (g_Lacks : PySem.W.nsIn K mainGlobals "Lacks" = some (some (.ref C_Lacks)))
    (pg_Lacks : PySem.W.plainGet K C_Lacks Str.empty = true)
    (hd_Lacks : PySem.W.hasDictIn K C_Lacks = true)
    (po_Lacks : PySem.W.plainOver K C_Lacks = true)
    (sa_Lacks : PySem.W.findIn K (.ref C_Lacks) "__setattr__" = some (some (.builtin "object.__setattr__")))
    (n_Lacks_place : PySem.W.findIn K (.ref C_Lacks) "place" = some none)
    (n_Lacks_key : PySem.W.findIn K (.ref C_Lacks) "key" = some none)
    (n_Lacks_depth : PySem.W.findIn K (.ref C_Lacks) "depth" = some none)
    (ia_Lacks : PySem.W.findIn K (.ref C_Lacks) "__class__" = some (some (.builtin "object.__class__")))
    (in_Lacks : PySem.W.specialIn K (.builtin "object.__class__") "__get__" = some (some (.builtin "getset_descriptor.__get__")))
    (it_Lacks : PySem.W.takesIn K (.builtin "object.__class__") = some true)
    (im_Lacks : PySem.W.mroIn K C_Lacks (.type "object") = some true)
    (aLacks0 : PySem.W.findIn K (.ref C_Lacks) "ends" = some (some (.ref fLacks0))) (iLacks0 : PySem.W.isFn K (.ref fLacks0) = true) (lLacks0 : K.lookup fLacks0 = some ⟨ocLacks0, odLacks0, .func (PySem.W.fnOf "ends" "Lacks.ends" (defArgs s_Lacks_ends) (defBody s_Lacks_ends) (defScope s_Lacks_ends) .none kVLacks0 dcLacks0 pmLacks0 anLacks0 cdLacks0 ctLacks0), slLacks0⟩) (cLacks0 : PySem.W.codeIn K cdLacks0 "Lacks.ends" = true) (kLacks0 : PySem.W.keepIn K (.ref fLacks0) = true)
    (aLacks1 : PySem.W.findIn K (.ref C_Lacks) "__init__" = some (some (.ref fLacks1))) (iLacks1 : PySem.W.isFn K (.ref fLacks1) = true) (lLacks1 : K.lookup fLacks1 = some ⟨ocLacks1, odLacks1, .func (PySem.W.fnOf "__init__" "Behind.__init__" (defArgs s_Behind___init__) (defBody s_Behind___init__) (defScope s_Behind___init__) .none kVLacks1 dcLacks1 pmLacks1 anLacks1 cdLacks1 ctLacks1), slLacks1⟩) (cLacks1 : PySem.W.codeIn K cdLacks1 "Behind.__init__" = true) (kLacks1 : PySem.W.keepIn K (.ref fLacks1) = true)
    (mk_Lacks : PySem.W.makesIn K C_Lacks = true) (kc_Lacks : PySem.W.keepIn K (.ref C_Lacks) = true)
    (aLacks2 : PySem.W.findIn K (.ref C_Lacks) "shown" = some (some (.ref fLacks2))) (iLacks2 : PySem.W.isFn K (.ref fLacks2) = true) (lLacks2 : K.lookup fLacks2 = some ⟨ocLacks2, odLacks2, .func (PySem.W.fnOf "shown" "Behind.shown" (defArgs s_Behind_shown) (defBody s_Behind_shown) (defScope s_Behind_shown) .none kVLacks2 dcLacks2 pmLacks2 anLacks2 cdLacks2 ctLacks2), slLacks2⟩) (cLacks2 : PySem.W.codeIn K cdLacks2 "Behind.shown" = true) (kLacks2 : PySem.W.keepIn K (.ref fLacks2) = true)
    (aLacks3 : PySem.W.findIn K (.ref C_Lacks) "judged" = some (some (.ref fLacks3))) (iLacks3 : PySem.W.isFn K (.ref fLacks3) = true) (lLacks3 : K.lookup fLacks3 = some ⟨ocLacks3, odLacks3, .func (PySem.W.fnOf "judged" "Claim.judged" (defArgs s_Claim_judged) (defBody s_Claim_judged) (defScope s_Claim_judged) .none kVLacks3 dcLacks3 pmLacks3 anLacks3 cdLacks3 ctLacks3), slLacks3⟩) (cLacks3 : PySem.W.codeIn K cdLacks3 "Claim.judged" = true) (kLacks3 : PySem.W.keepIn K (.ref fLacks3) = true)
    (q_Holds_Claim : PySem.W.kitOne K (.ref C_Holds) (.ref C_Claim) = some true)
    (q_Lacks_Claim : PySem.W.kitOne K (.ref C_Lacks) (.ref C_Claim) = some true)
    (g_Follower : PySem.W.nsIn K mainGlobals "Follower" = some (some (.ref C_Follower)))
    (pg_Follower : PySem.W.plainGet K C_Follower Str.empty = true)
    (hd_Follower : PySem.W.hasDictIn K C_Follower = true)
    (po_Follower : PySem.W.plainOver K C_Follower = true)
    (sa_Follower : PySem.W.findIn K (.ref C_Follower) "__setattr__" = some (some (.builtin "object.__setattr__")))
    (n_Follower_seal : PySem.W.findIn K (.ref C_Follower) "seal" = some none)
    (n_Follower_count : PySem.W.findIn K (.ref C_Follower) "count" = some none)
    (n_Follower_newest : PySem.W.findIn K (.ref C_Follower) "newest" = some none)
    (ia_Follower : PySem.W.findIn K (.ref C_Follower) "__class__" = some (some (.builtin "object.__class__")))
    (in_Follower : PySem.W.specialIn K (.builtin "object.__class__") "__get__" = some (some (.builtin "getset_descriptor.__get__")))
    (it_Follower : PySem.W.takesIn K (.builtin "object.__class__") = some true)
    (im_Follower : PySem.W.mroIn K C_Follower (.type "object") = some true)
    (aFollower0 : PySem.W.findIn K (.ref C_Follower) "__init__" = some (some (.ref fFollower0))) (iFollower0 : PySem.W.isFn K (.ref fFollower0) = true) (lFollower0 : K.lookup fFollower0 = some ⟨ocFollower0, odFollower0, .func (PySem.W.fnOf "__init__" "Follower.__init__" (defArgs s_Follower___init__) (defBody s_Follower___init__) (defScope s_Follower___init__) .none kVFollower0 dcFollower0 pmFollower0 anFollower0 cdFollower0 ctFollower0), slFollower0⟩) (cFollower0 : PySem.W.codeIn K cdFollower0 "Follower.__init__" = true) (kFollower0 : PySem.W.keepIn K (.ref fFollower0) = true)
    (mk_Follower : PySem.W.makesIn K C_Follower = true) (kc_Follower : PySem.W.keepIn K (.ref C_Follower) = true)
    (aFollower1 : PySem.W.findIn K (.ref C_Follower) "size" = some (some (.ref fFollower1))) (iFollower1 : PySem.W.isFn K (.ref fFollower1) = true) (lFollower1 : K.lookup fFollower1 = some ⟨ocFollower1, odFollower1, .func (PySem.W.fnOf "size" "Follower.size" (defArgs s_Follower_size) (defBody s_Follower_size) (defScope s_Follower_size) .none kVFollower1 dcFollower1 pmFollower1 anFollower1 cdFollower1 ctFollower1), slFollower1⟩) (cFollower1 : PySem.W.codeIn K cdFollower1 "Follower.size" = true) (kFollower1 : PySem.W.keepIn K (.ref fFollower1) = true)
    (aFollower2 : PySem.W.findIn K (.ref C_Follower) "head" = some (some (.ref fFollower2))) (iFollower2 : PySem.W.isFn K (.ref fFollower2) = true) (lFollower2 : K.lookup fFollower2 = some ⟨ocFollower2, odFollower2, .func (PySem.W.fnOf "head" "Follower.head" (defArgs s_Follower_head) (defBody s_Follower_head) (defScope s_Follower_head) .none kVFollower2 dcFollower2 pmFollower2 anFollower2 cdFollower2 ctFollower2), slFollower2⟩) (cFollower2 : PySem.W.codeIn K cdFollower2 "Follower.head" = true) (kFollower2 : PySem.W.keepIn K (.ref fFollower2) = true)
    (aFollower3 : PySem.W.findIn K (.ref C_Follower) "take" = some (some (.ref fFollower3))) (iFollower3 : PySem.W.isFn K (.ref fFollower3) = true) (lFollower3 : K.lookup fFollower3 = some ⟨ocFollower3, odFollower3, .func (PySem.W.fnOf "take" "Follower.take" (defArgs s_Follower_take) (defBody s_Follower_take) (defScope s_Follower_take) .none kVFollower3 dcFollower3 pmFollower3 anFollower3 cdFollower3 ctFollower3), slFollower3⟩) (cFollower3 : PySem.W.codeIn K cdFollower3 "Follower.take" = true) (kFollower3 : PySem.W.keepIn K (.ref fFollower3) = true)
    (aFollower4 : PySem.W.findIn K (.ref C_Follower) "judge" = some (some (.ref fFollower4))) (iFollower4 : PySem.W.isFn K (.ref fFollower4) = true) (lFollower4 : K.lookup fFollower4 = some ⟨ocFollower4, odFollower4, .func (PySem.W.fnOf "judge" "Follower.judge" (defArgs s_Follower_judge) (defBody s_Follower_judge) (defScope s_Follower_judge) .none kVFollower4 dcFollower4 pmFollower4 anFollower4 cdFollower4 ctFollower4), slFollower4⟩) (cFollower4 : PySem.W.codeIn K cdFollower4 "Follower.judge" = true) (kFollower4 : PySem.W.keepIn K (.ref fFollower4) = true)
    : Txt K mg cc := by
  exact ⟨⟨⟨_, _, fun_mk (st := s__wall) l0 c0 k0, PySem.W.mg_of X G a0, fun us hl => match us, hl with | [_], _ => rfl⟩⟩,
    ⟨⟨_, _, fun_mk (st := s_split) l1 c1 k1, PySem.W.mg_of X G a1, fun us hl => match us, hl with | [_], _ => rfl⟩⟩,
    ⟨⟨_, _, fun_mk (st := s_none_seal) l2 c2 k2, PySem.W.mg_of X G a2, fun us hl => match us, hl with | [_], _ => rfl⟩⟩,
    ⟨⟨_, _, fun_mk (st := s_leaf_seal) l3 c3 k3, PySem.W.mg_of X G a3, fun us hl => match us, hl with | [_, _, _], _ => rfl⟩⟩,
    ⟨⟨_, _, fun_mk (st := s_pair_seal) l4 c4 k4, PySem.W.mg_of X G a4, fun us hl => match us, hl with | [_, _, _], _ => rfl⟩⟩,
    ⟨⟨_, _, fun_mk (st := s_book_seal) l5 c5 k5, PySem.W.mg_of X G a5, fun us hl => match us, hl with | [_, _, _], _ => rfl⟩⟩,
    ⟨⟨_, _, fun_mk (st := s_top_of) l6 c6 k6, PySem.W.mg_of X G a6, fun us hl => match us, hl with | [_, _], _ => rfl⟩⟩,
    ⟨⟨_, _, fun_mk (st := s_path_of) l7 c7 k7, PySem.W.mg_of X G a7, fun us hl => match us, hl with | [_, _, _], _ => rfl⟩⟩,
    ⟨⟨_, _, fun_mk (st := s_growth_of) l8 c8 k8, PySem.W.mg_of X G a8, fun us hl => match us, hl with | [_, _, _], _ => rfl⟩⟩,
    ⟨⟨_, _, fun_mk (st := s_last_of) l9 c9 k9, PySem.W.mg_of X G a9, fun us hl => match us, hl with | [_], _ => rfl⟩⟩,
    ⟨⟨_, _, fun_mk (st := s_risen) l10 c10 k10, PySem.W.mg_of X G a10, fun us hl => match us, hl with | [_, _, _, _, _], _ => rfl⟩⟩,
    ⟨⟨_, _, fun_mk (st := s_regrown) l11 c11 k11, PySem.W.mg_of X G a11, fun us hl => match us, hl with | [_, _, _, _], _ => rfl⟩⟩,
    ⟨⟨_, _, fun_mk (st := s_parted) l12 c12 k12, PySem.W.mg_of X G a12, fun us hl => match us, hl with | [_, _], _ => rfl⟩⟩,
    ⟨⟨_, _, fun_mk (st := s_part_top) l13 c13 k13, PySem.W.mg_of X G a13, fun us hl => match us, hl with | [_, _, _], _ => rfl⟩⟩,
    ⟨⟨_, _, fun_mk (st := s_table_seal) l14 c14 k14, PySem.W.mg_of X G a14, fun us hl => match us, hl with | [_, _, _], _ => rfl⟩⟩,
    ⟨⟨_, _, fun_mk (st := s_climbed) l15 c15 k15, PySem.W.mg_of X G a15, fun us hl => match us, hl with | [_, _, _, _], _ => rfl⟩⟩,
    ⟨⟨_, _, fun_mk (st := s_key_of) l16 c16 k16, PySem.W.mg_of X G a16, fun us hl => match us, hl with | [_, _], _ => rfl⟩⟩,
    ⟨⟨_, _, fun_mk (st := s_read_row) l17 c17 k17, PySem.W.mg_of X G a17, fun us hl => match us, hl with | [_, _], _ => rfl⟩⟩,
    ⟨⟨_, _, fun_mk (st := s_placed) l18 c18 k18, PySem.W.mg_of X G a18, fun us hl => match us, hl with | [_, _, _], _ => rfl⟩⟩,
    ⟨⟨_, _, fun_mk (st := s_changed) l19 c19 k19, PySem.W.mg_of X G a19, fun us hl => match us, hl with | [_, _, _], _ => rfl⟩⟩,
    ⟨⟨_, _, fun_mk (st := s__law_cell_at) l20 c20 k20, PySem.W.mg_of X G a20, fun us hl => match us, hl with | [_, _], _ => rfl⟩⟩,
    ⟨⟨_, _, fun_mk (st := s__law_plain) l21 c21 k21, PySem.W.mg_of X G a21, fun us hl => match us, hl with | [_, _, _], _ => rfl⟩⟩,
    ⟨⟨_, _, fun_mk (st := s__law_turned) l22 c22 k22, PySem.W.mg_of X G a22, fun us hl => match us, hl with | [_, _, _], _ => rfl⟩⟩,
    ⟨⟨_, _, _, _, _, _, _, _, _, l23, c23, k23, PySem.W.mg_of X G a23⟩⟩,
    ⟨⟨_, _, fun_mk (st := s__law_seal_by) l24 c24 k24, PySem.W.mg_of X G a24, fun us hl => match us, hl with | [_], _ => rfl⟩⟩,
    ⟨⟨_, _, fun_mk (st := s__law_draw) l25 c25 k25, PySem.W.mg_of X G a25, fun us hl => match us, hl with | [_, _, _], _ => rfl⟩⟩,
    ⟨⟨_, _, fun_mk (st := s__law_word) l26 c26 k26, PySem.W.mg_of X G a26, fun us hl => match us, hl with | [_], _ => rfl⟩⟩,
    ⟨⟨_, _, fun_mk (st := s__law_split) l27 c27 k27, PySem.W.mg_of X G a27, fun us hl => match us, hl with | [_], _ => rfl⟩⟩,
    ⟨⟨_, _, fun_mk (st := s__law_top) l28 c28 k28, PySem.W.mg_of X G a28, fun us hl => match us, hl with | [_, _], _ => rfl⟩⟩,
    ⟨⟨_, _, fun_mk (st := s__law_path) l29 c29 k29, PySem.W.mg_of X G a29, fun us hl => match us, hl with | [_, _, _], _ => rfl⟩⟩,
    ⟨⟨_, _, fun_mk (st := s__law_part) l30 c30 k30, PySem.W.mg_of X G a30, fun us hl => match us, hl with | [_, _, _], _ => rfl⟩⟩,
    ⟨⟨_, _, fun_mk (st := s__law_table) l31 c31 k31, PySem.W.mg_of X G a31, fun us hl => match us, hl with | [_, _, _], _ => rfl⟩⟩,
    ⟨⟨_, _, fun_mk (st := s__law_way) l32 c32 k32, PySem.W.mg_of X G a32, fun us hl => match us, hl with | [_, _, _, _], _ => rfl⟩⟩,
    ⟨⟨_, _, fun_mk (st := s__law_text) l33 c33 k33, PySem.W.mg_of X G a33, fun us hl => match us, hl with | [_, _, _], _ => rfl⟩⟩,
    ⟨⟨_, _, fun_mk (st := s__law_behind) l34 c34 k34, PySem.W.mg_of X G a34, fun us hl => match us, hl with | [_, _], _ => rfl⟩⟩,
    ⟨⟨_, _, fun_mk (st := s__law_filled) l35 c35 k35, PySem.W.mg_of X G a35, fun us hl => match us, hl with | [_, _, _, _, _], _ => rfl⟩⟩,
    ⟨⟨_, _, fun_mk (st := s__law_paper) l36 c36 k36, PySem.W.mg_of X G a36, fun us hl => match us, hl with | [_, _, _, _, _, _], _ => rfl⟩⟩,
    ⟨⟨_, _, fun_mk (st := s__law_list_bent) l37 c37 k37, PySem.W.mg_of X G a37, fun us hl => match us, hl with | [_, _, _], _ => rfl⟩⟩,
    ⟨⟨_, _, fun_mk (st := s__law_bent) l38 c38 k38, PySem.W.mg_of X G a38, fun us hl => match us, hl with | [_, _, _], _ => rfl⟩⟩,
    ⟨⟨_, _, fun_mk (st := s__law_one) l39 c39 k39, PySem.W.mg_of X G a39, fun us hl => match us, hl with | [_, _, _, _, _], _ => rfl⟩⟩,
    ⟨⟨_, _, fun_mk (st := s_law) l40 c40 k40, PySem.W.mg_of X G a40, fun us hl => match us, hl with | [_], _ => rfl⟩⟩,
    ⟨C_BookError, PySem.W.mg_of X G g_BookError⟩,
    ⟨C_Claim, PySem.W.mg_of X G g_Claim⟩,
    ⟨⟨C_BadPaper, PySem.W.mg_of X G g_BadPaper, xP_BadPaper, kP_BadPaper, bP_BadPaper, tP_BadPaper, ⟨hg_BadPaper, hk_BadPaper, bP_BadPaper, hd_BadPaper, ha_BadPaper, hn_BadPaper, ht_BadPaper, hm_BadPaper⟩, ex_BadPaper⟩⟩,
    ⟨⟨C_NoPlace, PySem.W.mg_of X G g_NoPlace, xP_NoPlace, kP_NoPlace, bP_NoPlace, tP_NoPlace, ⟨hg_NoPlace, hk_NoPlace, bP_NoPlace, hd_NoPlace, ha_NoPlace, hn_NoPlace, ht_NoPlace, hm_NoPlace⟩, ex_NoPlace⟩⟩,
    ⟨C_BadRow, C_BookError, ⟨PySem.W.mg_of X G g_BadRow, ⟨⟨_, _, _, _, _, _, _, _, _, _, _, _, _, _, _, xL_BadRow, rfl⟩, sa_BadRow, eC_BadRow, tC_BadRow, kC_BadRow⟩, ⟨ga_BadRow, gg_BadRow, eC_BadRow, hC_BadRow⟩, nf_BadRow, ⟨_, _, fun_mk (st := s_BadRow___init__) li_BadRow ci_BadRow ki_BadRow, fi_BadRow, ti_BadRow, fun us hl => match us, hl with | [_, _], _ => rfl⟩, ⟨ga_BadRow, gg_BadRow, eC_BadRow, hC_BadRow, iac_BadRow, xn_BadRow, xt_BadRow, xm_BadRow⟩, xe_BadRow, PySem.W.mg_of X G g_BookError, bg_BadRow, br_BadRow, bf_BadRow⟩⟩,
    ⟨C_Behind, ⟨PySem.W.mg_of X G g_Behind, _, _, ⟨rdMBehind, gaMBehind⟩, fcMBehind, fun_mk (st := s_Behind___init__) lMBehind cMBehind kMBehind, kMBehind, fun us hl => match us, hl with | [_, _, _, _], _ => rfl⟩⟩,
    ⟨C_Table, ⟨PySem.W.mg_of X G g_Table,
      ⟨pg_Table, hd_Table, po_Table, sa_Table⟩,
      n_Table_seal,
      n_Table_depth,
      n_Table_held,
      ia_Table,
      in_Table,
      it_Table,
      im_Table,
      ⟨⟨_, _, ⟨⟨_, _, _, _, _, _, _, _, _, _, rfl, lTable0, cTable0, .inr ⟨by simp, dTTable0, _, _, _, rfl, dTable0, rfl, (.cons ⟨_, rfl⟩ .nil)⟩, .inl rfl⟩, kTable0⟩, ⟨mk_Table, aTable0, iTable0, kc_Table⟩⟩⟩,
      ⟨⟨_, _, fun_mk (st := s_Table_asked) lTable1 cTable1 kTable1, ⟨aTable1, iTable1, kTable1⟩, fun us hl => match us, hl with | [_, _], _ => rfl⟩⟩,
      ⟨⟨_, _, fun_mk (st := s_Table_put) lTable2 cTable2 kTable2, ⟨aTable2, iTable2, kTable2⟩, fun us hl => match us, hl with | [_, _, _], _ => rfl⟩⟩,
      ⟨⟨_, _, fun_mk (st := s_Table_cut) lTable3 cTable3 kTable3, ⟨aTable3, iTable3, kTable3⟩, fun us hl => match us, hl with | [_, _], _ => rfl⟩⟩,
      ⟨⟨_, _, fun_mk (st := s_Table_value) lTable4 cTable4 kTable4, ⟨aTable4, iTable4, kTable4⟩, fun us hl => match us, hl with | [_, _], _ => rfl⟩⟩,
      ⟨⟨_, _, fun_mk (st := s_Table_rows) lTable5 cTable5 kTable5, ⟨aTable5, iTable5, kTable5⟩, fun us hl => match us, hl with | [_], _ => rfl⟩⟩,
      ⟨⟨_, _, fun_mk (st := s_Table_head) lTable6 cTable6 kTable6, ⟨aTable6, iTable6, kTable6⟩, fun us hl => match us, hl with | [_], _ => rfl⟩⟩,
      ⟨⟨_, _, fun_mk (st := s_Table_way) lTable7 cTable7 kTable7, ⟨aTable7, iTable7, kTable7⟩, fun us hl => match us, hl with | [_, _], _ => rfl⟩⟩⟩⟩,
    ⟨C_Keeper, ⟨PySem.W.mg_of X G g_Keeper,
      ⟨pg_Keeper, hd_Keeper, po_Keeper, sa_Keeper⟩,
      n_Keeper_seal,
      n_Keeper_depth,
      n_Keeper_texts,
      n_Keeper_tables,
      n_Keeper_leaves,
      ia_Keeper,
      in_Keeper,
      it_Keeper,
      im_Keeper,
      ⟨⟨_, _, ⟨⟨_, _, _, _, _, _, _, _, _, _, rfl, lKeeper0, cKeeper0, .inr ⟨by simp, dTKeeper0, _, _, _, rfl, dKeeper0, rfl, (.cons ⟨_, rfl⟩ .nil)⟩, .inl rfl⟩, kKeeper0⟩, ⟨mk_Keeper, aKeeper0, iKeeper0, kc_Keeper⟩⟩⟩,
      ⟨⟨_, _, fun_mk (st := s_Keeper_add) lKeeper1 cKeeper1 kKeeper1, ⟨aKeeper1, iKeeper1, kKeeper1⟩, fun us hl => match us, hl with | [_, _], _ => rfl⟩⟩,
      ⟨⟨_, _, fun_mk (st := s_Keeper_size) lKeeper2 cKeeper2 kKeeper2, ⟨aKeeper2, iKeeper2, kKeeper2⟩, fun us hl => match us, hl with | [_], _ => rfl⟩⟩,
      ⟨⟨_, _, fun_mk (st := s_Keeper_first) lKeeper3 cKeeper3 kKeeper3, ⟨aKeeper3, iKeeper3, kKeeper3⟩, fun us hl => match us, hl with | [_, _], _ => rfl⟩⟩,
      ⟨⟨_, _, fun_mk (st := s_Keeper_within) lKeeper4 cKeeper4 kKeeper4, ⟨aKeeper4, iKeeper4, kKeeper4⟩, fun us hl => match us, hl with | [_, _, _], _ => rfl⟩⟩,
      ⟨⟨_, _, fun_mk (st := s_Keeper_text) lKeeper5 cKeeper5 kKeeper5, ⟨aKeeper5, iKeeper5, kKeeper5⟩, fun us hl => match us, hl with | [_, _], _ => rfl⟩⟩,
      ⟨⟨_, _, fun_mk (st := s_Keeper_table_head) lKeeper6 cKeeper6 kKeeper6, ⟨aKeeper6, iKeeper6, kKeeper6⟩, fun us hl => match us, hl with | [_, _], _ => rfl⟩⟩,
      ⟨⟨_, _, ⟨⟨_, _, _, _, _, _, _, _, _, _, rfl, lKeeper7, cKeeper7, .inr ⟨by simp, dTKeeper7, _, _, _, rfl, dKeeper7, rfl, (.cons rfl .nil)⟩, .inl rfl⟩, kKeeper7⟩, ⟨aKeeper7, iKeeper7, kKeeper7⟩⟩⟩,
      ⟨⟨_, _, ⟨⟨_, _, _, _, _, _, _, _, _, _, rfl, lKeeper8, cKeeper8, .inr ⟨by simp, dTKeeper8, _, _, _, rfl, dKeeper8, rfl, (.cons rfl .nil)⟩, .inl rfl⟩, kKeeper8⟩, ⟨aKeeper8, iKeeper8, kKeeper8⟩⟩⟩,
      ⟨⟨_, _, ⟨⟨_, _, _, _, _, _, _, _, _, _, rfl, lKeeper9, cKeeper9, .inr ⟨by simp, dTKeeper9, _, _, _, rfl, dKeeper9, rfl, (.cons rfl .nil)⟩, .inl rfl⟩, kKeeper9⟩, ⟨aKeeper9, iKeeper9, kKeeper9⟩⟩⟩,
      ⟨⟨_, _, fun_mk (st := s_Keeper_way) lKeeper10 cKeeper10 kKeeper10, ⟨aKeeper10, iKeeper10, kKeeper10⟩, fun us hl => match us, hl with | [_, _, _], _ => rfl⟩⟩,
      ⟨⟨_, _, ⟨⟨_, _, _, _, _, _, _, _, _, _, rfl, lKeeper11, cKeeper11, .inr ⟨by simp, dTKeeper11, _, _, _, rfl, dKeeper11, rfl, (.cons rfl .nil)⟩, .inl rfl⟩, kKeeper11⟩, ⟨aKeeper11, iKeeper11, kKeeper11⟩⟩⟩⟩⟩,
    ⟨C_Stands, ⟨PySem.W.mg_of X G g_Stands,
      ⟨pg_Stands, hd_Stands, po_Stands, sa_Stands⟩,
      n_Stands_place,
      n_Stands_words,
      n_Stands_table,
      ia_Stands,
      in_Stands,
      it_Stands,
      im_Stands,
      ⟨⟨_, _, fun_mk (st := s_Stands___init__) lStands0 cStands0 kStands0, ⟨mk_Stands, aStands0, iStands0, kc_Stands⟩, fun us hl => match us, hl with | [_, _, _, _], _ => rfl⟩⟩,
      ⟨⟨_, _, fun_mk (st := s_Stands_shown) lStands1 cStands1 kStands1, ⟨aStands1, iStands1, kStands1⟩, fun us hl => match us, hl with | [_, _, _, _, _], _ => rfl⟩⟩,
      ⟨⟨_, _, fun_mk (st := s_Claim_judged) lStands2 cStands2 kStands2, ⟨aStands2, iStands2, kStands2⟩, fun us hl => match us, hl with | [_, _, _, _, _], _ => rfl⟩⟩⟩⟩,
    ⟨C_Grows, ⟨PySem.W.mg_of X G g_Grows,
      ⟨pg_Grows, hd_Grows, po_Grows, sa_Grows⟩,
      n_Grows_old,
      n_Grows_before,
      ia_Grows,
      in_Grows,
      it_Grows,
      im_Grows,
      ⟨⟨_, _, fun_mk (st := s_Grows___init__) lGrows0 cGrows0 kGrows0, ⟨mk_Grows, aGrows0, iGrows0, kc_Grows⟩, fun us hl => match us, hl with | [_, _, _], _ => rfl⟩⟩,
      ⟨⟨_, _, fun_mk (st := s_Grows_shown) lGrows1 cGrows1 kGrows1, ⟨aGrows1, iGrows1, kGrows1⟩, fun us hl => match us, hl with | [_, _, _, _, _], _ => rfl⟩⟩,
      ⟨⟨_, _, fun_mk (st := s_Claim_judged) lGrows2 cGrows2 kGrows2, ⟨aGrows2, iGrows2, kGrows2⟩, fun us hl => match us, hl with | [_, _, _, _, _], _ => rfl⟩⟩⟩⟩,
    ⟨C_Holds, ⟨PySem.W.mg_of X G g_Holds,
      ⟨pg_Holds, hd_Holds, po_Holds, sa_Holds⟩,
      n_Holds_place,
      n_Holds_key,
      n_Holds_depth,
      n_Holds_said,
      ia_Holds,
      in_Holds,
      it_Holds,
      im_Holds,
      ⟨⟨_, _, fun_mk (st := s_Holds___init__) lHolds0 cHolds0 kHolds0, ⟨mk_Holds, aHolds0, iHolds0, kc_Holds⟩, fun us hl => match us, hl with | [_, _, _, _, _], _ => rfl⟩⟩,
      ⟨⟨_, _, fun_mk (st := s_Holds_ends) lHolds1 cHolds1 kHolds1, ⟨aHolds1, iHolds1, kHolds1⟩, fun us hl => match us, hl with | [_, _], _ => rfl⟩⟩,
      ⟨⟨_, _, fun_mk (st := s_Behind_shown) lHolds2 cHolds2 kHolds2, ⟨aHolds2, iHolds2, kHolds2⟩, fun us hl => match us, hl with | [_, _, _, _, _], _ => rfl⟩⟩,
      ⟨⟨_, _, fun_mk (st := s_Claim_judged) lHolds3 cHolds3 kHolds3, ⟨aHolds3, iHolds3, kHolds3⟩, fun us hl => match us, hl with | [_, _, _, _, _], _ => rfl⟩⟩⟩⟩,
    ⟨C_Lacks, ⟨PySem.W.mg_of X G g_Lacks,
      ⟨pg_Lacks, hd_Lacks, po_Lacks, sa_Lacks⟩,
      n_Lacks_place,
      n_Lacks_key,
      n_Lacks_depth,
      ia_Lacks,
      in_Lacks,
      it_Lacks,
      im_Lacks,
      ⟨⟨_, _, fun_mk (st := s_Lacks_ends) lLacks0 cLacks0 kLacks0, ⟨aLacks0, iLacks0, kLacks0⟩, fun us hl => match us, hl with | [_, _], _ => rfl⟩⟩,
      ⟨⟨_, _, fun_mk (st := s_Behind___init__) lLacks1 cLacks1 kLacks1, ⟨mk_Lacks, aLacks1, iLacks1, kc_Lacks⟩, fun us hl => match us, hl with | [_, _, _, _], _ => rfl⟩⟩,
      ⟨⟨_, _, fun_mk (st := s_Behind_shown) lLacks2 cLacks2 kLacks2, ⟨aLacks2, iLacks2, kLacks2⟩, fun us hl => match us, hl with | [_, _, _, _, _], _ => rfl⟩⟩,
      ⟨⟨_, _, fun_mk (st := s_Claim_judged) lLacks3 cLacks3 kLacks3, ⟨aLacks3, iLacks3, kLacks3⟩, fun us hl => match us, hl with | [_, _, _, _, _], _ => rfl⟩⟩⟩⟩,
    fun C D e1 e2 => by rw [PySem.W.mg_of X G g_Holds] at e1; rw [PySem.W.mg_of X G g_Claim] at e2; cases e1; cases e2; exact q_Holds_Claim,
    fun C D e1 e2 => by rw [PySem.W.mg_of X G g_Lacks] at e1; rw [PySem.W.mg_of X G g_Claim] at e2; cases e1; cases e2; exact q_Lacks_Claim,
    ⟨C_Follower, ⟨PySem.W.mg_of X G g_Follower,
      ⟨pg_Follower, hd_Follower, po_Follower, sa_Follower⟩,
      n_Follower_seal,
      n_Follower_count,
      n_Follower_newest,
      ia_Follower,
      in_Follower,
      it_Follower,
      im_Follower,
      ⟨⟨_, _, fun_mk (st := s_Follower___init__) lFollower0 cFollower0 kFollower0, ⟨mk_Follower, aFollower0, iFollower0, kc_Follower⟩, fun us hl => match us, hl with | [_, _], _ => rfl⟩⟩,
      ⟨⟨_, _, fun_mk (st := s_Follower_size) lFollower1 cFollower1 kFollower1, ⟨aFollower1, iFollower1, kFollower1⟩, fun us hl => match us, hl with | [_], _ => rfl⟩⟩,
      ⟨⟨_, _, fun_mk (st := s_Follower_head) lFollower2 cFollower2 kFollower2, ⟨aFollower2, iFollower2, kFollower2⟩, fun us hl => match us, hl with | [_], _ => rfl⟩⟩,
      ⟨⟨_, _, fun_mk (st := s_Follower_take) lFollower3 cFollower3 kFollower3, ⟨aFollower3, iFollower3, kFollower3⟩, fun us hl => match us, hl with | [_, _, _, _], _ => rfl⟩⟩,
      ⟨⟨_, _, fun_mk (st := s_Follower_judge) lFollower4 cFollower4 kFollower4, ⟨aFollower4, iFollower4, kFollower4⟩, fun us hl => match us, hl with | [_, _, _], _ => rfl⟩⟩⟩⟩, ⟨PySem.W.mg_none_of X G z_len, PySem.W.mg_none_of X G z_isinstance, PySem.W.mg_none_of X G z_int, PySem.W.mg_none_of X G z_bool, PySem.W.mg_none_of X G z_list, PySem.W.mg_none_of X G z_dict, PySem.W.mg_none_of X G z_tuple, PySem.W.mg_none_of X G z_range, PySem.W.mg_none_of X G z_str, PySem.W.mg_none_of X G z_sorted, PySem.W.mg_none_of X G z_min, PySem.W.mg_none_of X G z_max, PySem.W.mg_none_of X G z_enumerate, PySem.W.mg_none_of X G z_reversed⟩⟩
/-! ### seals that make a tuple of their three things -/
inductive DenP (tf : Str → V → V → List V) (H : Hp) : V → Tm → Prop
  | int (i : Int) : DenP tf H (.int i) (.int i)
  | str (x : Str) (h : txtOk x = true) : DenP tf H (.str x) (.str x)
  | sl {p : Addr} {m : Str} {va vb : V} {a b : Tm} (hm : txtOk m = true) (h : H p = some (.tup (tf m va vb))) (ha : DenP tf H va a) (hb : DenP tf H vb b) : DenP tf H (.ref p) (.sl m a b)
theorem DenP.mono {tf : Str → V → V → List V} {H H' : Hp} (e : Gr H H') {v : V} {t : Tm} (h : DenP tf H v t) : DenP tf H' v t := by
  induction h with
  | int i => exact .int i
  | str x h => exact .str x h
  | sl hm h _ _ iha ihb => exact .sl hm (e.keep _ _ h True.intro fun _ z => nomatch z) iha ihb
def tfP (m : Str) (a b : V) : List V := [.str m, a, b]
def tfT (m : Str) (a b : V) : List V := [.str "seal of", b, a, .str m]
def datP : Tm → PyData
  | .int i => .int i
  | .str x => .str x
  | .sl m a b => .tuple [.str m, datP a, datP b]
def datT : Tm → PyData
  | .int i => .int i
  | .str x => .str x
  | .sl m a b => .tuple [.str "seal of", datT b, datT a, .str m]
theorem DenP.dp {K : PySem.W.Frag} {H : Hp} {v : V} {t : Tm} (h : DenP tfP H v t) : Dp K H v (datP t) ∧ (datP t).canLay0 = true ∧ (datP t).depth ≤ t.dep := by
  induction h with
  | int i => exact ⟨.int i, rfl, Nat.le_refl _⟩
  | str x h => exact ⟨.str x, h, Nat.le_refl _⟩
  | @sl p m va vb a b hm h _ _ iha ihb =>
    obtain ⟨a1, a2, a3⟩ := iha
    obtain ⟨b1, b2, b3⟩ := ihb
    refine ⟨.tup (SqT.of h) (.cons (.str m) (.cons a1 (.cons b1 .nil))), ?_, ?_⟩
    · show (PySem.PyData.strOk m && ((datP a).canLay0 && ((datP b).canLay0 && true))) = true
      rw [show PySem.PyData.strOk m = true from hm, a2, b2]
      rfl
    · show max 0 (max (datP a).depth (max (datP b).depth 0)) + 1 ≤ max a.dep b.dep + 1
      omega
theorem DenP.dt {K : PySem.W.Frag} {H : Hp} {v : V} {t : Tm} (h : DenP tfT H v t) : Dp K H v (datT t) ∧ (datT t).canLay0 = true ∧ (datT t).depth ≤ t.dep := by
  induction h with
  | int i => exact ⟨.int i, rfl, Nat.le_refl _⟩
  | str x h => exact ⟨.str x, h, Nat.le_refl _⟩
  | @sl p m va vb a b hm h _ _ iha ihb =>
    obtain ⟨a1, a2, a3⟩ := iha
    obtain ⟨b1, b2, b3⟩ := ihb
    refine ⟨.tup (SqT.of h) (.cons (.str _) (.cons b1 (.cons a1 (.cons (.str m) .nil)))), ?_, ?_⟩
    · show (PySem.PyData.strOk "seal of" && ((datT b).canLay0 && ((datT a).canLay0 && (PySem.PyData.strOk m && true)))) = true
      rw [show PySem.PyData.strOk m = true from hm, a2, b2]
      decide +kernel
    · show max 0 (max (datT b).depth (max (datT a).depth (max 0 0))) + 1 ≤ max a.dep b.dep + 1
      omega
def plainSys (tf : Str → V → V → List V) (f : Addr) : Sys := ⟨f, fun H v t => DenP tf H v t, fun _ _ => True⟩
theorem goodP {K : PySem.W.Frag} (f : Addr) : (plainSys tfP f).Good K :=
  ⟨fun e h => h.mono e, fun _ _ => trivial, fun _ _ => trivial, fun i _ => .int i, fun x _ h => .str x h, fun h h' => ⟨_, DenP.dp h |>.1, DenP.dp h' |>.1, (DenP.dp (K := K) h).2.1, (DenP.dp (K := K) h).2.2⟩⟩
theorem goodT {K : PySem.W.Frag} (f : Addr) : (plainSys tfT f).Good K :=
  ⟨fun e h => h.mono e, fun _ _ => trivial, fun _ _ => trivial, fun i _ => .int i, fun x _ h => .str x h, fun h h' => ⟨_, DenP.dt h |>.1, DenP.dt h' |>.1, (DenP.dt (K := K) h).2.1, (DenP.dt (K := K) h).2.2⟩⟩
section
variable {P : Program} {w : World} {K : PySem.W.Frag} {mg : Str → Option Value} {base : Heap}
theorem fnAt_fun {x qual : Str} {st : Stmt} {f : Addr} {fd : FuncData} (F : L2.Fun K x qual st f fd) {h : Heap} (X : K.In h) : PySem.W.FnAt f h := by
  obtain ⟨oc, od, kV, doc, pm, an, cdv, ct, osl, rfl, lk, _⟩ := F.ex
  exact ⟨_, _, _, _, X _ _ lk⟩
def spTup (tf : Str → V → V → List V) : Sp := fun vs H Q _ => ∃ m a b, vs = [.str m, a, b] ∧ ∀ p, H p = none → Q (.ref p) (upd H p (.tup (tf m a b)))
theorem held_plain {tf : Str → V → V → List V} {x : Str} {st : Stmt} {ps : List Str} {f : Addr} {fd : FuncData} (F : L2.Fun K x x st f fd) (b : ∀ us : List Value, us.length = ps.length → bindArgs fd ⟨us, []⟩ = pure (ps.zip us)) (G : FnOk P w K mg base L2.CX0 1 f fd ps (spTup tf)) :
    HeldSl P w K mg base 1 (plainSys tf f) := by
  refine ⟨fun H h r X _ _ => fnAt_fun F X, fun A outer s H us vs Q E hr e0 rv h => ?_⟩
  obtain ⟨r, m, a, b', va, vb, rfl, hm, _, ha, hb, q⟩ := h
  have hsp : spTup tf [.str m, va, vb] H Q E := ⟨m, va, vb, rfl, fun p hp => q _ _ (Ext.new hp) True.intro (.sl hm upd_same (ha.mono (Kp.new hp).gr) (hb.mono (Kp.new hp).gr))⟩
  have hl : us.length = ps.length := by rw [← rv.length]; exact G.len _ _ _ _ hsp
  exact G.run A outer s H ⟨us, []⟩ us _ Q E hr e0 (.of_eq (b us hl)) rv hsp
/-! ### a seal that numbers its threes -/
def tab (ks : List (List Key)) : List (List Key × V) := ks.zipIdx.map fun p => (p.1, V.int ((p.2 : Nat) : Int))
theorem tab_snoc (ks : List (List Key)) (k : List Key) : tab (ks ++ [k]) = tab ks ++ [(k, V.int ((ks.length : Nat) : Int))] := by
  unfold tab
  rw [List.zipIdx_append, List.map_append]
  simp
theorem tab_len (ks : List (List Key)) : (tab ks).length = ks.length := by
  unfold tab
  rw [List.length_map, List.length_zipIdx]
theorem valV_app {κ : Type} [DecidableEq κ] (k : κ) : ∀ (l r : List (κ × V)) {v : V}, valV l k = some v → valV (l ++ r) k = some v
  | [], _, _, h => by cases h
  | p :: l, r, v, h => by
    by_cases e : p.1 = k
    · rw [valV_pos e] at h
      rw [List.cons_append, valV_pos e]
      exact h
    · rw [valV_neg e] at h
      rw [List.cons_append, valV_neg e]
      exact valV_app k l r h
theorem tab_at {ks : List (List Key)} {k : List Key} {v : V} (h : valV (tab ks) k = some v) : ∃ n : Nat, v = .int (n : Int) ∧ ks[n]? = some k := by
  unfold valV at h
  obtain ⟨p, hp, rfl⟩ := Option.map_eq_some_iff.mp h
  have h1 := List.mem_of_find?_eq_some hp
  have h2 : decide (p.1 = k) = true := List.find?_some (p := fun kv : List Key × V => decide (kv.1 = k)) hp
  obtain ⟨q, hq, rfl⟩ := List.mem_map.mp h1
  refine ⟨q.2, rfl, ?_⟩
  have h3 : q.1 = k := of_decide_eq_true h2
  have h4 := List.mk_mem_zipIdx_iff_getElem?.mp (show (q.1, q.2) ∈ ks.zipIdx from hq)
  rw [h4, h3]
inductive DenN (kvs : List (List Key × V)) : Key → Tm → Prop
  | int (i : Int) : DenN kvs (.inl i) (.int i)
  | str (x : Str) (h : txtOk x = true) : DenN kvs (.inr x) (.str x)
  | sl {m : Str} {ka kb : Key} {a b : Tm} {n : Int} (ha : DenN kvs ka a) (hb : DenN kvs kb b) (h : valV kvs [.inr m, ka, kb] = some (.int n)) : DenN kvs (.inl n) (.sl m a b)
theorem DenN.app {kvs more : List (List Key × V)} {k : Key} {t : Tm} (h : DenN kvs k t) : DenN (kvs ++ more) k t := by
  induction h with
  | int i => exact .int i
  | str x h => exact .str x h
  | sl _ _ h iha ihb => exact .sl iha ihb (valV_app _ _ _ h)
theorem DenN.fn {kvs : List (List Key × V)} {k : Key} {t : Tm} (h : DenN kvs k t) : ∀ {k'}, DenN kvs k' t → k = k' := by
  induction h with
  | int i => intro k' h'; cases h'; rfl
  | str x h => intro k' h'; cases h'; rfl
  | sl _ _ h iha ihb =>
    intro k' h'
    cases h' with
    | sl ha' hb' h' =>
      rw [← iha ha', ← ihb hb', h] at h'
      cases h'
      rfl
theorem DenN.lay {kvs : List (List Key × V)} {k : Key} {t : Tm} (h : DenN kvs k t) (K : PySem.W.Frag) (H : Hp) : ∃ d, Dp K H (kV k) d ∧ d.canLay0 = true ∧ d.depth = 0 := by
  cases h with
  | int i => exact ⟨.int i, .int i, rfl, rfl⟩
  | str x h => exact ⟨.str x, .str x, h, rfl⟩
  | sl _ _ _ => exact ⟨.int _, .int _, rfl, rfl⟩
/-- the cell at c holds the dict at d -/
def CellO (c d : Addr) : HO := .ext fun h => h.IsCell c (some (.ref d))
theorem cellO_at {H : Hp} {h : Heap} {c d : Addr} (hok : HOk P w H h) (e : H c = some (CellO c d)) : h.IsCell c (some (.ref d)) := (hok c _ e).1
theorem cellO_ok {H : Hp} {h : Heap} {c d : Addr} (e : h.IsCell c (some (.ref d))) : ObjOk P w H h c (CellO c d) := by
  obtain ⟨o, ho, hd⟩ := id e
  exact ⟨e, ⟨o, ho⟩, fun h1 h2 ⟨o', ho', hd'⟩ st => ⟨o', st _ ho', hd'⟩⟩
structure NumD where
  f : Addr
  q : Str
  c : Addr
  c0 : Addr
  d : Addr
abbrev NumD.F (N : NumD) : NdefX.NF := NdefX.NF.of s__law_numbering__law_numbered "_law_numbered" N.q [("_law_told", N.c0)] N.c
structure NumOk (N : NumD) (H : Hp) (r : Nat) : Prop where
  dict : ∃ ks, H N.d = some (.dT (tab ks)) ∧ ks.length + r ≤ sizeLine
  fn : H N.f = some (NdefX.FnO N.f N.F)
  code : H N.c = some (LamX.CodeO N.c N.q)
  cell : H N.c0 = some (CellO N.c0 N.d)
def numSys (N : NumD) : Sys := ⟨N.f, fun H v t => ∃ kvs k, H N.d = some (.dT kvs) ∧ DenN kvs k t ∧ v = kV k, fun H r => NumOk N H r⟩
theorem goodN (N : NumD) : (numSys N).Good K := by
  refine ⟨?_, ?_, ?_, ?_, ?_, ?_⟩
  · rintro H H' v t e ⟨kvs, k, hd, hk, rfl⟩
    obtain ⟨more, e1⟩ := e.grow _ _ hd
    exact ⟨_, k, e1, hk.app, rfl⟩
  · rintro H H' r e ⟨⟨ks, h1, h2⟩, h3, h4, h5⟩
    exact ⟨⟨ks, e _ _ h1 True.intro, h2⟩, e _ _ h3 True.intro, e _ _ h4 True.intro, e _ _ h5 True.intro⟩
  · rintro H r r' ⟨⟨ks, h1, h2⟩, h3, h4, h5⟩ hr
    exact ⟨⟨ks, h1, by omega⟩, h3, h4, h5⟩
  · rintro H r i ⟨⟨ks, h1, h2⟩, _⟩
    exact ⟨_, .inl i, h1, .int i, rfl⟩
  · rintro H r x ⟨⟨ks, h1, h2⟩, _⟩ hx
    exact ⟨_, .inr x, h1, .str x hx, rfl⟩
  · rintro H v v' t ⟨kvs, k, h1, h2, rfl⟩ ⟨kvs', k', h1', h2', rfl⟩
    rw [h1] at h1'
    cases h1'
    have e := h2.fn h2'
    subst e
    obtain ⟨d, a, b, c⟩ := h2.lay K H
    exact ⟨d, a, a, b, by omega⟩
/-- its own promise: ws, what its cell holds -/
def spNumd (ws : List (Option V)) : Sp := fun vs H Q _ => ∃ (d : Addr) (ks : List (List Key)) (m : Str) (ka kb : Key), ws = [some (.ref d)] ∧ vs = [.str m, kV ka, kV kb] ∧ H d = some (.dT (tab ks)) ∧ ks.length < sizeLine ∧
  ∀ (n : Int) (H' : Hp) (more : List (List Key)), Ext H H' → H' d = some (.dT (tab (ks ++ more))) → more.length ≤ 1 → valV (tab (ks ++ more)) [.inr m, ka, kb] = some (.int n) → Q (.int n) H'
theorem scN : NdefX.NScope N__law_numbering__law_numbered ["_law_mark", "_law_one_here", "_law_two"] ["_law_told"] (defScope s__law_numbering__law_numbered) := NdefX.nscope_by (by decide +kernel)
theorem nok_num (mlen : mg "len" = none) (N : NumD) : NdefX.NOk P w K mg base L2.CX0 1 N.f N.F ["_law_mark", "_law_one_here", "_law_two"] ["_law_told"] spNumd := by
  refine NdefX.nok_of (N := N__law_numbering__law_numbered) scN (fun _ _ _ us hl => match us, hl with | [_, _, _], _ => rfl) (fun ws vs H Q E h => ?_) (fun A outer s H vs ws Q E hr hf hc hw h => ?_)
  · obtain ⟨d, ks, m, ka, kb, _, rfl, _⟩ := h
    rfl
  obtain ⟨d, ks, m, ka, kb, rfl, rfl, hd, hl, q⟩ := h
  have hu : (NdefX.ncx L2.CX0 P w K mg base N__law_numbering__law_numbered N.F N.f A outer s H E).A.units + 1 < cLine := hu_of hr
  refine ⟨_, (pss_cons (ps_if (pt_cmp (pc_dnotin hu (pe_tup (pa_cons (pv 0) (pa_cons (pv 1) (pa_cons (pv 2) pa_nil)))) (pv 3))) (pss_one (ps_dput hu (pv 3) (pe_tup (pa_cons (pv 0) (pa_cons (pv 1) (pa_cons (pv 2) pa_nil)))) (pe_callB call_len_dT rfl mlen PySem.boot_len (pa_cons (pv 3) pa_nil)) rfl)) pss_nil)
  (pss_one (ps_ret (pe_dget hu (pv 3) (pe_tup (pa_cons (pv 0) (pa_cons (pv 1) (pa_cons (pv 2) pa_nil)))) (fun _ _ => rfl))))), ?_⟩
  have ek : ([.str m, kV ka, kV kb] : List V) = ([.inr m, ka, kb] : List Key).map kV := rfl
  have hp0 : ∀ p : Addr, H p = none → d ≠ p := fun p hp => ne_of_none hd hp
  refine ⟨_, rfl, _, rfl, _, rfl, (by show 3 ≤ sizeLine; decide), fun p hp => ?_⟩
  have d1 : upd H p (.tup [.str m, kV ka, kV kb]) d = some (.dT (tab ks)) := by
    rw [upd_ne (hp0 p hp)]
    exact hd
  refine ⟨_, rfl, d, _, rfl, DGet.t (k := [.inr m, ka, kb]) d1 upd_same, _, rfl, ?_⟩
  cases hv : valV (tab ks) [.inr m, ka, kb] with
  | some v =>
    obtain ⟨n, rfl, _⟩ := tab_at hv
    refine iteF ?_
    refine ⟨_, rfl, _, rfl, _, rfl, _, rfl, (by show 3 ≤ sizeLine; decide), fun p2 hp2 => ?_⟩
    have d2 : upd (upd H p (.tup [.str m, kV ka, kV kb])) p2 (.tup [.str m, kV ka, kV kb]) d = some (.dT (tab ks)) := by
      rw [upd_ne (ne_of_none d1 hp2)]
      exact d1
    refine ⟨d, .int n, rfl, ?_, ?_⟩
    · have g := DGet.t (k := [.inr m, ka, kb]) d2 upd_same
      rw [hv] at g
      exact g
    · exact q n _ [] ((Ext.new hp).trans (Ext.new hp2)) (by rw [List.append_nil]; exact d2) (Nat.zero_le _) (by rw [List.append_nil]; exact hv)
  | none =>
    refine iteT ?_
    refine ⟨_, rfl, d, _, rfl, d1, ?_⟩
    refine ⟨_, rfl, _, rfl, _, rfl, _, rfl, (by show 3 ≤ sizeLine; decide), fun p2 hp2 => ?_⟩
    have d2 : upd (upd H p (.tup [.str m, kV ka, kV kb])) p2 (.tup [.str m, kV ka, kV kb]) d = some (.dT (tab ks)) := by
      rw [upd_ne (ne_of_none d1 hp2)]
      exact d1
    refine ⟨d, _, rfl, DPut.t (k := [.inr m, ka, kb]) d2 upd_same (by rw [tab_len]; exact hl), ?_⟩
    rw [putK_new _ hv, tab_len, ← tab_snoc]
    have x2 : Ext H (upd (upd H p (.tup [.str m, kV ka, kV kb])) p2 (.tup [.str m, kV ka, kV kb])) := (Ext.new hp).trans (Ext.new hp2)
    have x3 : Ext H (upd (upd (upd H p (.tup [.str m, kV ka, kV kb])) p2 (.tup [.str m, kV ka, kV kb])) d (.dT (tab (ks ++ [[.inr m, ka, kb]])))) := by
      refine ⟨fun a o ha hn => ?_, fun a kvs ha => ?_⟩
      · rw [upd_ne (show a ≠ d from fun z => by rw [z, hd] at ha; exact hn _ (Option.some.inj ha).symm)]
        exact x2.keep a o ha hn
      · by_cases e : a = d
        · subst e
          rw [hd] at ha
          cases ha
          exact ⟨[(_, _)], by rw [upd_same, tab_snoc]⟩
        · rw [upd_ne e]
          exact x2.grow a kvs ha
    have d3 : upd (upd (upd H p (.tup [.str m, kV ka, kV kb])) p2 (.tup [.str m, kV ka, kV kb])) d (.dT (tab (ks ++ [[.inr m, ka, kb]]))) d = some (.dT (tab (ks ++ [[.inr m, ka, kb]]))) := upd_same
    generalize upd (upd (upd H p (.tup [.str m, kV ka, kV kb])) p2 (.tup [.str m, kV ka, kV kb])) d (.dT (tab (ks ++ [[.inr m, ka, kb]]))) = H3 at x3 d3 ⊢
    refine ⟨_, rfl, _, rfl, _, rfl, _, rfl, (by show 3 ≤ sizeLine; decide), fun p3 hp3 => ?_⟩
    have d4 : upd H3 p3 (.tup [.str m, kV ka, kV kb]) d = some (.dT (tab (ks ++ [[.inr m, ka, kb]]))) := by
      rw [upd_ne (ne_of_none d3 hp3)]
      exact d3
    have hv3 : valV (tab (ks ++ [[.inr m, ka, kb]])) [.inr m, ka, kb] = some (.int ((ks.length : Nat) : Int)) := by
      rw [tab_snoc, valV_snoc _ _ _ _ hv, if_pos rfl]
    refine ⟨d, .int ((ks.length : Nat) : Int), rfl, ?_, ?_⟩
    · have g := DGet.t (k := [.inr m, ka, kb]) d4 upd_same
      rw [hv3] at g
      exact g
    · exact q _ _ _ (x3.trans (Ext.new hp3)) d4 (Nat.le_refl _) hv3
/-- its cell set aside for the call -/
def er (H : Hp) (c : Addr) : Hp := fun b => if b = c then none else H b
theorem er_ne {H : Hp} {c b : Addr} (h : b ≠ c) : er H c b = H b := if_neg h
theorem er_same {H : Hp} {c : Addr} : er H c c = none := if_pos rfl
theorem er_some {H : Hp} {c b : Addr} {o : HO} (h : er H c b = some o) : b ≠ c ∧ H b = some o := by
  by_cases e : b = c
  · rw [e, er_same] at h
    cases h
  · rw [er_ne e] at h
    exact ⟨e, h⟩
theorem cell_ne_own {H : Hp} {c d a b : Addr} (e : H c = some (CellO c d)) (h : H b = some (.own a)) : b ≠ c := fun z => by
  rw [z, e] at h
  have h : HO.ext _ = HO.own a := Option.some.inj h
  cases h
theorem cell_ne_tup {H : Hp} {c d b : Addr} {xs : List V} (e : H c = some (CellO c d)) (h : H b = some (.tup xs)) : b ≠ c := fun z => by
  rw [z, e] at h
  have h : HO.ext _ = HO.tup xs := Option.some.inj h
  cases h
theorem er_hok {H : Hp} {h : Heap} {c d : Addr} (e : H c = some (CellO c d)) (ok : HOk P w H h) : HOk P w (er H c) h := fun a o ha => by
  obtain ⟨n, ha'⟩ := er_some ha
  exact (ok a o ha').stay (fun _ _ _ q => q) (fun b hb => by rw [er_ne (cell_ne_own e hb)]; exact hb) fun b xs hb => by rw [er_ne (cell_ne_tup e hb)]; exact hb
theorem held_num (mlen : mg "len" = none) (N : NumD) : HeldSl P w K mg base 1 (numSys N) := by
  refine ⟨fun H h r X ok h1 => ?_, fun A outer s H us vs Q E hr e0 rv h => ?_⟩
  · obtain ⟨od, sl, doc, pm, ctv, e⟩ := NdefX.fnO_at ok h1.fn
    exact ⟨_, _, _, _, e⟩
  obtain ⟨r, m, a, b, va, vb, rfl, hm, ok, ha, hb, q⟩ := h
  obtain ⟨⟨ks, hd, hl⟩, hf, hc, hcell⟩ := id ok
  obtain ⟨kvs, ka, hd1, hka, rfl⟩ := ha
  obtain ⟨kvs', kb, hd2, hkb, rfl⟩ := hb
  rw [hd] at hd1 hd2
  cases hd1
  cases hd2
  have isC := cellO_at e0.hok hcell
  have nf : N.f ≠ N.c0 := fun z => by
    obtain ⟨od, sl, doc, pm, ctv, e⟩ := NdefX.fnO_at e0.hok hf
    obtain ⟨o, e', d'⟩ := id isC
    rw [z, e'] at e
    cases e
    cases d'
  have nc : N.c ≠ N.c0 := fun z => by
    obtain ⟨c, oc, us, t, e1, e2, e3, e4⟩ := NdefX.codeO_at e0.hok hc
    cases e1
    obtain ⟨o, e', d'⟩ := id isC
    rw [z, e'] at e2
    cases e2
    rw [d'] at e3
    cases e3
  have nd : N.d ≠ N.c0 := fun z => by
    rw [z, hcell] at hd
    have hd : HO.ext _ = HO.dT _ := Option.some.inj hd
    cases hd
  have e1 : Env0 P w K mg base A outer s (er H N.c0) := by
    refine ⟨e0.frames, e0.mod, fun b o hb => ⟨(e0.bs b o hb).1, ?_⟩, e0.bsz, e0.funs, fun b hb => ?_, er_hok hcell e0.hok, e0.bare⟩
    · by_cases z : b = N.c0
      · rw [z, er_same]
      · rw [er_ne z]
        exact (e0.bs b o hb).2
    · by_cases z : b = N.c0
      · rw [z, er_same]
      · rw [er_ne z]
        exact e0.frf b hb
  have lk : ∀ {y : Str} {c : Addr}, List.lookup y N.F.cl = some c → y = "_law_told" ∧ c = N.c0 := fun {y c} h => by
    have h : List.lookup y [(("_law_told" : Str), N.c0)] = some c := h
    by_cases z : y = "_law_told"
    · subst z
      simp at h
      exact ⟨rfl, h.symm⟩
    · have z' : (y == ("_law_told" : Str)) = false := beq_eq_false_iff_ne.mpr z
      unfold List.lookup at h
      rw [z'] at h
      cases h
  have CA : NdefX.CellsAt N.F.cl ["_law_told"] [some (.ref N.d)] s.heap (er H N.c0) := by
    refine ⟨rfl, fun y c h => ?_, fun x y c h1 h2 => (lk h1).1.trans (lk h2).1.symm, fun i y h => ?_⟩
    · rw [(lk h).2]
      exact ⟨er_same, _, isC⟩
    · cases i with
      | zero =>
        cases h
        refine ⟨N.c0, by simp [List.lookup, NdefX.NF.of], fun v hv => ?_⟩
        cases hv
        exact ⟨_, rfl, isC⟩
      | succ i => simp at h
  have nfr : N.c0 ∉ frs outer := fun z => by
    have := e0.frf _ z
    rw [hcell] at this
    cases this
  refine codeAny_mono ((nok_num mlen N).run A outer s (er H N.c0) us _ [some (.ref N.d)] (fun v H' => Q v (upd H' N.c0 (CellO N.c0 N.d))) E hr e1 (by rw [er_ne nf]; exact hf) (by rw [show N.F.c = N.c from rfl, er_ne nc]; exact hc) CA rv
    ⟨N.d, ks, m, ka, kb, rfl, rfl, by rw [er_ne nd]; exact hd, by omega, fun n H' more x hd' hmore hv => ?_⟩) fun res s' hq => ?_
  · have kp : ∀ b o, H b = some o → b ≠ N.c0 → (∀ kvs, o ≠ .dT kvs) → H' b = some o := fun b o hb hn hn2 => x.keep b o (by rw [er_ne hn]; exact hb) hn2
    refine q _ _ ⟨fun b o hb hn => ?_, fun b kvs hb => ?_⟩ ⟨⟨ks ++ more, ?_, ?_⟩, ?_, ?_, upd_same⟩ ⟨_, .inl n, by rw [upd_ne nd]; exact hd', ?_, rfl⟩
    · by_cases z : b = N.c0
      · rw [z, upd_same]
        rw [z, hcell] at hb
        exact hb
      · rw [upd_ne z]
        exact kp b o hb z hn
    · have z : b ≠ N.c0 := fun z => by
        rw [z, hcell] at hb
        have hb : HO.ext _ = HO.dT _ := Option.some.inj hb
        cases hb
      rw [upd_ne z]
      exact x.grow b kvs (by rw [er_ne z]; exact hb)
    · rw [upd_ne nd]
      exact hd'
    · rw [List.length_append]
      omega
    · rw [upd_ne nf]
      exact kp _ _ hf nf fun _ z => HO.noConfusion z
    · rw [upd_ne nc]
      exact kp _ _ hc nc fun _ z => HO.noConfusion z
    · have t : ∀ {k t}, DenN (tab ks) k t → DenN (tab (ks ++ more)) k t := fun {k t} h => by
        obtain ⟨m2, e2⟩ := x.grow N.d (tab ks) (by rw [er_ne nd]; exact hd)
        rw [hd'] at e2
        have e3 : tab (ks ++ more) = tab ks ++ m2 := by
          have e2 := Option.some.inj e2
          injection e2
        rw [e3]
        exact h.app
      exact .sl (t hka) (t hkb) hv
  · cases res with
    | error e => exact hq
    | ok fl =>
      cases fl with
      | next => exact hq
      | brk => exact hq
      | cont => exact hq
      | ret u =>
        obtain ⟨v, H', os, bare, un, hok, rvu, q'⟩ := hq
        have nH : ∀ b, H b = none → b ≠ N.c0 := fun b hb z => by
          rw [z, hcell] at hb
          cases hb
        have ern : ∀ b, H b = none → er H N.c0 b = none := fun b hb => by
          rw [er_ne (nH b hb)]
          exact hb
        obtain ⟨oc, hoc, hod⟩ := id isC
        have hH' : H' N.c0 = none := un.free _ oc hoc er_same (by simp)
        have hcs : s'.heap.get? N.c0 = some oc := un.keep _ oc hoc er_same nfr (by simp)
        refine ⟨v, upd H' N.c0 (CellO N.c0 N.d), os, bare, ⟨fun b o e n hb hx => un.keep b o e (ern b n) hb hx, fun b o e n hb hx => un.slot b o e (ern b n) hb hx, fun b o e n hx => ?_, un.there, fun b xs e => ?_, fun b o u e => ?_, fun b ps e => ?_⟩, fun b u e => ?_, rvu, q'⟩
        · rw [upd_ne (nH b n)]
          exact un.free b o e (ern b n) hx
        · have z := cell_ne_tup hcell e
          rw [upd_ne z]
          exact un.tups b xs (by rw [er_ne z]; exact e)
        · have z : b ≠ N.c0 := fun z => by
            rw [z, hcell] at e
            have e : HO.ext _ = HO.frz _ _ := Option.some.inj e
            cases e
          rw [upd_ne z]
          exact un.frzs b o u (by rw [er_ne z]; exact e)
        · have z : b ≠ N.c0 := fun z => by
            rw [z, hcell] at e
            have e : HO.ext _ = HO.tbl _ := Option.some.inj e
            cases e
          obtain ⟨more, hm⟩ := un.tbls b ps (by rw [er_ne z]; exact e)
          exact ⟨more, by rw [upd_ne z]; exact hm⟩
        · by_cases z : b = N.c0
          · rw [z, upd_same] at e
            cases e
            rw [z]
            exact cellO_ok ⟨oc, hcs, hod⟩
          · rw [upd_ne z] at e
            exact (hok b u e).stay (fun _ _ _ q => q) (fun b hb => by rw [upd_ne (ne_of_none hb hH')]; exact hb) fun b xs hb => by rw [upd_ne (ne_of_none hb hH')]; exact hb
end

/-! ### the three seals, by the law's own defs -/
section
variable {P : Program} {w : World} {K : PySem.W.Frag} {mg : Str → Option Value} {base : Heap}
theorem fn_plain {f : Addr} {fd : FuncData} (F : L2.Fun K "_law_plain" "_law_plain" s__law_plain f fd) : FnOk P w K mg base L2.CX0 1 f fd ["_law_mark", "_law_one_here", "_law_two"] (spTup tfP) := by
  refine F.ok sc__law_plain (fun vs H Q E h => ?_) (fun cdv A outer s H vs Q E hr h => ?_)
  · obtain ⟨m, a, b, rfl, _⟩ := h
    rfl
  obtain ⟨m, a, b, rfl, q⟩ := h
  refine ⟨_, (pss_one (ps_ret (pe_tup (pa_cons (pv 0) (pa_cons (pv 1) (pa_cons (pv 2) pa_nil)))))), ?_⟩
  exact ⟨_, rfl, _, rfl, _, rfl, (by show 3 ≤ sizeLine; decide), fun p hp => q p hp⟩
theorem fn_turned {f : Addr} {fd : FuncData} (F : L2.Fun K "_law_turned" "_law_turned" s__law_turned f fd) : FnOk P w K mg base L2.CX0 1 f fd ["_law_mark", "_law_one_here", "_law_two"] (spTup tfT) := by
  refine F.ok sc__law_turned (fun vs H Q E h => ?_) (fun cdv A outer s H vs Q E hr h => ?_)
  · obtain ⟨m, a, b, rfl, _⟩ := h
    rfl
  obtain ⟨m, a, b, rfl, q⟩ := h
  refine ⟨_, (pss_one (ps_ret (pe_tup (pa_cons pe_str (pa_cons (pv 2) (pa_cons (pv 1) (pa_cons (pv 0) pa_nil))))))), ?_⟩
  exact ⟨_, rfl, _, rfl, _, rfl, (by show 4 ≤ sizeLine; decide), fun p hp => q p hp⟩
/-- the three of them -/
def Fam3 (mg : Str → Option Value) : Sys → Prop := fun S => (∃ f, mg "_law_plain" = some (.ref f) ∧ S = plainSys tfP f) ∨ (∃ f, mg "_law_turned" = some (.ref f) ∧ S = plainSys tfT f) ∨ ∃ N : NumD, S = numSys N
theorem sla3 {cc : Addr} (T : Txt K mg cc) : SlA P w K mg base (Fam3 mg) := by
  obtain ⟨fP, fdP, FP, mP, bP⟩ := T.d__law_plain.ex
  obtain ⟨fT, fdT, FT, mT, bT⟩ := T.d__law_turned.ex
  refine ⟨fun {S} h => ?_, fun S h => ?_⟩
  · rcases h with ⟨f, _, rfl⟩ | ⟨f, _, rfl⟩ | ⟨N, rfl⟩
    · exact goodP f
    · exact goodT f
    · exact goodN N
  · rcases h with ⟨f, m, rfl⟩ | ⟨f, m, rfl⟩ | ⟨N, rfl⟩
    · rw [mP] at m
      cases m
      exact held_plain FP bP (fn_plain FP)
    · rw [mT] at m
      cases m
      exact held_plain FT bT (fn_turned FT)
    · exact held_num T.Z.len N
/-- its making: the table at PT is empty before -/
def spNumg (PT : Addr) : Sp := fun vs H Q _ => vs = [] ∧ H PT = some (.tbl #[]) ∧ ∀ (N : NumD) (H' : Hp), LamX.ExtN H H' → NumOk N H' sizeLine → Q (.ref N.f) H'
theorem fn_numbering {f c PT : Addr} {kV doc pm ct oc : Value} {an od : Option Addr} {osl : Array (Option Value)} (TB : LamX.TabB base mg c PT)
    (lk : K.lookup f = some ⟨oc, od, .func (PySem.W.fnOf "_law_numbering" "_law_numbering" (defArgs s__law_numbering) (defBody s__law_numbering) (defScope s__law_numbering) .none kV doc pm an (.ref c) ct), osl⟩) (hcd : PySem.W.codeIn K (.ref c) "_law_numbering" = true) :
    FnOk P w K mg base L2.CX0 1 f (PySem.W.fnOf "_law_numbering" "_law_numbering" (defArgs s__law_numbering) (defBody s__law_numbering) (defScope s__law_numbering) .none kV doc pm an (.ref c) ct) [] (spNumg PT) := by
  refine ⟨fun vs H Q E h => by rw [h.1] <;> rfl, fun A outer s H args us vs Q E hr e0 hb r hsp => ?_⟩
  obtain ⟨rfl, hPT, q⟩ := hsp
  have KX : K.In s.heap := e0.mod.kin.keeps fun b o e => (e0.bs b o e).1
  have lim : s.heap.NoLimit := e0.mod.nolimit.keeps fun b o e => (e0.bs b o e).1
  refine codeAny_call_function hr.depth (KX _ _ lk) rfl sc__law_numbering.co sc__law_numbering.gen rfl (PySem.W.codeRec_of KX hcd) (hb _ _ _ _ ?_)
  refine wpAny_newFunctionEnv_cells sc__law_numbering.kind (fun ⟨n, v⟩ hy => by simp at hy) fun env he s1 x => ?_
  subst he
  refine ⟨lim.keeps x.toInCall.keep, codeAny_func ?_⟩
  have I : Inv (cxOf L2.CX0 P w K mg base N__law_numbering "_law_numbering" (defScope s__law_numbering) f (.ref c) A outer s H E) [] (start N__law_numbering []) H s1 := inv_start sc__law_numbering hr.hd e0 rfl r x
  have b3 : defBody s__law_numbering = [(defBody s__law_numbering).getD 0 (.Pass ⟨0, 0, 0, 0⟩), inDef s__law_numbering 1, (defBody s__law_numbering).getD 2 (.Pass ⟨0, 0, 0, 0⟩)] := rfl
  refine wpAny_mono (Q := fun fl s' => ∃ u, fl = .ret u ∧ CE outer P w H s Q u s') ?_ (fun fl s' hs => ?_) fun e s' hs => hs
  · rw [b3]
    have hfree : NdefX.ndefB (defScope s__law_numbering) (C8.fnScope s__law_numbering__law_numbered) ["_law_told"] = true := by decide +kernel
    have e1 : PS (cxOf L2.CX0 P w K mg base N__law_numbering "_law_numbering" (defScope s__law_numbering) f (.ref c) A outer s H E) ((defBody s__law_numbering).getD 0 (.Pass ⟨0, 0, 0, 0⟩)) (tAsg tDNewT (gName 1)) := ps_set (i := 1) sc__law_numbering.nd rfl (Or.inr rfl) pe_dnewT
    have e2 := NdefX.ps_ndefS (X := cxOf L2.CX0 P w K mg base N__law_numbering "_law_numbering" (defScope s__law_numbering) f (.ref c) A outer s H E) (st := s__law_numbering__law_numbered) (name := "_law_numbered") (i := 0) (T := [(PT, fun _ _ => (envOfC "_law_numbering" (defScope s__law_numbering) s.heap.objs.size f (.ref c)).qual ++ "_law_numbered")]) (c := c) (P := PT)
      (nm := fun _ _ => (envOfC "_law_numbering" (defScope s__law_numbering) s.heap.objs.size f (.ref c)).qual ++ "_law_numbered") rfl TB rfl List.mem_cons_self rfl (fun p hp _ => by rw [List.mem_singleton.mp hp]) (NdefX.ndef_free hfree) rfl rfl rfl sc__law_numbering.nd rfl (Or.inl rfl) (Or.inl rfl)
    have e3 : PE (cxOf L2.CX0 P w K mg base N__law_numbering "_law_numbering" (defScope s__law_numbering) f (.ref c) A outer s H E) (match (defBody s__law_numbering).getD 2 (.Pass ⟨0, 0, 0, 0⟩) with | .Return (some e) _ => e | _ => .Name "" ⟨0, 0, 0, 0⟩) (tVar 0) := pv 0
    have b4 : ∃ pos : Pos, (defBody s__law_numbering).getD 2 (.Pass ⟨0, 0, 0, 0⟩) = .Return (some (match (defBody s__law_numbering).getD 2 (.Pass ⟨0, 0, 0, 0⟩) with | .Return (some e) _ => e | _ => .Name "" ⟨0, 0, 0, 0⟩)) pos := ⟨_, rfl⟩
    obtain ⟨pos, b4⟩ := b4
    refine wpAny_execs_cons (thn (e1.run [] s1 _ H ⟨fun σ H' => ∃ d, H d = none ∧ σ = [none, some (.ref d)] ∧ H' = upd H d (.dT []), fun _ _ => False, fun _ _ => False, fun _ _ => False⟩ I fun d nd => ⟨d, nd, rfl, rfl⟩) fun fl s2 h2 => ?_)
    cases fl with
    | ret v => obtain ⟨_, _, _, _, _, z⟩ := h2; exact z.elim
    | brk => obtain ⟨_, _, _, z⟩ := h2; exact z.elim
    | cont => obtain ⟨_, _, _, z⟩ := h2; exact z.elim
    | next =>
    obtain ⟨σ2, H2, I2, d, nd, rfl, rfl⟩ := h2
    have tb : NdefX.TabsN [(PT, fun _ _ => (envOfC "_law_numbering" (defScope s__law_numbering) s.heap.objs.size f (.ref c)).qual ++ "_law_numbered")] (upd H d (.dT [])) := fun p hp => by
      rw [List.mem_singleton.mp hp]
      exact NdefX.TabN.nil (by rw [upd_ne (ne_of_none hPT nd)]; exact hPT)
    refine wpAny_execs_cons (thn (e2.run [] s2 _ _ ⟨fun σ H' => ∃ f2 c2, LamX.ExtN (upd H d (.dT [])) H' ∧ σ = [some (.ref f2), some (.ref d)] ∧ H' f2 = some (NdefX.FnO f2 (NdefX.NF.of s__law_numbering__law_numbered "_law_numbered" ((envOfC "_law_numbering" (defScope s__law_numbering) s.heap.objs.size f (.ref c)).qual ++ "_law_numbered") [("_law_told", s.heap.objs.size + 1)] c2)) ∧
        H' c2 = some (LamX.CodeO c2 ((envOfC "_law_numbering" (defScope s__law_numbering) s.heap.objs.size f (.ref c)).qual ++ "_law_numbered")), fun _ _ => False, fun _ _ => False, fun _ _ => False⟩ I2 ⟨tb, fun f2 c2 H3 x3 _ _ hf2 hc2 => ⟨f2, c2, x3, rfl, hf2, hc2⟩⟩) fun fl s3 h3 => ?_)
    cases fl with
    | ret v => obtain ⟨_, _, _, _, _, z⟩ := h3; exact z.elim
    | brk => obtain ⟨_, _, _, z⟩ := h3; exact z.elim
    | cont => obtain ⟨_, _, _, z⟩ := h3; exact z.elim
    | next =>
    obtain ⟨σ3, H3, I3, f2, c2, x3, rfl, hf2, hc2⟩ := h3
    rw [b4]
    refine wpAny_execs_cons (wpAny_Return_some (thn (e3.run [] s3 _ H3 (fun v H' => v = .ref f2 ∧ H' = H3) I3 ⟨_, rfl, rfl, rfl⟩) fun u s4 h4 => ?_))
    obtain ⟨v, H4, I4, ru, rfl, rfl⟩ := h4
    refine ⟨u, rfl, ?_⟩
    -- the cell
    have hce : (cxOf L2.CX0 P w K mg base N__law_numbering "_law_numbering" (defScope s__law_numbering) f (.ref c) A outer s H E).env.cells.lookup ("_law_told" : Str) = some (s.heap.objs.size + 1) := rfl
    have isC : s4.heap.IsCell (s.heap.objs.size + 1) (some (.ref d)) := by
      obtain ⟨m, hn, hl⟩ := I4.loc
      obtain ⟨u2, r2, l2⟩ := hl 1 "_law_told" (.ref d) rfl rfl (.inr (.inl rfl))
      have e2 : u2 = .ref d := r2
      subst e2
      rcases l2 with ⟨k, _⟩ | ⟨_, c3, hc3, z⟩
      · cases (show some NameKind.cell = some NameKind.local from k)
      · rw [hce] at hc3
        cases hc3
        exact z
    have fc := I4.freeC _ _ hce
    have hs0 : H (s.heap.objs.size + 1) = none := e0.hok.fresh (Nat.le_succ _)
    have un := I4.base
    have xn : LamX.ExtN H (upd H4 (s.heap.objs.size + 1) (CellO (s.heap.objs.size + 1) d)) := fun b o hb hn => by
      rw [upd_ne (ne_of_none hb hs0)]
      exact x3 b o (by rw [upd_ne (ne_of_none hb nd)]; exact hb) hn
    have hd4 : H4 d = some (.dT []) := x3 d _ upd_same fun ps z => by cases z
    refine ⟨.ref f2, upd H4 (s.heap.objs.size + 1) (CellO (s.heap.objs.size + 1) d), I4.os, I4.bare, ⟨un.keep, un.slot, fun b o e n hx => ?_, un.there, fun b xs e => ?_, fun b o u e => ?_, fun b ps e => ?_⟩, fun b u e => ?_, ru, ?_⟩
    · rw [upd_ne (Nat.ne_of_lt (Nat.lt_succ_of_lt (Heap.lt_size e)))]
      exact un.free b o e n hx
    · rw [upd_ne (ne_of_none e hs0)]
      exact un.tups b xs e
    · rw [upd_ne (ne_of_none e hs0)]
      exact un.frzs b o u e
    · obtain ⟨more, hm⟩ := un.tbls b ps e
      exact ⟨more, by rw [upd_ne (ne_of_none e hs0)]; exact hm⟩
    · by_cases z : b = s.heap.objs.size + 1
      · rw [z, upd_same] at e
        cases e
        rw [z]
        exact cellO_ok isC
      · rw [upd_ne z] at e
        exact (I4.hok b u e).stay (fun _ _ _ q => q) (fun b hb => by rw [upd_ne (ne_of_none hb fc)]; exact hb) fun b xs hb => by rw [upd_ne (ne_of_none hb fc)]; exact hb
    · refine q ⟨f2, (envOfC "_law_numbering" (defScope s__law_numbering) s.heap.objs.size f (.ref c)).qual ++ "_law_numbered", c2, s.heap.objs.size + 1, d⟩ _ xn ⟨⟨[], ?_, ?_⟩, ?_, ?_, upd_same⟩
      · rw [upd_ne (ne_of_none hd4 fc)]
        exact hd4
      · exact Nat.le_of_eq (Nat.zero_add _)
      · rw [upd_ne (ne_of_none hf2 fc)]
        exact hf2
      · rw [upd_ne (ne_of_none hc2 fc)]
        exact hc2
  · obtain ⟨u, rfl, h⟩ := hs
    exact h
theorem cal_numbering {c PT : Addr} (D : DefM K mg "_law_numbering" s__law_numbering c) (TB : LamX.TabB base mg c PT) : Cal P w K mg base 1 "_law_numbering" (spNumg PT) [] := by
  obtain ⟨f, oc, od, kV, doc, pm, an, ct, osl, lk, hc, kp, m⟩ := D.ex
  exact ⟨f, _, [], [], fn_numbering TB lk hc, m, kp, .all fun us hl => match us, hl with | [], _ => rfl, .nil⟩
/-! ### the law's own helpers -/
/-- script[k] where it is, else 0 -/
def cell (ns : List Int) (k : Int) : Int := ns.getD k.toNat 0
def spCellA (K : PySem.W.Frag) : Sp := fun vs H Q _ => ∃ (a : Addr) (ns : List Int) (k : Int), vs = [.ref a, .int k] ∧ SqL K H a (ns.map V.int) ∧ 0 ≤ k ∧ Q (.int (cell ns k)) H
theorem ok_cell_at {cc : Addr} (T : Txt K mg cc) : Cal P w K mg base 1 "_law_cell_at" (spCellA K) [] := by
  have Z := T.Z
  refine cal_of T.d__law_cell_at sc__law_cell_at (fun vs H Q E h => ?_) (fun f cdv A outer s H vs Q E hr h => ?_)
  · obtain ⟨a, ns, k, rfl, _⟩ := h
    rfl
  obtain ⟨a, ns, k, rfl, hS, hk, q⟩ := h
  refine ⟨_, (pss_cons (ps_if (pt_cmpR op_lt (pv 1) (pe_callB call_len_seq rfl Z.len PySem.boot_len (pa_cons (pv 0) pa_nil)) (nomark _)) (pss_one (ps_ret (pe_ix ix_list (pv 0) (pv 1) (fun _ _ => rfl)))) pss_nil)
  (pss_one (ps_ret pe_int))), ?_⟩
  refine ⟨_, rfl, _, rfl, a, _, rfl, .inl hS, _, _, rfl, rfl, _, rfl, ?_⟩
  rw [List.length_map]
  refine ite2 (fun c => ?_) (fun c => ?_)
  · have c' : k < (ns.length : Int) := of_decide_eq_true c
    have hl : k.toNat < ns.length := by omega
    refine ⟨_, rfl, _, rfl, a, _, k, .int (cell ns k), rfl, rfl, hS, at_of (j := k.toNat) (by omega) ?_, q⟩
    rw [List.getElem?_map, List.getElem?_eq_getElem hl]
    unfold cell
    rw [List.getD_eq_getElem?_getD, List.getElem?_eq_getElem hl]
    rfl
  · have c' : ¬ k < (ns.length : Int) := of_decide_eq_false (Bool.eq_false_iff.mpr c)
    have e : cell ns k = 0 := by
      unfold cell
      rw [List.getD_eq_getElem?_getD, List.getElem?_eq_none (by omega)]
      rfl
    rw [e] at q
    exact q
/-- one of three seals, its state new -/
def spSlBy (K : PySem.W.Frag) (mg : Str → Option Value) (PT : Addr) : Sp := fun vs H Q _ => ∃ (a : Addr) (ns : List Int), vs = [.ref a] ∧ SqL K H a (ns.map V.int) ∧ H PT = some (.tbl #[]) ∧ ∀ (S : Sys) (H' : Hp), Fam3 mg S → LamX.ExtN H H' → S.ok H' sizeLine → Q (.ref S.f) H'
theorem ok_seal_by {cc PT : Addr} (T : Txt K mg cc) (TB : LamX.TabB base mg cc PT) : Cal P w K mg base 2 "_law_seal_by" (spSlBy K mg PT) [] := by
  have Z := T.Z
  obtain ⟨fP, fdP, FP, mP, bP⟩ := T.d__law_plain.ex
  obtain ⟨fT, fdT, FT, mT, bT⟩ := T.d__law_turned.ex
  obtain ⟨fN, fdN, psN, dsN, FN, mN, kN, bN, vN⟩ := (cal_numbering (P := P) (w := w) T.m__law_numbering TB).ex
  have C__law_cell_at := ok_cell_at (P := P) (w := w) (base := base) T
  refine cal_of T.d__law_seal_by sc__law_seal_by (fun vs H Q E h => ?_) (fun f cdv A outer s H vs Q E hr h => ?_)
  · obtain ⟨a, ns, rfl, _⟩ := h
    rfl
  obtain ⟨a, ns, rfl, hS, hPT, q⟩ := h
  refine ⟨_, (pss_cons (ps_set (i := 1) sc__law_seal_by.nd rfl (Or.inl rfl) (pe_op op_mod (pe_op op_fdiv (pe_c C__law_cell_at hr (by omega) rfl (pa_cons (pv 0) (pa_cons pe_int pa_nil))) pe_int) pe_int))
  (pss_cons (ps_if (pt_cmpR op_eq (pv 1) pe_int (nomark _)) (pss_one (ps_ret (pe_glob (v := .ref fP) rfl mP rfl))) pss_nil)
  (pss_cons (ps_if (pt_cmpR op_eq (pv 1) pe_int (nomark _)) (pss_one (ps_ret (pe_glob (v := .ref fT) rfl mT rfl))) pss_nil)
  (pss_one (ps_ret (pe_call0 FN hr rfl mN kN bN vN pass0)))))), ?_⟩
  refine ⟨_, rfl, a, ns, 0, rfl, hS, Int.le_refl 0, _, 7, rfl, rfl, ⟨by decide, by decide⟩, _, 3, rfl, rfl, (by show (0 : Int) < 3; decide), ?_⟩
  refine ⟨_, rfl, rfl, _, rfl, ite2 (fun _ => ?_) (fun _ => ?_)⟩
  · exact q (plainSys tfP fP) H (.inl ⟨fP, mP, rfl⟩) (LamX.ExtN.refl H) True.intro
  refine ⟨_, rfl, rfl, _, rfl, ite2 (fun _ => ?_) (fun _ => ?_)⟩
  · exact q (plainSys tfT fT) H (.inr (.inl ⟨fT, mT, rfl⟩)) (LamX.ExtN.refl H) True.intro
  have e0 : dsN = [] := by
    cases vN
    rfl
  subst e0
  exact ⟨rfl, hPT, fun N H' x ok => q (numSys N) H' (.inr (.inr ⟨N, rfl⟩)) x ok⟩
end

/-! ### the greatest power of two below a number -/
def splitN (n : Nat) : Nat := 2 ^ (n - 1).log2
theorem splitN_pos (n : Nat) : 0 < splitN n := Nat.two_pow_pos _
theorem splitN_lt {n : Nat} (h : 2 ≤ n) : splitN n < n := by
  have q := Nat.log2_self_le (show n - 1 ≠ 0 by omega)
  unfold splitN
  omega
theorem splitN_ge {n : Nat} (h : 2 ≤ n) : n ≤ 2 * splitN n := by
  have q : n - 1 < 2 ^ ((n - 1).log2 + 1) := Nat.lt_log2_self
  rw [Nat.pow_succ] at q
  unfold splitN
  omega
theorem splitN_of {n i : Nat} (h1 : 2 ^ i < n) (h2 : n ≤ 2 * 2 ^ i) : splitN n = 2 ^ i := by
  have h0 : n - 1 ≠ 0 := by
    have := Nat.two_pow_pos i
    omega
  have a : i ≤ (n - 1).log2 := (Nat.le_log2 h0).mpr (by omega)
  have b : (n - 1).log2 < i + 1 := (Nat.log2_lt h0).mpr (by rw [Nat.pow_succ]; omega)
  unfold splitN
  rw [show (n - 1).log2 = i by omega]
theorem splitN_le_pow {n k : Nat} (h : 2 ≤ n) (hk : n ≤ 2 ^ (k + 1)) : splitN n ≤ 2 ^ k ∧ n - splitN n ≤ 2 ^ k := by
  have h0 : n - 1 ≠ 0 := by omega
  have a : (n - 1).log2 < k + 1 := (Nat.log2_lt h0).mpr (by omega)
  have b : splitN n ≤ 2 ^ k := Nat.pow_le_pow_right (by decide) (by omega)
  have c := splitN_ge h
  exact ⟨b, by omega⟩
/-! ### the top of a row -/
def nonT : Tm := .sl "none" (.int 0) (.int 0)
def pairT (a b : Tm) : Tm := .sl "pair" a b
def topT (ts : List Tm) : Tm :=
  if h : ts.length < 2 then ts.headD nonT else pairT (topT (ts.take (splitN ts.length))) (topT (ts.drop (splitN ts.length)))
termination_by ts.length
decreasing_by
  · rw [List.length_take]
    have := splitN_lt (n := ts.length) (by omega)
    omega
  · rw [List.length_drop]
    have := splitN_pos ts.length
    omega
theorem topT_nil : topT [] = nonT := by rw [topT]; rfl
theorem topT_one (t : Tm) : topT [t] = t := by rw [topT]; rfl
theorem topT_single {ts : List Tm} (h : ts.length = 1) : topT ts = ts.getD 0 nonT := by
  match ts, h with
  | [t], _ => exact topT_one t
theorem topT_more {ts : List Tm} (h : 2 ≤ ts.length) : topT ts = pairT (topT (ts.take (splitN ts.length))) (topT (ts.drop (splitN ts.length))) := by
  rw [topT, dif_neg (by omega)]
theorem topT_dep {d : Nat} : ∀ (k : Nat) (ts : List Tm), ts.length ≤ 2 ^ k → (∀ t ∈ ts, t.dep ≤ d) → (topT ts).dep ≤ d + k + 1
  | 0, [], _, _ => by rw [topT_nil]; show 0 + 1 ≤ _; omega
  | 0, [t], _, h => by rw [topT_one]; have := h t List.mem_cons_self; omega
  | 0, t :: u :: r, h, _ => by simp at h
  | k + 1, ts, hl, h => by
    by_cases h2 : 2 ≤ ts.length
    · rw [topT_more h2]
      obtain ⟨a, b⟩ := splitN_le_pow h2 hl
      have e1 := topT_dep k (ts.take (splitN ts.length)) (by rw [List.length_take]; omega) fun t ht => h t (List.mem_of_mem_take ht)
      have e2 := topT_dep k (ts.drop (splitN ts.length)) (by rw [List.length_drop]; omega) fun t ht => h t (List.mem_of_mem_drop ht)
      show max _ _ + 1 ≤ _
      omega
    · match ts, h2 with
      | [], _ => rw [topT_nil]; show 0 + 1 ≤ _; omega
      | [t], _ => rw [topT_one]; have := h t List.mem_cons_self; omega
      | t :: u :: r, h2 => exact absurd (show 2 ≤ (t :: u :: r).length by simp) h2
/-- how many tellings a top wants -/
def costT (n : Nat) : Nat := if n = 0 then 1 else n - 1
theorem costT_split {n : Nat} (h : 2 ≤ n) : costT (splitN n) + costT (n - splitN n) + 1 ≤ costT n := by
  have a := splitN_pos n
  have b := splitN_lt h
  unfold costT
  rw [if_neg (by omega), if_neg (by omega), if_neg (by omega)]
  omega
theorem costT_le (n : Nat) : costT n ≤ n + 1 := by
  unfold costT
  split <;> omega

/-! ### split and the top, by the law's own defs -/
section
variable {P : Program} {w : World} {K : PySem.W.Frag} {mg : Str → Option Value} {base : Heap} {Fam : Sys → Prop}
/-- a def of which nothing is asked -/
def spNo : Sp := fun _ _ _ _ => False
theorem cal_no {x : Str} {st : Stmt} {ps : List Str} (D : DefX K mg x st ps) (k : Nat) : Cal P w K mg base k x spNo [] := by
  obtain ⟨f, fd, F, m, b⟩ := D.ex
  exact ⟨f, fd, ps, [], ⟨fun _ _ _ _ h => h.elim, fun _ _ _ _ _ _ _ _ _ _ _ _ _ h => h.elim⟩, m, F.kp, .all b, .nil⟩
theorem cal_mono {x : Str} {j k : Nat} {sp : Sp} {dvs : List V} (c : Cal P w K mg base j x sp dvs) (h : j ≤ k) : Cal P w K mg base k x sp dvs := by
  obtain ⟨f, fd, ps, ds, F, m, kp, b, v⟩ := c.ex
  exact ⟨f, fd, ps, ds, F.mono h, m, kp, b, v⟩
def spSplit : Sp := fun vs H Q _ => ∃ n : Nat, vs = [.int (n : Int)] ∧ 2 ≤ n ∧ n.log2 ≤ 100000 ∧ Q (.int ((splitN n : Nat) : Int)) H
theorem pow_cast (i : Nat) : (((2 ^ i : Nat) : Nat) : Int) = 2 ^ i := by
  rw [Int.natCast_pow]
  rfl
theorem ok_law_split {cc : Addr} (T : Txt K mg cc) : Cal P w K mg base 1 "_law_split" spSplit [] := by
  refine cal_of T.d__law_split sc__law_split (fun vs H Q E h => ?_) (fun f cdv A outer s H vs Q E hr h => ?_)
  · obtain ⟨n, rfl, _⟩ := h
    rfl
  obtain ⟨n, rfl, h2, hl, q⟩ := h
  refine ⟨_, (pss_cons (ps_set (i := 1) sc__law_split.nd rfl (Or.inl rfl) pe_int)
  (pss_cons (ps_while PassesOwn.never (pt_cmpR op_lt (pe_op op_mul (pv 1) pe_int) (pv 0) (nomark _)) (pss_one (ps_set (i := 1) sc__law_split.nd rfl (Or.inl rfl) (pe_op op_mul (pv 1) pe_int))))
  (pss_one (ps_ret (pv 1))))), ?_⟩
  refine ⟨fun m σ H' => ∃ i : Nat, m = n - 2 ^ i ∧ 2 ^ i < n ∧ σ = [some (.int (n : Int)), some (.int ((2 ^ i : Nat) : Int))] ∧ H' = H, ⟨_, 0, rfl, by simp; omega, rfl, rfl⟩, ?_⟩
  rintro m σ H' ⟨i, rfl, hi, rfl, rfl⟩
  have cm : CMul ((2 ^ i : Nat) : Int) 2 := .inr ⟨by decide, by decide⟩
  refine ⟨_, rfl, _, 2, rfl, rfl, cm, _, rfl, _, _, rfl, rfl, _, rfl, ite2 (fun c => ?_) (fun c => ?_)⟩
  · have c' : ((2 ^ i : Nat) : Int) * 2 < (n : Int) := of_decide_eq_true c
    refine ⟨fun σ' H'' => ∃ j : Nat, j = i + 1 ∧ σ' = [some (.int (n : Int)), some (.int ((2 ^ j : Nat) : Int))] ∧ H'' = H', fun σ' H'' ⟨j, ej, es, eh⟩ => ⟨n - 2 ^ j, ?_, j, rfl, ?_, es, eh⟩, ?_⟩
    · subst ej
      rw [Nat.pow_succ]
      have := Nat.two_pow_pos i
      omega
    · subst ej
      rw [Nat.pow_succ]
      omega
    · refine ⟨_, rfl, _, 2, rfl, rfl, cm, i + 1, rfl, ?_, rfl⟩
      have e : ((2 ^ i : Nat) : Int) * 2 = ((2 ^ (i + 1) : Nat) : Int) := by
        rw [Nat.pow_succ]
        omega
      show [some (V.int (n : Int)), some (V.int (((2 ^ i : Nat) : Int) * 2))] = _
      rw [e]
  · have c' : ¬ ((2 ^ i : Nat) : Int) * 2 < (n : Int) := of_decide_eq_false (Bool.eq_false_iff.mpr c)
    have e : splitN n = 2 ^ i := splitN_of hi (by omega)
    rw [e] at q
    exact ⟨_, rfl, q⟩
/-- the top of a row of leaves: two to the k of them at most -/
def spTop (K : PySem.W.Frag) (Fam : Sys → Prop) (k : Nat) : Sp := fun vs H Q _ => ∃ (S : Sys) (a : Addr) (xs : List V) (ts : List Tm) (r : Nat), Fam S ∧ vs = [.ref S.f, .ref a] ∧ SqL K H a xs ∧ DenL S H xs ts ∧ k ≠ 0 ∧ ts.length ≤ 2 ^ (k - 1) ∧ ts.length ≤ 1000 ∧ S.ok H (r + costT ts.length) ∧
  ∀ v H', Ext H H' → S.ok H' r → S.den H' v (topT ts) → Q v H'
theorem atI_den {S : Sys} {H : Hp} {xs : List V} {ts : List Tm} (h : DenL S H xs ts) {i : Int} (h0 : 0 ≤ i) (h1 : i < (ts.length : Int)) : ∃ v, atI xs i = some v ∧ S.den H v (ts.getD i.toNat nonT) := by
  have hi : i.toNat < ts.length := by omega
  obtain ⟨v, e, d⟩ := h.get hi
  refine ⟨v, at_of (j := i.toNat) (by omega) e, ?_⟩
  rw [List.getD_eq_getElem?_getD, List.getElem?_eq_getElem hi]
  exact d
theorem ok_law_top1 {cc : Addr} {k : Nat} (T : Txt K mg cc) (A : SlA P w K mg base Fam) (C__law_top : Cal P w K mg base (k + 2) "_law_top" (spTop K Fam k) []) : Cal P w K mg base (k + 3) "_law_top" (spTop K Fam (k + 1)) [] := by
  have Z := T.Z
  have C__law_split := ok_law_split (P := P) (w := w) (base := base) T
  refine cal_of T.d__law_top sc__law_top (fun vs H Q E h => ?_) (fun f cdv A' outer s H vs Q E hr h => ?_)
  · obtain ⟨S, a, xs, ts, r, _, rfl, _⟩ := h
    rfl
  obtain ⟨S, a, xs, ts, r, hF, rfl, hS, hD, _, hk, hl, hok, q⟩ := h
  have hlen := hD.len
  have G := A.good hF
  refine ⟨_, (pss_cons (ps_if (pt_cmpR op_eq (pe_callB call_len_seq rfl Z.len PySem.boot_len (pa_cons (pv 1) pa_nil)) pe_int (nomark _)) (pss_one (ps_ret (pe_sl (i := 0) A.held hr (by omega) rfl (by first | exact Or.inl rfl | exact Or.inr (Or.inl rfl) | exact Or.inr (Or.inr rfl)) (pa_cons pe_str (pa_cons pe_int (pa_cons pe_int pa_nil)))))) pss_nil)
  (pss_cons (ps_if (pt_cmpR op_eq (pe_callB call_len_seq rfl Z.len PySem.boot_len (pa_cons (pv 1) pa_nil)) pe_int (nomark _)) (pss_one (ps_ret (pe_ix ix_list (pv 1) pe_int (fun _ _ => rfl)))) pss_nil)
  (pss_cons (ps_set (i := 2) sc__law_top.nd rfl (Or.inl rfl) (pe_c C__law_split hr (by omega) rfl (pa_cons (pe_callB call_len_seq rfl Z.len PySem.boot_len (pa_cons (pv 1) pa_nil)) pa_nil)))
  (pss_one (ps_ret (pe_sl (i := 0) A.held hr (by omega) rfl (by first | exact Or.inl rfl | exact Or.inr (Or.inl rfl) | exact Or.inr (Or.inr rfl)) (pa_cons pe_str (pa_cons (pe_c C__law_top hr (by omega) rfl (pa_cons (pv 0) (pa_cons (pe_slice sl_list (pv 1) po_none (po_some (pv 2))) pa_nil))) (pa_cons (pe_c C__law_top hr (by omega) rfl (pa_cons (pv 0) (pa_cons (pe_slice sl_list (pv 1) (po_some (pv 2)) po_none) pa_nil))) pa_nil))))))))), ?_⟩
  -- no leaf
  refine ⟨_, rfl, a, _, rfl, .inl hS, rfl, _, rfl, ite2 (fun c => ?_) (fun c => ?_)⟩
  · have c' : (xs.length : Int) = 0 := V.int.inj (of_decide_eq_true c)
    have e : ts = [] := List.eq_nil_of_length_eq_zero (by omega)
    subst e
    refine ⟨S, _, hF, rfl, hok, r, "none", .int 0, .int 0, _, _, rfl, by decide +kernel, hok, G.int 0 hok, G.int 0 hok, fun v H' e ok d => q v H' e ok ?_⟩
    rw [topT_nil]
    exact d
  have n0 : xs.length ≠ 0 := fun z => c (decide_eq_true (by rw [z]; rfl))
  -- one
  refine ⟨_, rfl, a, _, rfl, .inl hS, rfl, _, rfl, ite2 (fun c => ?_) (fun c => ?_)⟩
  · have c' : (xs.length : Int) = 1 := V.int.inj (of_decide_eq_true c)
    obtain ⟨v, hv, dv⟩ := atI_den hD (i := 0) (Int.le_refl 0) (by omega)
    refine ⟨_, rfl, a, xs, 0, v, rfl, rfl, hS, hv, q v H (Ext.refl H) ?_ ?_⟩
    · refine G.less hok ?_
      omega
    · rw [topT_single (by omega)]
      exact dv
  have n1 : xs.length ≠ 1 := fun z => c (decide_eq_true (by rw [z]; rfl))
  -- more
  have h2 : 2 ≤ ts.length := by omega
  have hsl := splitN_lt h2
  have hsp := splitN_pos ts.length
  have hk1 : ts.length ≤ 2 ^ k := hk
  obtain ⟨k', rfl⟩ : ∃ k', k = k' + 1 := by
    cases k with
    | zero => simp at hk1; omega
    | succ k' => exact ⟨k', rfl⟩
  obtain ⟨b1, b2⟩ := splitN_le_pow h2 hk1
  have hcs := costT_split h2
  have lg := Nat.log2_le_self ts.length
  refine ⟨_, rfl, a, _, rfl, .inl hS, ts.length, by rw [hlen] <;> rfl, h2, by omega, ?_⟩
  refine ⟨S, _, hF, rfl, hok, ?_⟩
  -- the first part
  refine ⟨_, rfl, _, rfl, _, rfl, ((splitN ts.length : Nat) : Int), rfl, a, _, rfl, hS, fun p hp => ?_⟩
  rw [cut_to]
  have x1 := Ext.new (o := .lst (xs.take (splitN ts.length))) hp
  have k1 := Kp.new (o := .lst (xs.take (splitN ts.length))) hp
  refine ⟨S, p, _, ts.take (splitN ts.length), r + 1 + costT (ts.length - splitN ts.length), hF, rfl, SqL.of upd_same, (hD.take _).mono G k1.gr, by omega, ?_, ?_, ?_, fun v1 H1 x2 ok1 d1 => ?_⟩
  · rw [List.length_take]
    show _ ≤ 2 ^ k'
    omega
  · rw [List.length_take]
    omega
  · rw [List.length_take, Nat.min_eq_left (by omega)]
    exact G.less (G.keep k1 hok) (by omega)
  -- the rest
  have xx := x1.trans x2
  refine ⟨_, rfl, _, rfl, _, rfl, ((splitN ts.length : Nat) : Int), rfl, a, _, rfl, xx.seq hS, fun p2 hp2 => ?_⟩
  rw [cut_from]
  have x3 := Ext.new (o := .lst (xs.drop (splitN ts.length))) hp2
  have k3 := Kp.new (o := .lst (xs.drop (splitN ts.length))) hp2
  refine ⟨S, p2, _, ts.drop (splitN ts.length), r + 1, hF, rfl, SqL.of upd_same, ((hD.drop _).mono G xx.gr).mono G k3.gr, by omega, ?_, ?_, ?_, fun v2 H2 x4 ok2 d2 => ?_⟩
  · rw [List.length_drop]
    show _ ≤ 2 ^ k'
    omega
  · rw [List.length_drop]
    omega
  · rw [List.length_drop]
    exact G.keep k3 ok1
  refine ⟨r, "pair", topT (ts.take (splitN ts.length)), topT (ts.drop (splitN ts.length)), _, _, rfl, by decide +kernel, ok2, G.mono (x3.trans x4).gr d1, d2, fun v H' x5 ok3 d3 => ?_⟩
  refine q v H' (((xx.trans x3).trans x4).trans x5) ok3 ?_
  rw [topT_more h2]
  exact d3
theorem ok_law_top {cc : Addr} (T : Txt K mg cc) (A : SlA P w K mg base Fam) : ∀ k : Nat, Cal P w K mg base (k + 2) "_law_top" (spTop K Fam k) []
  | 0 => by
    obtain ⟨f, fd, ps, ds, F, m, kp, b, v⟩ := (cal_no (P := P) (w := w) (base := base) T.d__law_top 2).ex
    exact ⟨f, fd, ps, ds, F.imp fun vs H Q E h => by obtain ⟨_, _, _, _, _, _, _, _, _, z, _⟩ := h; exact absurd rfl z, m, kp, b, v⟩
  | k + 1 => ok_law_top1 T A (ok_law_top T A k)
end

/-! ### for the law: equal things are seen equal; the head -/
section
variable {K : PySem.W.Frag} {H : Hp} {S : Sys}
theorem shaped_of {d : PyData} (h : d.canLay0 = true) (hd : d.depth ≤ 64) : SeqAt.shaped d = true := by
  unfold SeqAt.shaped
  rw [h, decide_eq_true hd]
  rfl
theorem eqv_self {d : PyData} (h : d.canLay0 = true) : PyData.eqv d d = true := SeqAt.eqv_refl d h
theorem eq_rows (G : S.Good K) {p p' : Addr} {xs ys : List V} {ts : List Tm} (hp : SqL K H p xs) (hp' : SqL K H p' ys) (h : DenL S H xs ts) (h' : DenL S H ys ts) (hd : ∀ t ∈ ts, t.dep ≤ 60) :
    ∃ d, Dp K H (.ref p) d ∧ Dp K H (.ref p') d ∧ SeqAt.shaped d = true ∧ PyData.eqv d d = true := by
  obtain ⟨ds, a, b, c, e⟩ := DenL.same G h h' hd
  have c' : (PyData.list ds).canLay0 = true := c
  exact ⟨.list ds, .lst hp a, .lst hp' b, shaped_of c' (by show PyData.depthAll ds + 1 ≤ 64; omega), eqv_self c'⟩
theorem eq_tm (G : S.Good K) {v v' : V} {t : Tm} (h : S.den H v t) (h' : S.den H v' t) (hd : t.dep ≤ 60) :
    ∃ d, Dp K H v d ∧ Dp K H v' d ∧ SeqAt.shaped d = true ∧ PyData.eqv d d = true := by
  obtain ⟨d, a, b, c, e⟩ := G.same h h'
  exact ⟨d, a, b, shaped_of c (by omega), eqv_self c⟩
theorem ext_seq {K : PySem.W.Frag} {H H' : Hp} {a : Addr} {xs : List V} (e : LamX.ExtN H H') (h : SqL K H a xs) : SqL K H' a xs := by
  rcases h with (h | ⟨o, h⟩) | h
  · exact .inl (.inl (e _ _ h fun _ z => nomatch z))
  · exact .inl (.inr ⟨o, e _ _ h fun _ z => nomatch z⟩)
  · exact .inr h
end
/-- a row's places -/
theorem map_int_mem {l : List Int} {x : V} (h : x ∈ l.map V.int) : ∃ z ∈ l, x = .int z := by
  obtain ⟨z, hz, e⟩ := List.mem_map.mp h
  exact ⟨z, hz, e.symm⟩
/-- the law's promise; a table of code objects at PT -/
def spLaw (K : PySem.W.Frag) (PT : Addr) : Sp := fun vs H Q _ => ∃ (a : Addr) (ns : List Int), vs = [.ref a] ∧ SqL K H a (ns.map V.int) ∧ ns.length ≤ 63 ∧ H PT = some (.tbl #[]) ∧ ∀ H', Q (.bl true) H'
theorem law_end {l : PySem.W.OpenLaw} {w : World} {K : PySem.W.Frag} {h : Heap} {mg : Str → Option Value} {fa c PT : Addr} {k : Nat} (X : K.In h) (hP : ∀ Q ∈ [PT], h.get? Q = some (PySem.W.tabObj #[])) (nP : K.lookup PT = none) (hc : PySem.W.codeHdIn K c PT = true)
    (F : ∃ fd : FuncData, (∀ (s : Shared) (v : Value), BindsTo s fd ⟨[v], []⟩ [("_law_script", v)]) ∧ ∀ base : Heap, K.In base → base.Ns mainGlobals mg → LamX.TabB base mg c PT → FnOk l.prog w K mg base L2.CX0 k fa fd ["_law_script"] (spLaw K PT)) :
    LamX.LawAtS l w K L2.CX0 k 63 "_law_script" mg fa h := by
  obtain ⟨fd, hb, hF⟩ := F
  refine ⟨fd, [(c, PT)], spLaw K PT, fun p hp => ?_, fun p hp => ?_, fun p hp => ?_, hb, fun H a ns hl _ hT hS => ⟨a, ns, rfl, hS, hl, hT _ (List.mem_singleton.mpr rfl), fun _ => rfl⟩, fun base KB NB TB => hF base KB NB (TB _ (List.mem_singleton.mpr rfl))⟩
  · rw [List.mem_singleton.mp hp]
    exact hP PT (List.mem_singleton.mpr rfl)
  · rw [List.mem_singleton.mp hp]
    exact nP
  · rw [List.mem_singleton.mp hp]
    exact PySem.W.codeHd_of_K X hc
theorem law_fnT {P : Program} {w : World} {K : PySem.W.Frag} {mg : Str → Option Value} {x p : Str} {st : Stmt} {N : List Str} {k : Nat} {sp : Sp} {fa c PT : Addr} (D : DefX K mg x st [p]) (hfa : mg x = some (.ref fa)) (S : FnScope N [p] (defScope st)) (len : ∀ vs H Q E, sp vs H Q E → vs.length = 1)
    (hbody : ∀ (base : Heap), LamX.TabB base mg c PT → ∀ (f : Addr) (cdv : Value) (A : Around) (outer : List Env) (s : Shared) (H : Hp) (vs : List V) (Q : VK) (E : XK), Room k (A.deeper (envOfC x (defScope st) s.heap.objs.size f cdv)) → sp vs H Q E →
      ∃ t, PSs (cxOf L2.CX0 P w K mg base N x (defScope st) f cdv A outer s H E).nox (defBody st) t ∧ t { nx := fun _ H' => Q .non H', rt := Q } (start N vs) H) :
    ∃ fd : FuncData, (∀ (s : Shared) (v : Value), BindsTo s fd ⟨[v], []⟩ [(p, v)]) ∧ ∀ base : Heap, K.In base → base.Ns mainGlobals mg → LamX.TabB base mg c PT → FnOk P w K mg base L2.CX0 (k + 1) fa fd [p] sp := by
  obtain ⟨f, fd, F, m, b⟩ := D.ex
  have e := hfa.symm.trans m
  cases e
  exact ⟨fd, fun s v => .of_eq (b [v] rfl), fun base _ _ TB => F.ok S len (hbody base TB fa)⟩

/-! ### what is told apart -/
/-- alike in kind, so that equal values tell equal terms -/
def cmpT : Tm → Tm → Prop
  | .int _, .int _ => True
  | .str _, .str _ => True
  | .sl m a b, .sl m' a' b' => m ≠ m' ∨ (cmpT a a' ∧ cmpT b b')
  | _, _ => False
structure Sys.Inj (K : PySem.W.Frag) (S : Sys) : Prop where
  inj : ∀ {H : Hp} {r : Nat} {v v' : V} {t t' : Tm}, S.ok H r → S.den H v t → S.den H v' t' → cmpT t t' → ∃ d d', Dp K H v d ∧ Dp K H v' d' ∧ d.canLay0 = true ∧ d'.canLay0 = true ∧ d.depth ≤ t.dep ∧ d'.depth ≤ t'.dep ∧ PyData.eqv d d' = decide (t = t')
theorem eqv_int (i j : Int) : PyData.eqv (.int i) (.int j) = decide (i = j) := by
  rw [PyData.eqv]
  first | rfl | simp [BEq.beq]
theorem eqv_str (x y : Str) : PyData.eqv (.str x) (.str y) = decide (x = y) := by
  rw [PyData.eqv]
  first | rfl | simp [BEq.beq]
theorem eqvP : ∀ t t' : Tm, PyData.eqv (datP t) (datP t') = decide (t = t')
  | .int i, .int j => by
    show PyData.eqv (.int i) (.int j) = _
    rw [eqv_int]
    by_cases h : i = j
    · rw [h]; simp
    · rw [decide_eq_false h, decide_eq_false (fun z => h (Tm.int.inj z))]
  | .str i, .str j => by
    show PyData.eqv (.str i) (.str j) = _
    rw [eqv_str]
    by_cases h : i = j
    · rw [h]; simp
    · rw [decide_eq_false h, decide_eq_false (fun z => h (Tm.str.inj z))]
  | .sl m a b, .sl m' a' b' => by
    show PyData.eqv (.tuple [.str m, datP a, datP b]) (.tuple [.str m', datP a', datP b']) = _
    rw [PyData.eqv, PyData.eqvAll, PyData.eqvAll, PyData.eqvAll, PyData.eqvAll, eqv_str, eqvP a a', eqvP b b']
    by_cases h1 : m = m' <;> by_cases h2 : a = a' <;> by_cases h3 : b = b' <;> simp [h1, h2, h3]
  | .int _, .str _ => rfl
  | .str _, .int _ => rfl
  | .int _, .sl _ _ _ => rfl
  | .sl _ _ _, .int _ => rfl
  | .str _, .sl _ _ _ => rfl
  | .sl _ _ _, .str _ => rfl
theorem eqvT : ∀ t t' : Tm, PyData.eqv (datT t) (datT t') = decide (t = t')
  | .int i, .int j => by
    show PyData.eqv (.int i) (.int j) = _
    rw [eqv_int]
    by_cases h : i = j
    · rw [h]; simp
    · rw [decide_eq_false h, decide_eq_false (fun z => h (Tm.int.inj z))]
  | .str i, .str j => by
    show PyData.eqv (.str i) (.str j) = _
    rw [eqv_str]
    by_cases h : i = j
    · rw [h]; simp
    · rw [decide_eq_false h, decide_eq_false (fun z => h (Tm.str.inj z))]
  | .sl m a b, .sl m' a' b' => by
    show PyData.eqv (.tuple [.str "seal of", datT b, datT a, .str m]) (.tuple [.str "seal of", datT b', datT a', .str m']) = _
    rw [PyData.eqv, PyData.eqvAll, PyData.eqvAll, PyData.eqvAll, PyData.eqvAll, PyData.eqvAll, eqv_str, eqv_str, eqvT a a', eqvT b b']
    by_cases h1 : m = m' <;> by_cases h2 : a = a' <;> by_cases h3 : b = b' <;> simp [h1, h2, h3]
  | .int _, .str _ => rfl
  | .str _, .int _ => rfl
  | .int _, .sl _ _ _ => rfl
  | .sl _ _ _, .int _ => rfl
  | .str _, .sl _ _ _ => rfl
  | .sl _ _ _, .str _ => rfl
theorem DenN.inj {ks : List (List Key)} {k : Key} {t : Tm} (h : DenN (tab ks) k t) : ∀ {t'}, DenN (tab ks) k t' → cmpT t t' → t = t' := by
  induction h with
  | int i =>
    intro t' h' c
    cases h' with
    | int => rfl
    | sl _ _ _ => exact c.elim
  | str x h =>
    intro t' h' c
    cases h'
    rfl
  | @sl m ka kb a b n ha hb hv iha ihb =>
    intro t' h' c
    cases h' with
    | int => exact c.elim
    | @sl m' ka' kb' a' b' _ ha' hb' hv' =>
      obtain ⟨i, e1, g1⟩ := tab_at hv
      obtain ⟨j, e2, g2⟩ := tab_at hv'
      have e3 := V.int.inj (e1.symm.trans e2)
      have e4 : i = j := by omega
      subst e4
      rw [g1] at g2
      have g3 := Option.some.inj g2
      have g4 : m = m' := by
        have := (List.cons.inj g3).1
        exact Sum.inr.inj this
      have g5 : ka = ka' := (List.cons.inj (List.cons.inj g3).2).1
      have g6 : kb = kb' := (List.cons.inj (List.cons.inj (List.cons.inj g3).2).2).1
      subst g4 g5 g6
      rcases c with c | ⟨c1, c2⟩
      · exact absurd rfl c
      · rw [iha ha' c1, ihb hb' c2]
theorem DenN.apart {ks : List (List Key)} {K : PySem.W.Frag} {H : Hp} {k k' : Key} {t t' : Tm} (h : DenN (tab ks) k t) (h' : DenN (tab ks) k' t') (c : cmpT t t') : ∃ d d', Dp K H (kV k) d ∧ Dp K H (kV k') d' ∧ d.canLay0 = true ∧ d'.canLay0 = true ∧ d.depth ≤ t.dep ∧ d'.depth ≤ t'.dep ∧ PyData.eqv d d' = decide (t = t') := by
  have key : decide (k = k') = decide (t = t') := by
    by_cases e : k = k'
    · subst e
      rw [h.inj h' c]
      simp
    · rw [decide_eq_false e, decide_eq_false]
      rintro rfl
      exact e (h.fn h')
  rw [← key]
  cases h with
  | int i =>
    cases h' with
    | int j => exact ⟨_, _, .int _, .int _, rfl, rfl, Nat.zero_le _, Nat.zero_le _, by rw [eqv_int]; by_cases e : i = j <;> simp [e]⟩
    | str y hy => exact c.elim
    | sl _ _ _ => exact c.elim
  | str x hx =>
    cases h' with
    | int j => exact c.elim
    | str y hy => exact ⟨_, _, .str _, .str _, hx, hy, Nat.zero_le _, Nat.zero_le _, by rw [eqv_str]; by_cases e : x = y <;> simp [e]⟩
    | sl _ _ _ => exact c.elim
  | @sl _ _ _ _ _ n _ _ _ =>
    cases h' with
    | int j => exact c.elim
    | str y hy => exact c.elim
    | @sl _ _ _ _ _ n' _ _ _ => exact ⟨_, _, .int _, .int _, rfl, rfl, Nat.zero_le _, Nat.zero_le _, by rw [eqv_int]; by_cases e : n = n' <;> simp [e]⟩
theorem inj3 {K : PySem.W.Frag} {mg : Str → Option Value} {S : Sys} (h : Fam3 mg S) : S.Inj K := by
  rcases h with ⟨f, _, rfl⟩ | ⟨f, _, rfl⟩ | ⟨N, rfl⟩
  · exact ⟨fun _ h h' _ => ⟨_, _, h.dp.1, h'.dp.1, (DenP.dp (K := K) h).2.1, (DenP.dp (K := K) h').2.1, (DenP.dp (K := K) h).2.2, (DenP.dp (K := K) h').2.2, eqvP _ _⟩⟩
  · exact ⟨fun _ h h' _ => ⟨_, _, h.dt.1, h'.dt.1, (DenP.dt (K := K) h).2.1, (DenP.dt (K := K) h').2.1, (DenP.dt (K := K) h).2.2, (DenP.dt (K := K) h').2.2, eqvT _ _⟩⟩
  · refine ⟨fun ok h h' c => ?_⟩
    obtain ⟨ks, hd, _⟩ := ok.dict
    obtain ⟨kvs, k, e1, g, rfl⟩ := h
    obtain ⟨kvs', k', e1', g', rfl⟩ := h'
    rw [hd] at e1 e1'
    cases e1
    cases e1'
    exact g.apart g' c
/-- rows told apart -/
theorem DenL.apart {K : PySem.W.Frag} {S : Sys} (I : S.Inj K) {H : Hp} {r n : Nat} (ok : S.ok H r) : ∀ {vs us : List V} {ts rs : List Tm}, DenL S H vs ts → DenL S H us rs → (∀ t ∈ ts, ∀ u ∈ rs, cmpT t u) → (∀ t ∈ ts, t.dep ≤ n) → (∀ t ∈ rs, t.dep ≤ n) →
    (∀ t ∈ ts, cmpT t t) → (∀ t ∈ rs, cmpT t t) → ∃ ds es, DpAll K H vs ds ∧ DpAll K H us es ∧ PyData.canLayAll0 ds = true ∧ PyData.canLayAll0 es = true ∧ PyData.depthAll ds ≤ n ∧ PyData.depthAll es ≤ n ∧ PyData.eqvAll ds es = decide (ts = rs)
  | vs, us, [], [], h, h', _, _, _, _, _ => by
    have e1 : vs = [] := List.eq_nil_of_length_eq_zero h.len
    have e2 : us = [] := List.eq_nil_of_length_eq_zero h'.len
    subst e1 e2
    exact ⟨[], [], .nil, .nil, rfl, rfl, Nat.zero_le _, Nat.zero_le _, by rw [PyData.eqvAll]; rfl⟩
  | [], _, t :: ts, _, h, _, _, _, _, _, _ => absurd h.len (by simp)
  | _, [], _, u :: rs, _, h', _, _, _, _, _ => absurd h'.len (by simp)
  | v :: vs, us, t :: ts, [], h, h', c, hd, hd', ct, cu => by
    have e2 : us = [] := List.eq_nil_of_length_eq_zero h'.len
    subst e2
    have t1 : DenL S H vs ts := h.drop 1
    obtain ⟨d, _, a1, _, a3, _, a4, _, _⟩ := I.inj ok (h.at_ 0 v t rfl rfl) (h.at_ 0 v t rfl rfl) (ct t List.mem_cons_self)
    obtain ⟨ds, es, b1, b2, b3, b4, b5, b6, b7⟩ := DenL.apart I ok t1 h' (fun t ht u hu => c t (List.mem_cons_of_mem _ ht) u hu) (fun t ht => hd t (List.mem_cons_of_mem _ ht)) hd' (fun t ht => ct t (List.mem_cons_of_mem _ ht)) cu
    cases b2
    refine ⟨d :: ds, [], .cons a1 b1, .nil, by rw [PyData.canLayAll0, a3, b3]; rfl, rfl, ?_, Nat.zero_le _, by rw [PyData.eqvAll]; first | rfl | simp⟩
    have := hd t List.mem_cons_self
    show max d.depth (PyData.depthAll ds) ≤ n
    omega
  | vs, u :: us, [], w :: rs, h, h', c, hd, hd', ct, cu => by
    have e2 : vs = [] := List.eq_nil_of_length_eq_zero h.len
    subst e2
    have t1 : DenL S H us rs := h'.drop 1
    obtain ⟨d, _, a1, _, a3, _, a4, _, _⟩ := I.inj ok (h'.at_ 0 u w rfl rfl) (h'.at_ 0 u w rfl rfl) (cu w List.mem_cons_self)
    obtain ⟨ds, es, b1, b2, b3, b4, b5, b6, b7⟩ := DenL.apart I ok h t1 (fun t ht u hu => c t ht u (List.mem_cons_of_mem _ hu)) hd (fun t ht => hd' t (List.mem_cons_of_mem _ ht)) ct (fun t ht => cu t (List.mem_cons_of_mem _ ht))
    cases b1
    refine ⟨[], d :: es, .nil, .cons a1 b2, rfl, by rw [PyData.canLayAll0, a3, b4]; rfl, Nat.zero_le _, ?_, by rw [PyData.eqvAll]; first | rfl | simp⟩
    have := hd' w List.mem_cons_self
    show max d.depth (PyData.depthAll es) ≤ n
    omega
  | v :: vs, u :: us, t :: ts, w :: rs, h, h', c, hd, hd', ct, cu => by
    have t1 : DenL S H vs ts := h.drop 1
    have t2 : DenL S H us rs := h'.drop 1
    obtain ⟨d, e, a1, a2, a3, a4, a5, a6, a7⟩ := I.inj ok (h.at_ 0 v t rfl rfl) (h'.at_ 0 u w rfl rfl) (c t List.mem_cons_self w List.mem_cons_self)
    obtain ⟨ds, es, b1, b2, b3, b4, b5, b6, b7⟩ := DenL.apart I ok t1 t2 (fun t ht u hu => c t (List.mem_cons_of_mem _ ht) u (List.mem_cons_of_mem _ hu)) (fun t ht => hd t (List.mem_cons_of_mem _ ht)) (fun t ht => hd' t (List.mem_cons_of_mem _ ht)) (fun t ht => ct t (List.mem_cons_of_mem _ ht)) (fun t ht => cu t (List.mem_cons_of_mem _ ht))
    refine ⟨d :: ds, e :: es, .cons a1 b1, .cons a2 b2, by rw [PyData.canLayAll0, a3, b3]; rfl, by rw [PyData.canLayAll0, a4, b4]; rfl, ?_, ?_, ?_⟩
    · have := hd t List.mem_cons_self
      show max d.depth (PyData.depthAll ds) ≤ n
      omega
    · have := hd' w List.mem_cons_self
      show max e.depth (PyData.depthAll es) ≤ n
      omega
    · rw [PyData.eqvAll, a7, b7]
      by_cases h1 : t = w <;> by_cases h2 : ts = rs <;> simp [h1, h2]
termination_by vs us ts rs => ts.length + rs.length
decreasing_by
  all_goals (simp; try omega)

/-! ### well-made things -/
inductive WS : Tm → Prop
  | leaf (x : Str) {a : Tm} (ha : WS a) : WS (.sl "leaf" (.str x) a)
  | tab (i : Int) {a : Tm} (ha : WS a) : WS (.sl "table" (.int i) a)
  | row (i : Int) (x : Str) : WS (.sl "row" (.int i) (.str x))
  | fork {a b : Tm} (ha : WS a) (hb : WS b) : WS (.sl "fork" a b)
  | non : WS nonT
  | pair {a b : Tm} (ha : WS a) (hb : WS b) : WS (pairT a b)
  | book (i : Int) {a : Tm} (ha : WS a) : WS (.sl "book" (.int i) a)
theorem WS.cmp {a : Tm} (h : WS a) : ∀ {b}, WS b → cmpT a b := by
  induction h with
  | leaf x ha iha =>
    intro b hb
    cases hb with
    | leaf y hb' => exact .inr ⟨True.intro, iha hb'⟩
    | tab _ _ => exact .inl (by decide +kernel)
    | row _ _ => exact .inl (by decide +kernel)
    | fork _ _ => exact .inl (by decide +kernel)
    | non => exact .inl (by decide +kernel)
    | pair _ _ => exact .inl (by decide +kernel)
    | book _ _ => exact .inl (by decide +kernel)
  | tab i ha iha =>
    intro b hb
    cases hb with
    | leaf _ _ => exact .inl (by decide +kernel)
    | tab j hb' => exact .inr ⟨True.intro, iha hb'⟩
    | row _ _ => exact .inl (by decide +kernel)
    | fork _ _ => exact .inl (by decide +kernel)
    | non => exact .inl (by decide +kernel)
    | pair _ _ => exact .inl (by decide +kernel)
    | book _ _ => exact .inl (by decide +kernel)
  | row i x =>
    intro b hb
    cases hb with
    | leaf _ _ => exact .inl (by decide +kernel)
    | tab _ _ => exact .inl (by decide +kernel)
    | row _ _ => exact .inr ⟨True.intro, True.intro⟩
    | fork _ _ => exact .inl (by decide +kernel)
    | non => exact .inl (by decide +kernel)
    | pair _ _ => exact .inl (by decide +kernel)
    | book _ _ => exact .inl (by decide +kernel)
  | fork ha hb iha ihb =>
    intro b hb
    cases hb with
    | leaf _ _ => exact .inl (by decide +kernel)
    | tab _ _ => exact .inl (by decide +kernel)
    | row _ _ => exact .inl (by decide +kernel)
    | fork ha' hb' => exact .inr ⟨iha ha', ihb hb'⟩
    | non => exact .inl (by decide +kernel)
    | pair _ _ => exact .inl (by decide +kernel)
    | book _ _ => exact .inl (by decide +kernel)
  | non =>
    intro b hb
    cases hb with
    | leaf _ _ => exact .inl (by decide +kernel)
    | tab _ _ => exact .inl (by decide +kernel)
    | row _ _ => exact .inl (by decide +kernel)
    | fork _ _ => exact .inl (by decide +kernel)
    | non => exact .inr ⟨True.intro, True.intro⟩
    | pair _ _ => exact .inl (by decide +kernel)
    | book _ _ => exact .inl (by decide +kernel)
  | pair ha hb iha ihb =>
    intro b hb
    cases hb with
    | leaf _ _ => exact .inl (by decide +kernel)
    | tab _ _ => exact .inl (by decide +kernel)
    | row _ _ => exact .inl (by decide +kernel)
    | fork _ _ => exact .inl (by decide +kernel)
    | non => exact .inl (by decide +kernel)
    | pair ha' hb' => exact .inr ⟨iha ha', ihb hb'⟩
    | book _ _ => exact .inl (by decide +kernel)
  | book i ha iha =>
    intro b hb
    cases hb with
    | leaf _ _ => exact .inl (by decide +kernel)
    | tab _ _ => exact .inl (by decide +kernel)
    | row _ _ => exact .inl (by decide +kernel)
    | fork _ _ => exact .inl (by decide +kernel)
    | non => exact .inl (by decide +kernel)
    | pair _ _ => exact .inl (by decide +kernel)
    | book j hb' => exact .inr ⟨True.intro, iha hb'⟩
theorem topT_ws {ts : List Tm} (h : ∀ t ∈ ts, WS t) : WS (topT ts) := by
  by_cases h2 : ts.length < 2
  · match ts, h2 with
    | [], _ => rw [topT_nil]; exact .non
    | [t], _ => rw [topT_one]; exact h t List.mem_cons_self
    | t :: u :: r, h2 => exact absurd h2 (by simp)
  · have hs := splitN_lt (n := ts.length) (by omega)
    have hs0 := splitN_pos ts.length
    rw [topT_more (by omega)]
    exact .pair (topT_ws fun t ht => h t (List.mem_of_mem_take ht)) (topT_ws fun t ht => h t (List.mem_of_mem_drop ht))
termination_by ts.length
decreasing_by
  · rw [List.length_take]; omega
  · rw [List.length_drop]; omega

/-! ### methods that may raise -/
structure MetR (P : Program) (w : World) (K : PySem.W.Frag) (mg : Str → Option Value) (base : Heap) (k : Nat) (C : Addr) (m : Str) (sp : Sp) : Prop where
  ex : ∃ (f : Addr) (fd : FuncData) (ps : List Str), Cls K C ∧ Meth K C m f ∧ FnOk P w K mg base (L2.CX P w) k f fd ps sp ∧ Binds K fd ps []
theorem metR_of {P : Program} {w : World} {K : PySem.W.Frag} {mg : Str → Option Value} {base : Heap} {C : Addr} {m qual : Str} {st : Stmt} {N ps : List Str} {k : Nat} {sp : Sp} (c : Cls K C) (D : MetX K C m qual st ps) (S : FnScope N ps (defScope st)) (len : ∀ vs H Q E, sp vs H Q E → vs.length = ps.length)
    (hbody : ∀ (f : Addr) (cdv : Value) (A : Around) (outer : List Env) (s : Shared) (H : Hp) (vs : List V) (Q : VK) (E : XK), Room k (A.deeper (envOfC qual (defScope st) s.heap.objs.size f cdv)) → sp vs H Q E →
      ∃ t, PSs (cxOf (L2.CX P w) P w K mg base N qual (defScope st) f cdv A outer s H E) (defBody st) t ∧ t { nx := fun _ H' => Q .non H', rt := Q } (start N vs) H) : MetR P w K mg base (k + 1) C m sp := by
  obtain ⟨f, fd, F, me, b⟩ := D.ex
  exact ⟨f, fd, ps, c, me, F.okX S len (hbody f), .all b⟩
def tMethX (C : Addr) (m : Str) (sp : Sp) (E : L2.St → XK) (ta : TE) (t : TA) : TE := fun σ H Q => ta σ H fun x H1 => ∃ a dx fs, x = .ref a ∧ H1 a = some (.ins C dx fs) ∧ fs.lookup m = none ∧ t σ H1 fun vs H2 => sp (x :: vs) H2 Q (E σ)
section
variable {X : Cx} {k j : Nat} {C : Addr} {m : Str} {sp : Sp} {pos apos : Pos} {e o : Expr} {es : List Expr} {ta : TE} {t : TA} {W : WX}
theorem pe_mtx {pl : Sem Bool} (c : MetR X.prog X.w X.K X.mg X.base k C m sp) (tk : Takes X W) (hr : Room j X.A) (hk : k ≤ j) (he : PE X o ta) (ha : PA X (e :: es) t)
    (hst : starEach (e :: es) X.env = (false, eval e X.env) :: starEach es X.env := by rfl) (hpl : (backTo pos (starEach es X.env)).any (·.1) = false := by rfl)
    (ht : eval (.Call (.Attribute o m apos) (e :: es) [] pos) X.env = (do
      let ov ← eval o X.env
      standAt apos.atName
      let (f, first) ← holding [ov] (getMethod ov m pl)
      callWith pos f first (backTo pos (starEach (e :: es) X.env)) (backToKw pos (keywordEach [] X.env))) := by rfl) :
    PE X (.Call (.Attribute o m apos) (e :: es) [] pos) (tMethX C m sp (WE W) ta t) := by
  obtain ⟨f, fd, ps, hc, hm, F, b⟩ := c.ex
  refine ⟨fun pins s σ H Q I h => ?_⟩
  refine PySem.W.methodCall_KW (pl := pl) (thn (he.run pins s σ H _ I h) fun u s1 ⟨x, H1, I1, rx, a, dx, fs, ex, ea, l, q⟩ => ?_) ht
  subst ex
  obtain rfl : u = Value.ref a := rx
  refine getmeth_ok I1 ea hc hm l ?_
  refine PySem.W.callWith_K (first := [.ref a]) (h₀ := X.base) I.ok.mod.kin hm.kp (thn (ha.run pos pins s1 σ H1 _ I1 q) fun us s2 ⟨vs, H2, I2, r, q2⟩ => ⟨I2.kIn, ?_⟩) hst hpl
  exact run_fnS (us := .ref a :: us) (vs := .ref a :: vs) F (hr.mono hk) b (passAt tk σ) I2 (.cons rfl r) q2
end

/-! ### methods that may raise, called with defaults -/
structure MetRD (P : Program) (w : World) (K : PySem.W.Frag) (mg : Str → Option Value) (base : Heap) (k : Nat) (C : Addr) (m : Str) (sp : Sp) (dvs : List V) : Prop where
  ex : ∃ (f : Addr) (fd : FuncData) (ps : List Str) (ds : List Value), Cls K C ∧ Meth K C m f ∧ FnOk P w K mg base (L2.CX P w) k f fd ps sp ∧ Binds K fd ps ds ∧ Vals dvs ds
theorem MetR.d {P : Program} {w : World} {K : PySem.W.Frag} {mg : Str → Option Value} {base : Heap} {C : Addr} {m : Str} {k : Nat} {sp : Sp} (c : MetR P w K mg base k C m sp) : MetRD P w K mg base k C m sp [] := by
  obtain ⟨f, fd, ps, hc, hm, F, b⟩ := c.ex
  exact ⟨f, fd, ps, [], hc, hm, F, b, .nil⟩
theorem metRD_of {P : Program} {w : World} {K : PySem.W.Frag} {mg : Str → Option Value} {base : Heap} {C : Addr} {m qual : Str} {st : Stmt} {N ps : List Str} {dvs : List V} {k : Nat} {sp : Sp} (n j : Nat) (c : Cls K C) (D : MetD K C m qual st ps dvs) (hd : dvs ≠ []) (hn : n + (dvs.length - j) = ps.length)
    (hb : ∀ (T : Addr) (kV doc pm : Value) (an : Option Addr) (cdv ct : Value) (us its : List Value), us.length = n → its.length = dvs.length →
      ∃ k, bindArgs (PySem.W.fnOf m qual (defArgs st) (defBody st) (defScope st) (.ref T) kV doc pm an cdv ct) ⟨us, []⟩ = seqItems? (.ref T) >>= k ∧ k (some its.toArray) = pure (ps.zip (us ++ its.drop j)))
    (S : FnScope N ps (defScope st)) (len : ∀ vs H Q E, sp vs H Q E → vs.length = ps.length)
    (hbody : ∀ (f : Addr) (cdv : Value) (A : Around) (outer : List Env) (s : Shared) (H : Hp) (vs : List V) (Q : VK) (E : XK), Room k (A.deeper (envOfC qual (defScope st) s.heap.objs.size f cdv)) → sp vs H Q E →
      ∃ t, PSs (cxOf (L2.CX P w) P w K mg base N qual (defScope st) f cdv A outer s H E) (defBody st) t ∧ t { nx := fun _ H' => Q .non H', rt := Q } (start N vs) H) : MetRD P w K mg base (k + 1) C m sp (dvs.drop j) := by
  obtain ⟨f, fd, F, me⟩ := D.ex
  obtain ⟨ds, d, b⟩ := F.binds1 n j hd hn hb
  exact ⟨f, fd, ps, ds, c, me, F.ok S len (hbody f), b, d⟩
def tMethXD (C : Addr) (m : Str) (sp : Sp) (dvs : List V) (E : L2.St → XK) (ta : TE) (t : TA) : TE := fun σ H Q => ta σ H fun x H1 => ∃ a dx fs, x = .ref a ∧ H1 a = some (.ins C dx fs) ∧ fs.lookup m = none ∧ t σ H1 fun vs H2 => sp ((x :: vs) ++ dvs) H2 Q (E σ)
section
variable {X : Cx} {k j : Nat} {C : Addr} {m : Str} {sp : Sp} {dvs : List V} {pos apos : Pos} {e o : Expr} {es : List Expr} {ta : TE} {t : TA} {W : WX}
theorem pe_mtd {pl : Sem Bool} (c : MetRD X.prog X.w X.K X.mg X.base k C m sp dvs) (tk : Takes X W) (hr : Room j X.A) (hk : k ≤ j) (he : PE X o ta) (ha : PA X (e :: es) t)
    (hst : starEach (e :: es) X.env = (false, eval e X.env) :: starEach es X.env := by rfl) (hpl : (backTo pos (starEach es X.env)).any (·.1) = false := by rfl)
    (ht : eval (.Call (.Attribute o m apos) (e :: es) [] pos) X.env = (do
      let ov ← eval o X.env
      standAt apos.atName
      let (f, first) ← holding [ov] (getMethod ov m pl)
      callWith pos f first (backTo pos (starEach (e :: es) X.env)) (backToKw pos (keywordEach [] X.env))) := by rfl) :
    PE X (.Call (.Attribute o m apos) (e :: es) [] pos) (tMethXD C m sp dvs (WE W) ta t) := by
  obtain ⟨f, fd, ps, ds, hc, hm, F, b, d⟩ := c.ex
  refine ⟨fun pins s σ H Q I h => ?_⟩
  refine PySem.W.methodCall_KW (pl := pl) (thn (he.run pins s σ H _ I h) fun u s1 ⟨x, H1, I1, rx, a, dx, fs, ex, ea, l, q⟩ => ?_) ht
  subst ex
  obtain rfl : u = Value.ref a := rx
  refine getmeth_ok I1 ea hc hm l ?_
  refine PySem.W.callWith_K (first := [.ref a]) (h₀ := X.base) I.ok.mod.kin hm.kp (thn (ha.run pos pins s1 σ H1 _ I1 q) fun us s2 ⟨vs, H2, I2, r, q2⟩ => ⟨I2.kIn, ?_⟩) hst hpl
  exact run_fnSD (us := .ref a :: us) (vs := .ref a :: vs) F (hr.mono hk) b d (passAt tk σ) I2 (.cons rfl r) q2
theorem pe_mtd0 {pl : Sem Bool} (c : MetRD X.prog X.w X.K X.mg X.base k C m sp dvs) (tk : Takes X W) (hr : Room j X.A) (hk : k ≤ j) (he : PE X o ta)
    (ht : eval (.Call (.Attribute o m apos) [] [] pos) X.env = (do
      let ov ← eval o X.env
      standAt apos.atName
      let (f, first) ← holding [ov] (getMethod ov m pl)
      callWith pos f first (backTo pos (starEach [] X.env)) (backToKw pos (keywordEach [] X.env))) := by rfl) :
    PE X (.Call (.Attribute o m apos) [] [] pos) (tMethXD C m sp dvs (WE W) ta tNil) := by
  obtain ⟨f, fd, ps, ds, hc, hm, F, b, d⟩ := c.ex
  refine ⟨fun pins s σ H Q I h => ?_⟩
  refine PySem.W.methodCall_KW (pl := pl) (thn (he.run pins s σ H _ I h) fun u s1 ⟨x, H1, I1, rx, a, dx, fs, ex, ea, l, q⟩ => ?_) ht
  subst ex
  obtain rfl : u = Value.ref a := rx
  refine getmeth_ok I1 ea hc hm l ?_
  exact PySem.W.callWith_K0 (first := [.ref a]) I1.kIn hm.kp (run_fnSD (us := [.ref a]) (vs := [.ref a]) F (hr.mono hk) b d (passAt tk σ) I1 (.cons rfl .nil) q)
end

/-! ### C.m(self, ..) -/
structure CalM (P : Program) (w : World) (K : PySem.W.Frag) (mg : Str → Option Value) (base : Heap) (k : Nat) (C : Addr) (m : Str) (sp : Sp) : Prop where
  ex : ∃ (f : Addr) (fd : FuncData) (ps : List Str), ClX.CRead K C (.type "type") ∧ PySem.W.findCls K (.ref C) (.type "type") m = some (.val (.ref f)) ∧ PySem.W.keepIn K (.ref f) = true ∧ FnOk P w K mg base (L2.CX P w) k f fd ps sp ∧ Binds K fd ps []
theorem calM_of {P : Program} {w : World} {K : PySem.W.Frag} {mg : Str → Option Value} {base : Heap} {C : Addr} {x m qual : Str} {st : Stmt} {N ps : List Str} {k : Nat} {sp : Sp} (D : ClsM K mg C x m qual st ps) (S : FnScope N ps (defScope st)) (len : ∀ vs H Q E, sp vs H Q E → vs.length = ps.length)
    (hbody : ∀ (f : Addr) (cdv : Value) (A : Around) (outer : List Env) (s : Shared) (H : Hp) (vs : List V) (Q : VK) (E : XK), Room k (A.deeper (envOfC qual (defScope st) s.heap.objs.size f cdv)) → sp vs H Q E →
      ∃ t, PSs (cxOf (L2.CX P w) P w K mg base N qual (defScope st) f cdv A outer s H E) (defBody st) t ∧ t { nx := fun _ H' => Q .non H', rt := Q } (start N vs) H) : CalM P w K mg base (k + 1) C m sp := by
  obtain ⟨f, fd, r, a, F, kp, b⟩ := D.ex
  exact ⟨f, fd, ps, r, a, kp, F.okX S len (hbody f), .all b⟩
def tClsM (C : Addr) (sp : Sp) (E : L2.St → XK) (ta : TE) (t : TA) : TE := fun σ H Q => ta σ H fun x H1 => x = .ref C ∧ t σ H1 fun vs H2 => sp vs H2 Q (E σ)
/-- o.m(..), o of one of a few classes -/
def tMethA (cs : Addr → Sp → Prop) (m : Str) (E : L2.St → XK) (ta : TE) (t : TA) : TE := fun σ H Q => ta σ H fun x H1 => ∃ C sp a dx fs, cs C sp ∧ x = .ref a ∧ H1 a = some (.ins C dx fs) ∧ fs.lookup m = none ∧ t σ H1 fun vs H2 => sp (x :: vs) H2 Q (E σ)
section
variable {X : Cx} {k j : Nat} {C : Addr} {m : Str} {sp : Sp} {cs : Addr → Sp → Prop} {pos apos : Pos} {e o : Expr} {es : List Expr} {ta : TE} {t : TA} {W : WX}
theorem pe_clm {pl : Sem Bool} (c : CalM X.prog X.w X.K X.mg X.base k C m sp) (tk : Takes X W) (hr : Room j X.A) (hk : k ≤ j) (he : PE X o ta) (ha : PA X (e :: es) t)
    (hst : starEach (e :: es) X.env = (false, eval e X.env) :: starEach es X.env := by rfl) (hpl : (backTo pos (starEach es X.env)).any (·.1) = false := by rfl)
    (ht : eval (.Call (.Attribute o m apos) (e :: es) [] pos) X.env = (do
      let ov ← eval o X.env
      standAt apos.atName
      let (f, first) ← holding [ov] (getMethod ov m pl)
      callWith pos f first (backTo pos (starEach (e :: es) X.env)) (backToKw pos (keywordEach [] X.env))) := by rfl) :
    PE X (.Call (.Attribute o m apos) (e :: es) [] pos) (tClsM C sp (WE W) ta t) := by
  obtain ⟨f, fd, ps, r, at_, kp, F, b⟩ := c.ex
  refine ⟨fun pins s σ H Q I h => ?_⟩
  refine PySem.W.methodCall_KW (pl := pl) (thn (he.run pins s σ H _ I h) fun u s1 ⟨x, H1, I1, rx, ex, q⟩ => ?_) ht
  subst ex
  obtain rfl : u = Value.ref C := rx
  refine PySem.W.method_cls I1.kIn r.ga (PySem.W.cls_value I1.kIn r.rd at_ rfl ?_)
  have I2 := I1.tok (s1.toks + 1)
  refine PySem.W.callWith_K (first := []) (h₀ := X.base) I2.ok.mod.kin kp (thn (ha.run pos pins _ σ H1 _ I2 q) fun us s2 ⟨vs, H2, I3, r2, q2⟩ => ⟨I3.kIn, ?_⟩) hst hpl
  exact run_fnS (us := us) (vs := vs) F (hr.mono hk) b (passAt tk σ) I3 r2 q2
theorem pe_mta {pl : Sem Bool} (c : ∀ C sp, cs C sp → MetR X.prog X.w X.K X.mg X.base k C m sp) (tk : Takes X W) (hr : Room j X.A) (hk : k ≤ j) (he : PE X o ta) (ha : PA X (e :: es) t)
    (hst : starEach (e :: es) X.env = (false, eval e X.env) :: starEach es X.env := by rfl) (hpl : (backTo pos (starEach es X.env)).any (·.1) = false := by rfl)
    (ht : eval (.Call (.Attribute o m apos) (e :: es) [] pos) X.env = (do
      let ov ← eval o X.env
      standAt apos.atName
      let (f, first) ← holding [ov] (getMethod ov m pl)
      callWith pos f first (backTo pos (starEach (e :: es) X.env)) (backToKw pos (keywordEach [] X.env))) := by rfl) :
    PE X (.Call (.Attribute o m apos) (e :: es) [] pos) (tMethA cs m (WE W) ta t) := by
  refine ⟨fun pins s σ H Q I h => ?_⟩
  refine PySem.W.methodCall_KW (pl := pl) (thn (he.run pins s σ H _ I h) fun u s1 ⟨x, H1, I1, rx, C, sp, a, dx, fs, hc0, ex, ea, l, q⟩ => ?_) ht
  obtain ⟨f, fd, ps, hc, hm, F, b⟩ := (c C sp hc0).ex
  subst ex
  obtain rfl : u = Value.ref a := rx
  refine getmeth_ok I1 ea hc hm l ?_
  refine PySem.W.callWith_K (first := [.ref a]) (h₀ := X.base) I.ok.mod.kin hm.kp (thn (ha.run pos pins s1 σ H1 _ I1 q) fun us s2 ⟨vs, H2, I2, r, q2⟩ => ⟨I2.kIn, ?_⟩) hst hpl
  exact run_fnS (us := .ref a :: us) (vs := .ref a :: vs) F (hr.mono hk) b (passAt tk σ) I2 (.cons rfl r) q2
end

/-! ### raising where nothing is handled, its context told; raising and calls while an exception is handled -/
section
variable {P : Program} {w : World} {K : PySem.W.Frag} {mg : Str → Option Value} {base : Heap}
theorem pmk_ownN {X : Cx} {C : Addr} {bmB : List Value} {B newId initId : String} {x m : Str} {j : Nat} {p p2 pos : Pos} (F : ExcBaseFacts B newId initId bmB) (hq : PySem.W.excIn X.K C bmB newId = true) (gC : X.mg x = some (.ref C)) (kC : PySem.W.keepIn X.K (.ref C) = true)
    (r : Raises X (.ref C)) (hg : Gl X x) (hdb : (x == ("__debug__" : Str)) = false := by decide) : L2N.PMk X (.Call (.Name x p) [.Constant (.str m) j p2] [] pos) (fun _ H Q => Q (.ref C) none H) := fun pins s σ H Q I h =>
  wpAny_Call_Name_kw (ld_glob I hg gC (PySem.W.callWith_K (h₀ := X.base) I.ok.mod.kin kC (thn ((pa_cons (pe_str (X := X) (x := m)) pa_nil).run pos pins s σ H (fun vs H1 => vs = [V.str m] ∧ H = H1) I ⟨rfl, rfl⟩) fun us s1 ⟨vs, H1, I1, r1, ev, eH⟩ => by
    subst ev eH
    refine ⟨I1.kIn, ?_⟩
    rcases r1 with _ | ⟨ru, rn⟩
    rcases rn with _ | _
    obtain ⟨_, _, _, _, _, _, _, _, _, _, _, _, _, _, _, _, mN, hC, hN, hni, T⟩ := exc_obj I1.kIn hq
    exact wpAny_call_exc_subT F T hC hN hni (fun h' e hm => L2N.mk_of I1 hm r h (I1.hok.gone hm.new)) (by show 1 ≤ sizeLine; rw [sizeLine_eq]; omega))) hdb)
/-- a method that may raise, cold; what it raises has no context -/
structure MetN (P : Program) (w : World) (K : PySem.W.Frag) (mg : Str → Option Value) (base : Heap) (k : Nat) (C : Addr) (m : Str) (sp : Sp) : Prop where
  ex : ∃ (f : Addr) (fd : FuncData) (ps : List Str), Cls K C ∧ Meth K C m f ∧ FnOk P w K mg base (L2N.CX P w) k f fd ps sp ∧ Binds K fd ps []
theorem metN_of {C : Addr} {m qual : Str} {st : Stmt} {N ps : List Str} {k : Nat} {sp : Sp} (c : Cls K C) (D : MetX K C m qual st ps) (S : FnScope N ps (defScope st)) (len : ∀ vs H Q E, sp vs H Q E → vs.length = ps.length)
    (hbody : ∀ (f : Addr) (cdv : Value) (A : Around) (outer : List Env) (s : Shared) (H : Hp) (vs : List V) (Q : VK) (E : XK), Room k (A.deeper (envOfC qual (defScope st) s.heap.objs.size f cdv)) → sp vs H Q E →
      ∃ t, PSs (cxOf (L2N.CX P w) P w K mg base N qual (defScope st) f cdv A outer s H E) (defBody st) t ∧ t { nx := fun _ H' => Q .non H', rt := Q } (start N vs) H) : MetN P w K mg base (k + 1) C m sp := by
  obtain ⟨f, fd, F, me, b⟩ := D.ex
  obtain ⟨oc, od, kV, doc, pm, an, cdv, ct, osl, rfl, lk, hcd⟩ := F.ex
  exact ⟨f, _, ps, c, me, fn_of lk hcd S len (hbody f cdv), .all b⟩
theorem MetN.weak {C : Addr} {m : Str} {k : Nat} {sp : Sp} (c : MetN P w K mg base k C m sp) : MetR P w K mg base k C m sp := by
  obtain ⟨f, fd, ps, hc, hm, F, b⟩ := c.ex
  refine ⟨f, fd, ps, hc, hm, ⟨F.len, fun A outer s H args us vs Q E hr e0 hb hv hsp => codeAny_mono (F.run A outer s H args us vs Q E hr e0 hb hv hsp) fun r s' q => ?_⟩, b⟩
  cases r with
  | ok fl =>
    cases fl <;> exact q
  | error e =>
    obtain ⟨a, B, H', cls, d, rfl, fl, more⟩ := q
    exact ⟨a, B, H', cls, d, rfl, L2H.flyingZ_imp (fun _ z => z.zc) fl, more⟩
theorem passAtN {X : Cx} {W : WX} (tk : L2N.Takes X W) (σ : L2.St) : PassesAt (L2N.CX X.prog X.w) X σ (WE W σ) := fun _ _ _ e s' I c => tk e s' (L2N.XE.of_call I (fun _ _ _ h => h) c)
section
variable {X : Cx} {k j : Nat} {C : Addr} {x m : Str} {sp : Sp} {p pos apos : Pos} {e o : Expr} {es : List Expr} {ta : TE} {t : TA} {W : WX}
theorem pe_mtn {pl : Sem Bool} (c : MetN X.prog X.w X.K X.mg X.base k C m sp) (tk : L2N.Takes X W) (hr : Room j X.A) (hk : k ≤ j) (he : PE X o ta) (ha : PA X (e :: es) t)
    (hst : starEach (e :: es) X.env = (false, eval e X.env) :: starEach es X.env := by rfl) (hpl : (backTo pos (starEach es X.env)).any (·.1) = false := by rfl)
    (ht : eval (.Call (.Attribute o m apos) (e :: es) [] pos) X.env = (do
      let ov ← eval o X.env
      standAt apos.atName
      let (f, first) ← holding [ov] (getMethod ov m pl)
      callWith pos f first (backTo pos (starEach (e :: es) X.env)) (backToKw pos (keywordEach [] X.env))) := by rfl) :
    PE X (.Call (.Attribute o m apos) (e :: es) [] pos) (tMethX C m sp (WE W) ta t) := by
  obtain ⟨f, fd, ps, hc, hm, F, b⟩ := c.ex
  refine ⟨fun pins s σ H Q I h => PySem.W.methodCall_KW (pl := pl) (thn (he.run pins s σ H _ I h) fun u s1 ⟨x, H1, I1, rx, a, dx, fs, ex, ea, l, q⟩ => ?_) ht⟩
  subst ex
  obtain rfl : u = Value.ref a := rx
  exact getmeth_ok I1 ea hc hm l (PySem.W.callWith_K (first := [.ref a]) (h₀ := X.base) I.ok.mod.kin hm.kp (thn (ha.run pos pins s1 σ H1 _ I1 q) fun us s2 ⟨vs, H2, I2, r, q2⟩ => ⟨I2.kIn, run_fnS (us := .ref a :: us) (vs := .ref a :: vs) F (hr.mono hk) b (passAtN tk σ) I2 (.cons rfl r) q2⟩) hst hpl)
theorem ps_raiseXN {j : Nat} {p2 p3 : Pos} (F : ExcF X.K C) (gC : X.mg x = some (.ref C)) (hc : X.calm = true) (tk : L2N.Takes X W) (hg : Gl X x) (hdb : (x == ("__debug__" : Str)) = false := by decide) :
    PS X (.Raise (some (.Call (.Name x p) [.Constant (.str m) j p2] [] p3)) none pos) (fun _ σ H => W (.ref C) none σ H) :=
  L2N.ps_raise hc tk (pmk_ownN PySem.F.excBase_ValueError F.xP gC F.kP (raises_own F.bP F.tP) hg hdb)
theorem ps_raiseXH {j : Nat} {p2 p3 : Pos} (F : ExcF X.K C) (gC : X.mg x = some (.ref C)) (hot : L2H.HotC X) (tk : Takes X W) (hg : Gl X x) (hdb : (x == ("__debug__" : Str)) = false := by decide) :
    PS X (.Raise (some (.Call (.Name x p) [.Constant (.str m) j p2] [] p3)) none pos) (fun _ σ H => W (.ref C) none σ H) :=
  L2H.ps_raiseH hot tk (pmk_ownN PySem.F.excBase_ValueError F.xP gC F.kP (raises_own F.bP F.tP) hg hdb)
theorem hot_tr {pn : List (Addr × Obj)} {xe : Value → Shared → Prop} (h : L2H.HotC X) (hq : ∀ q ∈ X.pn, q ∈ pn) : L2H.HotC (X.tr pn xe) := by
  obtain ⟨q, a, b⟩ := h
  exact ⟨q, a, hq q b⟩
theorem hot_suite {a : Addr} {oe : Obj} {cls : Value} {d : Option Addr} {pn : List (Addr × Obj)} (hz : L2N.Zn cls d oe) (hf : ∃ vs, oe.data = .fields vs) : L2H.HotC (X.suite a ((a, oe) :: pn)) := by
  obtain ⟨vs, e⟩ := hf
  exact ⟨(a, oe), ⟨rfl, vs, e, hz.2.2 vs e⟩, List.mem_cons_self⟩
end
/-- a method called while an exception is handled -/
structure MetH (P : Program) (w : World) (K : PySem.W.Frag) (mg : Str → Option Value) (base : Heap) (k : Nat) (C : Addr) (m : Str) (sp : Sp) : Prop where
  ex : ∃ (f : Addr) (fd : FuncData) (ps : List Str), Cls K C ∧ Meth K C m f ∧ L2H.FnH P w K mg base (L2.CX P w) k f fd ps sp ∧ Binds K fd ps []
theorem metH_of {C : Addr} {m qual : Str} {st : Stmt} {N ps : List Str} {k : Nat} {sp : Sp} (c : Cls K C) (D : MetX K C m qual st ps) (S : FnScope N ps (defScope st)) (len : ∀ vs H Q E, sp vs H Q E → vs.length = ps.length)
    (hbody : ∀ (f : Addr) (cdv : Value) (A : Around) (outer : List Env) (s : Shared) (H : Hp) (vs : List V) (Q : VK) (E : XK) (p : Addr × Obj), L2H.Hot1 A p → L2H.RoomH k (A.deeper (envOfC qual (defScope st) s.heap.objs.size f cdv)) → sp vs H Q E →
      ∃ t, PSs (L2H.cxH (L2.CX P w) P w K mg base N qual (defScope st) f cdv A outer s H E p) (defBody st) t ∧ t { nx := fun _ H' => Q .non H', rt := Q } (start N vs) H) : MetH P w K mg base (k + 1) C m sp := by
  obtain ⟨f, fd, F, me, b⟩ := D.ex
  obtain ⟨oc, od, kV, doc, pm, an, cdv, ct, osl, rfl, lk, hcd⟩ := F.ex
  exact ⟨f, _, ps, c, me, L2H.fn_ofH lk hcd S len (hbody f cdv), .all b⟩
/-- a def called while an exception is handled -/
structure CalH (P : Program) (w : World) (K : PySem.W.Frag) (mg : Str → Option Value) (base : Heap) (k : Nat) (x : Str) (sp : Sp) : Prop where
  ex : ∃ (f : Addr) (fd : FuncData) (ps : List Str), L2H.FnH P w K mg base L2.CX0 k f fd ps sp ∧ mg x = some (.ref f) ∧ PySem.W.keepIn K (.ref f) = true ∧ Binds K fd ps []
theorem calH_of {x : Str} {st : Stmt} {N ps : List Str} {k : Nat} {sp : Sp} (D : DefX K mg x st ps) (S : FnScope N ps (defScope st)) (len : ∀ vs H Q E, sp vs H Q E → vs.length = ps.length)
    (hbody : ∀ (f : Addr) (cdv : Value) (A : Around) (outer : List Env) (s : Shared) (H : Hp) (vs : List V) (Q : VK) (E : XK) (p : Addr × Obj), L2H.Hot1 A p → L2H.RoomH k (A.deeper (envOfC x (defScope st) s.heap.objs.size f cdv)) → sp vs H Q E →
      ∃ t, PSs (L2H.cxH L2.CX0 P w K mg base N x (defScope st) f cdv A outer s H E p).nox (defBody st) t ∧ t { nx := fun _ H' => Q .non H', rt := Q } (start N vs) H) : CalH P w K mg base (k + 1) x sp := by
  obtain ⟨f, fd, F, me, b⟩ := D.ex
  have kp := F.kp
  obtain ⟨oc, od, kV, doc, pm, an, cdv, ct, osl, rfl, lk, hcd⟩ := F.ex
  refine ⟨f, _, ps, L2H.fn_ofH lk hcd S len (fun A outer s H vs Q E p h1 hr hsp => ?_), me, kp, .all b⟩
  obtain ⟨t, g1, g2⟩ := hbody f cdv A outer s H vs Q E p h1 hr hsp
  exact ⟨t, g1.nox, g2⟩
section
variable {X : Cx} {k j : Nat} {C : Addr} {x m : Str} {sp : Sp} {p pos apos : Pos} {e o : Expr} {es : List Expr} {ta : TE} {t : TA} {W : WX}
theorem pe_mth {pl : Sem Bool} (c : MetH X.prog X.w X.K X.mg X.base k C m sp) (hot : L2H.HotC X) (tk : Takes X W) (hr : L2H.RoomH j X.A) (hk : k ≤ j) (he : PE X o ta) (ha : PA X (e :: es) t)
    (hst : starEach (e :: es) X.env = (false, eval e X.env) :: starEach es X.env := by rfl) (hpl : (backTo pos (starEach es X.env)).any (·.1) = false := by rfl)
    (ht : eval (.Call (.Attribute o m apos) (e :: es) [] pos) X.env = (do
      let ov ← eval o X.env
      standAt apos.atName
      let (f, first) ← holding [ov] (getMethod ov m pl)
      callWith pos f first (backTo pos (starEach (e :: es) X.env)) (backToKw pos (keywordEach [] X.env))) := by rfl) :
    PE X (.Call (.Attribute o m apos) (e :: es) [] pos) (L2H.tMethH C m sp (WE W) ta t) := by
  obtain ⟨f, fd, ps, hc, hm, F, b⟩ := c.ex
  exact L2H.pe_methH (pl := pl) he hc hm F (hr.mono hk) hot b (fun σ => passAt tk σ) ha hst hpl ht
theorem pe_cH (c : CalH X.prog X.w X.K X.mg X.base k x sp) (hot : L2H.HotC X) (hr : L2H.RoomH j X.A) (hk : k ≤ j) (hg : Gl X x) (ha : PA X (e :: es) t)
    (hdb : (x == ("__debug__" : Str)) = false := by decide) (he : starEach (e :: es) X.env = (false, eval e X.env) :: starEach es X.env := by rfl) (hpl : (backTo pos (starEach es X.env)).any (·.1) = false := by rfl) :
    PE X (.Call (.Name x p) (e :: es) [] pos) (tCallS sp (fun _ => L2.E0) t) := by
  obtain ⟨f, fd, ps, F, m, kp, b⟩ := c.ex
  exact L2H.pe_callH F (hr.mono hk) hot hg m kp b (fun σ _ _ _ _ _ _ z => False.elim z) ha hdb he hpl
end
end
theorem takesN0 {X : Cx} : L2N.Takes X (fun _ _ _ _ => False) := fun _ _ ⟨_, _, _, _, _, _, _, _, _, _, _, _, _, _, _, _, z⟩ => z.elim
theorem roomH_suite {X : Cx} {k : Nat} {a : Addr} {pn : List (Addr × Obj)} (h : Room k X.A) : L2H.RoomH k (X.suite a pn).A := ⟨h.dp, h.un⟩

section
variable {P : Program} {w : World} {K : PySem.W.Frag} {mg : Str → Option Value} {base : Heap}
theorem ps_imp {X : Cx} {st : Stmt} {t t' : TS} (h : PS X st t) (i : ∀ D σ H, t' D σ H → t D σ H) : PS X st t' := ⟨fun pins s σ H D I q => h.run pins s σ H D I (i D σ H q)⟩
section
variable {X : Cx} {C : Addr} {x : Str} {e : Expr} {es : List Expr} {te : TE} {ta : TA} {p p1 p2 pos : Pos}
/-- B.__init__(self, ..) of such a class B -/
theorem pe_beinit {pl : Sem Bool} (hg : Gl X x) (gC : X.mg x = some (.ref C)) (b1 : PySem.W.specialIn X.K (.ref C) "__getattribute__" = some (some (.builtin "type.__getattribute__"))) (b2 : PySem.W.readsIn X.K C (.type "type") = true)
    (b3 : PySem.W.findCls X.K (.ref C) (.type "type") "__init__" = some (.val (.builtin "ValueError.__init__"))) (ha : PA X (e :: es) ta) (hdb : (x == ("__debug__" : Str)) = false := by decide)
    (hc : eval (.Call (.Attribute (.Name x p1) "__init__" p2) (e :: es) [] pos) X.env = (do
      let ov ← eval (.Name x p1) X.env
      standAt p2.atName
      let (f, first) ← holding [ov] (getMethod ov "__init__" pl)
      callWith pos f first (backTo pos (starEach (e :: es) X.env)) (backToKw pos (keywordEach [] X.env))) := by rfl)
    (he : starEach (e :: es) X.env = (false, eval e X.env) :: starEach es X.env := by rfl) (hpl : (backTo pos (starEach es X.env)).any (·.1) = false := by rfl) :
    PE X (.Call (.Attribute (.Name x p1) "__init__" p2) (e :: es) [] pos) (tVeI X.K ta) := by
  refine ⟨fun pins s σ H Q I h => PySem.W.methodCall_KW (ld_glob I hg gC (PySem.W.method_cls I.kIn b1 (PySem.W.cls_value I.kIn b2 b3 (by decide +kernel) ?_)) hdb) hc⟩
  show wpAny _ _ (callWith pos (Value.builtin "ValueError.__init__") [] (backTo pos (starEach (e :: es) X.env)) []) _ _ _
  refine PyProof.Rows.callWith_method1 (thn (ha.run pos pins _ σ H _ (I.tok _) h) fun us s1 ⟨vs, H1, I1, r1, a, D, ws, ev, hl, T, ea, q⟩ => ?_) he hpl
  subst ev
  rcases r1 with _ | ⟨ra, rw'⟩
  obtain rfl := ra
  exact oinit_ok T I1 ea (by rw [← Paired.length rw', sizeLine_eq]; omega) fun s' J => ⟨.non, H1, J, rfl, q⟩
end
/-- C(e) cold, its context told -/
theorem pmk_oexN {X : Cx} {CX : CXT} {x : Str} {e : Expr} {es : List Expr} {ta : TA} {p pos : Pos} {C fI : Addr} {k : Nat} {fd : FuncData} {ps : List Str} {sp : Sp} (T : OexC X.K C) (iC : PySem.W.findIn X.K (.ref C) "__init__" = some (some (.ref fI))) (tI : PySem.W.typeIn X.K (.ref fI) = some (.type "function"))
    (F1 : FnOk X.prog X.w X.K X.mg X.base CX k fI fd ps sp) (hr : Room (k + 1) X.A) (hb : Binds X.K fd ps []) (hx : Passes CX X (fun _ _ _ => False)) (hg : Gl X x) (hm : X.mg x = some (.ref C)) (ha : PA X (e :: es) ta)
    (hdb : (x == ("__debug__" : Str)) = false := by decide) (he : starEach (e :: es) X.env = (false, eval e X.env) :: starEach es X.env := by rfl) (hpl : (backTo pos (starEach es X.env)).any (·.1) = false := by rfl) :
    L2N.PMk X (.Call (.Name x p) (e :: es) [] pos) (tMkO C sp [] ta) := by
  intro pins s σ H Q I h
  obtain ⟨_, _, _, _, bm, _, _, _, _, _, _, _, _, _, _, lC, rbm⟩ := T.cls
  refine wpAny_Call_Name_kw (ld_glob I hg hm (PySem.W.callWith_K (h₀ := X.base) I.ok.mod.kin T.kC (thn (ha.run pos pins s σ H _ I h) fun us s1 ⟨vs, H1, I1, r1, hz, q1⟩ => ⟨I1.kIn, ?_⟩) he hpl) hdb)
  obtain ⟨hp, g, dr, tk, os⟩ := s1
  have big : hp.objs.size ≤ hp.objs.size + 1 := Nat.le_succ _
  have hq := q1 (hp.objs.size + 1) (I1.hok.fresh big)
  rw [List.append_nil] at hq
  have keep : ∀ b o, hp.get? b = some o → ((hp.push (PySem.W.kdv_tup us)).push (PySem.HandSPX.excO C hp.objs.size)).get? b = some o := fun b o z => Heap.get?_push_of_some _ (Heap.get?_push_of_some _ z)
  have at1 : ((hp.push (PySem.W.kdv_tup us)).push (PySem.HandSPX.excO C hp.objs.size)).get? (hp.objs.size + 1) = some (PySem.HandSPX.excO C hp.objs.size) := by heap_get
  have I2 : Inv X pins σ (upd H1 (hp.objs.size + 1) (exo (hp.objs.size + 1) C none)) ⟨((hp.push (PySem.W.kdv_tup us)).push (PySem.HandSPX.excO C hp.objs.size)), g, dr, tk, os⟩ := I1.laid (t' := tk) (a := hp.objs.size + 1) (o := exo (hp.objs.size + 1) C none) (h' := ((hp.push (PySem.W.kdv_tup us)).push (PySem.HandSPX.excO C hp.objs.size))) keep big (exo_ok at1)
  have rv2 : Vals (V.ref (hp.objs.size + 1) :: vs) (Value.ref (hp.objs.size + 1) :: us) := .cons rfl r1
  have len2 : (Value.ref (hp.objs.size + 1) :: us ++ []).length = ps.length := by
    rw [List.append_nil, ← F1.len _ _ _ _ hq]
    exact rv2.length.symm
  have few : us.length ≤ sizeLine := by
    rw [← Paired.length r1, sizeLine_eq]
    omega
  have bnd := hb _ (Value.ref (hp.objs.size + 1) :: us) I2.kIn len2
  rw [List.append_nil] at bnd
  refine wpAny_call (PySem.HandSPX.call_own F.excBase_ValueError (fun Y => PySem.HandSPX.refsVE_contains Y bm rbm) (I1.kIn _ _ lC) (PySem.W.looks_findIn I1.kIn iC) (fun self => PySem.W.bind_fn I1.kIn self tI) few
    (codeAny_mono (F1.run _ X.stack _ _ ⟨Value.ref (hp.objs.size + 1) :: us, []⟩ (Value.ref (hp.objs.size + 1) :: us) _ _ (fun _ _ _ => False) (hr.make C us []) (I2.env0.make C us []) bnd rv2 hq) fun r sE done => ?_))
  rcases r with er | fl
  · exact hx pins σ _ _ er sE I2 done
  cases fl with
  | next => exact False.elim done
  | brk => exact False.elim done
  | cont => exact False.elim done
  | ret u =>
    obtain ⟨v, H2, os2, bare2, un2, hok2, rv, ev, d, fs, ea, ed, hd1, q2⟩ := done
    subst ev
    obtain ⟨h2, g2, d2, t2, os'⟩ := sE
    obtain ⟨t0, G, J, kG, ge, hoe, na⟩ := mk_end0 (d2 := d2) (t2 := t2) I1 big keep un2 hok2 os2 bare2 ea ed hd1
    exact ⟨rv, hp.objs.size + 1, _, _, ⟨G, g2, d2, t2, os'⟩, _, .ref C, some d, rfl, J, kG, ge, hoe, ⟨rfl, rfl, fun vs hv => by cases hv; rfl⟩, rfl, rfl, na, rfl, bare2, raises_own T.exC T.tyC, q2⟩
/-! ### the error's __init__, and raising it -/
def spExI (C : Addr) (fld : Str) : Sp := fun vs H Q _ => ∃ (a : Addr) (i : Int), vs = [.ref a, .int i] ∧ 0 ≤ i ∧ i < 1000000 ∧ H a = some (exo a C none) ∧ ∀ dx, H dx = none → dx ≠ a → Q .non (upd (upd H dx (exd dx [(fld, .int i)])) a (exo a C (some dx)))
/-- what raise C(e) asks -/
def tRzI (W : WX) (C : Addr) (fld : Str) (te : TE) : TS := fun _ σ H => te σ H fun v H1 => ∃ i : Int, v = .int i ∧ 0 ≤ i ∧ i < 1000000 ∧ ∀ dx, H1 dx = none → W (.ref C) (some dx) σ (upd H1 dx (.xd [(fld, .int i)]))
theorem rz_of {W : WX} {C : Addr} {fld : Str} {te : TE} (hte : ∀ σ H (Q Q' : VK), (∀ v H', Q v H' → Q' v H') → te σ H Q → te σ H Q') {D : Ends} {σ : L2.St} {H : Hp} (h : tRzI W C fld te D σ H) : tMkO C (spExI C fld) [] (tCons te tNil) σ H (fun cls d H' => W cls d σ H') := by
  refine hte σ H _ _ (fun v H1 q => ?_) h
  obtain ⟨i, rfl, h0, h1, q⟩ := q
  refine ⟨by show 1 ≤ 1000; decide, fun a na => ⟨a, i, rfl, h0, h1, upd_same, fun dx ndx hne => ?_⟩⟩
  have nd1 : H1 dx = none := by rwa [upd_ne hne] at ndx
  refine ⟨rfl, dx, _, upd_same, by rw [upd_ne hne]; exact upd_same, nd1, ?_⟩
  have e : upd (del (upd (upd (upd H1 a (exo a C none)) dx (exd dx [(fld, .int i)])) a (exo a C (some dx))) a) dx (.xd [(fld, .int i)]) = upd H1 dx (.xd [(fld, .int i)]) := by
    funext b
    by_cases c1 : b = dx
    · rw [c1, upd_same, upd_same]
    · rw [upd_ne c1, upd_ne c1]
      by_cases c2 : b = a
      · rw [c2, del_same, na]
      · rw [del_ne c2, upd_ne c2, upd_ne c1, upd_ne c2]
  rw [e]
  exact q dx nd1
section
variable {X : Cx} {x bx fld qual : Str} {st : Stmt} {ps : List Str} {C B : Addr} {e : Expr} {te : TE} {p p2 pos pos' : Pos} {W : WX}
theorem ps_raiseIN {j : Nat} (EI : ExcI X.K X.mg x bx fld qual st ps C B) (F : ∀ fI fd, L2.Fun X.K "__init__" qual st fI fd → FnOk X.prog X.w X.K X.mg X.base L2.CX0 1 fI fd ps (spExI C fld)) (hr : Room j X.A) (hj : 2 ≤ j) (hcl : X.calm = true) (tk : L2N.Takes X W) (hg : Gl X x) (he : PE X e te)
    (hte : ∀ σ H (Q Q' : VK), (∀ v H', Q v H' → Q' v H') → te σ H Q → te σ H Q') (hdb : (x == ("__debug__" : Str)) = false := by decide) (hst : starEach [e] X.env = (false, eval e X.env) :: starEach [] X.env := by rfl) (hpl : (backTo pos (starEach [] X.env)).any (·.1) = false := by rfl) :
    PS X (.Raise (some (.Call (.Name x p) [e] [] pos)) none pos') (tRzI W C fld te) := by
  obtain ⟨fI, fd, Fu, iC, tI, b⟩ := EI.ini
  exact ps_imp (L2N.ps_raise hcl tk (pmk_oexN EI.T iC tI (F fI fd Fu) (hr.mono hj) (.all b) (fun _ _ _ _ _ _ _ z => z.elim) hg EI.gC (pa_cons he pa_nil hst) hdb hst hpl)) fun D σ H q => rz_of hte q
theorem ps_raiseIH {j : Nat} (EI : ExcI X.K X.mg x bx fld qual st ps C B) (F : ∀ fI fd, L2.Fun X.K "__init__" qual st fI fd → L2H.FnH X.prog X.w X.K X.mg X.base L2.CX0 1 fI fd ps (spExI C fld)) (hr : L2H.RoomH j X.A) (hj : 2 ≤ j) (hot : L2H.HotC X) (tk : Takes X W) (hg : Gl X x) (he : PE X e te)
    (hte : ∀ σ H (Q Q' : VK), (∀ v H', Q v H' → Q' v H') → te σ H Q → te σ H Q') (hdb : (x == ("__debug__" : Str)) = false := by decide) (hst : starEach [e] X.env = (false, eval e X.env) :: starEach [] X.env := by rfl) (hpl : (backTo pos (starEach [] X.env)).any (·.1) = false := by rfl) :
    PS X (.Raise (some (.Call (.Name x p) [e] [] pos)) none pos') (tRzI W C fld te) := by
  obtain ⟨fI, fd, Fu, iC, tI, b⟩ := EI.ini
  exact ps_imp (L2H.ps_raiseH hot tk (L2H.pmk5_oexH EI.T iC tI (F fI fd Fu) (hr.mono hj) hot (.all b) (fun _ _ _ _ _ _ _ z => z.elim) hg EI.gC (pa_cons he pa_nil hst) hdb hst hpl).pmk) fun D σ H q => rz_of hte q
end
end

/-- a def that may raise, cold; what it raises has no context -/
structure CalN (P : Program) (w : World) (K : PySem.W.Frag) (mg : Str → Option Value) (base : Heap) (k : Nat) (x : Str) (sp : Sp) : Prop where
  ex : ∃ (f : Addr) (fd : FuncData) (ps : List Str), FnOk P w K mg base (L2N.CX P w) k f fd ps sp ∧ mg x = some (.ref f) ∧ PySem.W.keepIn K (.ref f) = true ∧ Binds K fd ps []
theorem calN_of {P : Program} {w : World} {K : PySem.W.Frag} {mg : Str → Option Value} {base : Heap} {x : Str} {st : Stmt} {N ps : List Str} {k : Nat} {sp : Sp} (D : DefX K mg x st ps) (S : FnScope N ps (defScope st)) (len : ∀ vs H Q E, sp vs H Q E → vs.length = ps.length)
    (hbody : ∀ (f : Addr) (cdv : Value) (A : Around) (outer : List Env) (s : Shared) (H : Hp) (vs : List V) (Q : VK) (E : XK), Room k (A.deeper (envOfC x (defScope st) s.heap.objs.size f cdv)) → sp vs H Q E →
      ∃ t, PSs (cxOf (L2N.CX P w) P w K mg base N x (defScope st) f cdv A outer s H E) (defBody st) t ∧ t { nx := fun _ H' => Q .non H', rt := Q } (start N vs) H) : CalN P w K mg base (k + 1) x sp := by
  obtain ⟨f, fd, F, m, b⟩ := D.ex
  have kp := F.kp
  obtain ⟨oc, od, kV, doc, pm, an, cdv, ct, osl, rfl, lk, hcd⟩ := F.ex
  exact ⟨f, _, ps, fn_of lk hcd S len (hbody f cdv), m, kp, .all b⟩
theorem CalN.weak {P : Program} {w : World} {K : PySem.W.Frag} {mg : Str → Option Value} {base : Heap} {x : Str} {k : Nat} {sp : Sp} (c : CalN P w K mg base k x sp) : CalX P w K mg base k x sp := by
  obtain ⟨f, fd, ps, F, m, kp, b⟩ := c.ex
  refine ⟨f, fd, ps, ⟨F.len, fun A outer s H args us vs Q E hr e0 hb hv hsp => codeAny_mono (F.run A outer s H args us vs Q E hr e0 hb hv hsp) fun r s' q => ?_⟩, m, kp, b⟩
  cases r with
  | ok fl =>
    cases fl <;> exact q
  | error e =>
    obtain ⟨a, B, H', cls, d, rfl, fl, more⟩ := q
    exact ⟨a, B, H', cls, d, rfl, L2H.flyingZ_imp (fun _ z => z.zc) fl, more⟩
/-- x(..) of such a def, within what takes W -/
theorem pe_cn {X : Cx} {k j : Nat} {x : Str} {sp : Sp} {W : WX} {t : TA} {e : Expr} {es : List Expr} {p pos : Pos} (c : CalN X.prog X.w X.K X.mg X.base k x sp) (tk : L2N.Takes X W) (hr : Room j X.A) (hk : k ≤ j) (hg : Gl X x) (ha : PA X (e :: es) t)
    (hdb : (x == ("__debug__" : Str)) = false := by decide) (he : starEach (e :: es) X.env = (false, eval e X.env) :: starEach es X.env := by rfl) (hpl : (backTo pos (starEach es X.env)).any (·.1) = false := by rfl) :
    PE X (.Call (.Name x p) (e :: es) [] pos) (tCallS sp (WE W) t) := by
  obtain ⟨f, fd, ps, F, m, kp, b⟩ := c.ex
  exact pe_callS F (hr.mono hk) hg m kp b (fun σ => passAtN tk σ) ha hdb he hpl

/-! ### try .. except X: (a suite that may raise) .. else -/
section
variable {X : Cx} {x : Str} {c : Value} {body more orelse : List Stmt} {st0 : Stmt} {np q0 q1 : Pos} {tb : WX → TS} {ts : Addr → Value → Option Addr → TS} {Wo : WX} {u : TS}
theorem ps_try_onlyXE (ho : PSs X orelse u) (hs : X.stack = X.env :: X.outer) (hf : X.env.frame = some X.env.locals) (hc : Names X x c) (hpa : ∀ hd : Option Value, PassesOwnAt (model X.prog X.w) (X.A.mark hd) X.A X.env X.xe) (tk : Takes X Wo)
    (hb : ∀ (W : WX) (pn : List (Addr × Obj)) (xe : Value → Shared → Prop), L2N.Takes (X.tr pn xe) W → PassesOwn (model X.prog X.w) X.A X.env xe → PSs (X.tr pn xe) body (tb W))
    (hsu : ∀ (a : Addr) (oe : Obj) (cls : Value) (d : Option Addr) (pn : List (Addr × Obj)), L2N.Zn cls d oe → (∃ vs, oe.data = .fields vs) → Takes (L2H.suiteX X a ((a, oe) :: pn)) Wo → L2H.HotC (L2H.suiteX X a ((a, oe) :: pn)) →
      PSs (L2H.suiteX X a ((a, oe) :: pn)) (st0 :: more) (ts a cls d)) :
    PS X (.Try body [.ExceptHandler (some (.Name x np)) none (st0 :: more) q1] orelse [] q0) (fun D σ H => tb (wOnly X.K c ts Wo D) { D with nx := u D } σ H) := by
  refine ⟨fun pins s0 σ H D I0 h0 => wpAny_Try_except ?_⟩
  have ok := I0.ok
  have frE : X.A.frames = some (X.env :: X.outer) := ok.frames.trans (congrArg some hs)
  let look : Value → Shared → Prop := fun e s₁ => wpAny (model X.prog X.w) X.A (noteFrame e X.env) (fun _ s₂ =>
    wpAny (model X.prog X.w) X.A (setFlight e none) (fun _ s₃ => wpAny (model X.prog X.w) X.A (handleBy e X.env
      [.ExceptHandler (some (.Name x np)) none (st0 :: more) q1]) (SP X pins D) X.xe s₃) X.xe s₂) X.xe s₁
  have hook : L2N.Takes (X.tr (X.pn ++ pins) look) (wOnly X.K c ts Wo D) := by
    rintro u1 sE ⟨a, B, sI, pins', σ1, H1, cls, d, rfl, J', nb, up, sky, na, os, ag, b, hbb, yes, no⟩
    have J : Inv X pins σ1 H1 sI := J'.ofTry ok
    have sky1 : Sky B (X.env :: X.outer) a (L2N.Zn cls d) X.env.locals sE.heap := hs ▸ sky
    refine L2N.Sky.land L2N.Zn.steady frE hf sky1 fun hA flA upA => ?_
    have JA : Inv X pins σ1 H1 { sE with heap := hA } := J.landed nb flA.1 (up.trans upA) os ag
    obtain ⟨oA, vA, gA, zA, dA⟩ := flA.there
    have offFrames : a ∉ frs (X.env :: X.outer) := fun hm => by
      obtain ⟨_, o', e', hnf⟩ := flA.2.2.1.mem hm
      cases gA.symm.trans e'
      exact hnf _ dA
    have offLoc : a ≠ X.env.locals := fun z => offFrames (List.mem_filterMap.mpr ⟨X.env, List.mem_cons_self, z ▸ hf⟩)
    have offFs : a ∉ X.fs := fun hm => (List.mem_filterMap.mp hm).elim fun e1 ⟨p1, p2⟩ => offFrames (List.mem_filterMap.mpr ⟨e1, List.mem_cons_of_mem _ p1, p2⟩)
    have SA := JA.suite gA dA na offLoc offFs
    have lookT : PySem.W.Looks (model X.prog X.w) hA (typeOf (.ref a)) cls := fun _ _ _ _ kk qq => wpAny_typeOf_ref (kk _ _ gA) (zA.1.symm ▸ qq)
    have exM := PySem.W.exm_one (M := model X.prog X.w) JA.kIn lookT hbb
    have named : ∀ {Q : Value → Shared → Prop} {E : Value → Shared → Prop}, Q c { sE with heap := hA } →
        wpAny (model X.prog X.w) (X.A.mark (some (.ref a))) (eval (.Name x np) X.env) Q E { sE with heap := hA } := fun qq => by
      rcases hc with ⟨g1, g2, g3 | ⟨g3, g4, g5⟩⟩
      · exact ld_glob (X := X.suite a ((a, oA) :: (X.pn ++ pins))) SA g1 g3 qq g2
      · exact ld_blt (X := X.suite a ((a, oA) :: (X.pn ++ pins))) SA g1 g3 g4 qq g5 g2
    refine wpAny_handleBy_cons (codeAny_handlers_test (named (exM.here ?_))) (fun z => nomatch z)
    cases b with
    | true =>
      refine codeAny_handlers_suite (HandSPX.lands_againZ flA fun hB flB upB => ?_)
      have JB : Inv X pins σ1 H1 { sE with heap := hB } := J.landed nb flB.1 ((up.trans upA).trans upB) os ag
      obtain ⟨oB, vB, gB, zB, dB⟩ := flB.there
      have tkS : Takes (L2H.suiteX X a ((a, oB) :: (X.pn ++ pins))) Wo := fun u2 s2 ⟨a2, B2, sI2, _, σ2, H2, cls2, d2, e2, I2, more2⟩ => tk u2 s2 ⟨a2, B2, sI2, pins, σ2, H2, cls2, d2, e2, L2H.unsuiteX I2 ok, more2⟩
      have hot : L2H.HotC (L2H.suiteX X a ((a, oB) :: (X.pn ++ pins))) := ⟨(a, oB), ⟨rfl, vB, dB, zB.2.2 vB dB⟩, List.mem_cons_self⟩
      refine wpAny_mono ((hsu a oB cls d (X.pn ++ pins) zB ⟨_, dB⟩ tkS hot).run [] _ _ H1 _ (L2H.suiteX_of (JB.suite gB dB na offLoc offFs)) (yes rfl a na)) (fun fl sF hh => ?_) (fun e6 s6 z => hpa (some (.ref a)) e6 s6 z)
      cases fl with
      | next => exact hh.elim fun _ ⟨_, T, qq⟩ => ⟨_, _, L2H.unsuiteX T ok, qq⟩
      | brk => exact hh.elim fun _ ⟨_, T, qq⟩ => ⟨_, _, L2H.unsuiteX T ok, qq⟩
      | cont => exact hh.elim fun _ ⟨_, T, qq⟩ => ⟨_, _, L2H.unsuiteX T ok, qq⟩
      | ret u => exact hh.elim fun _ ⟨_, _, T, rr, qq⟩ => ⟨_, _, _, L2H.unsuiteX T ok, rr, qq⟩
    | false =>
      have flZ : HandSPX.FlyingZ B (X.env :: X.outer) a (Zc cls d) hA := L2H.flyingZ_imp (fun _ z => z.zc) flA
      obtain ⟨_, _, _, oe, vs, tbk, _, _, he, _, hd, h1, _⟩ := id flZ
      show wpAny _ X.A (handleBy (.ref a) X.env []) _ _ _
      refine wpAny_handleBy_nil ?_
      have away : wpAny (model X.prog X.w) X.A (setFlight (.ref a) X.env.frame) (fun _ sG => wpAny (model X.prog X.w) X.A (throw (.ref a) : Sem Flow) (SP X pins D) X.xe sG) X.xe { sE with heap := hA } := by
        rw [hf]
        exact HandSPX.setFlight_upZ flZ fun hB heldB upB => wpAny_throw (tk _ _ ⟨a, B, sI, pins, σ1, H1, cls, d, rfl, J, nb, (up.trans upA).trans upB, .inr (.inr (hs.symm ▸ heldB)), na, os, ag, no rfl⟩)
      unfold PySem.passOn
      refine wpAny_bind (wpAny_field he hd h1 ?_)
      rw [if_neg (show ¬ ((Value.ref tbk == Value.none) = true) by simp)]
      first
        | exact wpAny_bind (wpAny_pure (wpAny_bind away))
        | exact wpAny_bind away
  refine wpAny_mono ((hb _ _ look hook PassesOwn.looking).run [] s0 σ H { D with nx := u D } (I0.toTry _) h0) (fun fl sE hh => ?_) (fun e sE he => he)
  cases fl with
  | next => exact hh.elim fun _ ⟨_, T, qq⟩ => ho.run pins sE _ _ D (T.ofTry ok) qq
  | brk => exact hh.elim fun _ ⟨_, T, qq⟩ => ⟨_, _, T.ofTry ok, qq⟩
  | cont => exact hh.elim fun _ ⟨_, T, qq⟩ => ⟨_, _, T.ofTry ok, qq⟩
  | ret u => exact hh.elim fun _ ⟨_, _, T, rr, qq⟩ => ⟨_, _, _, T.ofTry ok, rr, qq⟩
end

/-! ### numbers and words drawn -/
section
variable {P : Program} {w : World} {K : PySem.W.Frag} {mg : Str → Option Value} {base : Heap}
def spDraw : Sp := fun vs H Q _ => ∃ (c k m : Int), vs = [.int c, .int k, .int m] ∧ 0 ≤ k ∧ k < 1000000 ∧ 0 < m ∧ ∀ (z : Int) (H' : Hp), 0 ≤ z → z < m → Same H H' → Q (.int z) H'
theorem prime_pos : ∀ i : Nat, i < 16 → ∃ z : Int, 0 < z ∧ ([.int 1000003, .int 1000033, .int 1000037, .int 1000039, .int 1000081, .int 1000099, .int 1000117, .int 1000121, .int 1000133, .int 1000151, .int 1000159, .int 1000171, .int 1000183, .int 1000187, .int 1000193, .int 1000199] : List V)[i]? = some (V.int z)
  | 0, _ => ⟨_, by decide, rfl⟩
  | 1, _ => ⟨_, by decide, rfl⟩
  | 2, _ => ⟨_, by decide, rfl⟩
  | 3, _ => ⟨_, by decide, rfl⟩
  | 4, _ => ⟨_, by decide, rfl⟩
  | 5, _ => ⟨_, by decide, rfl⟩
  | 6, _ => ⟨_, by decide, rfl⟩
  | 7, _ => ⟨_, by decide, rfl⟩
  | 8, _ => ⟨_, by decide, rfl⟩
  | 9, _ => ⟨_, by decide, rfl⟩
  | 10, _ => ⟨_, by decide, rfl⟩
  | 11, _ => ⟨_, by decide, rfl⟩
  | 12, _ => ⟨_, by decide, rfl⟩
  | 13, _ => ⟨_, by decide, rfl⟩
  | 14, _ => ⟨_, by decide, rfl⟩
  | 15, _ => ⟨_, by decide, rfl⟩
  | n + 16, h => absurd h (by omega)
theorem ok_draw {cc : Addr} (T : Txt K mg cc) : Cal P w K mg base 1 "_law_draw" spDraw [] := by
  have Z := T.Z
  refine cal_of T.d__law_draw sc__law_draw (fun vs H Q E h => ?_) (fun f cdv A outer s H vs Q E hr h => ?_)
  · obtain ⟨c, k, m, rfl, _⟩ := h
    rfl
  obtain ⟨c, k, m, rfl, k0, k1, m0, q⟩ := h
  refine ⟨_, (pss_cons (ps_set (i := 3) sc__law_draw.nd rfl (Or.inl rfl) (pe_tup (pa_cons pe_int (pa_cons pe_int (pa_cons pe_int (pa_cons pe_int (pa_cons pe_int (pa_cons pe_int (pa_cons pe_int (pa_cons pe_int (pa_cons pe_int (pa_cons pe_int (pa_cons pe_int (pa_cons pe_int (pa_cons pe_int (pa_cons pe_int (pa_cons pe_int (pa_cons pe_int pa_nil))))))))))))))))))
  (pss_one (ps_ret (pe_op op_mod (pe_op op_mod (pe_op op_add (pe_op op_mul (pv 0) pe_int) (pe_op op_mul (pv 1) pe_int)) (pe_ix ix_tup (pv 3) (pe_op op_mod (pv 1) pe_int) (fun _ _ => rfl))) (pv 2))))), ?_⟩
  refine ⟨by show 16 ≤ sizeLine; decide, fun p hp => ?_⟩
  obtain ⟨i, hi⟩ := Int.eq_ofNat_of_zero_le (Int.emod_nonneg k (show (16 : Int) ≠ 0 by decide))
  have hi16 : i < 16 := by
    have := Int.emod_lt_of_pos k (show (0 : Int) < 16 by decide)
    omega
  obtain ⟨z, hz, hzi⟩ := prime_pos i hi16
  refine ⟨_, rfl, _, _, rfl, rfl, .inr ⟨by decide, by decide⟩, _, rfl, _, _, rfl, rfl, .inr ⟨by decide, by decide⟩, _, _, rfl, rfl, _, rfl, _, rfl, _, 16, rfl, rfl, (by show (0 : Int) < 16; decide), p, _, _, V.int z, rfl, rfl, SqT.of upd_same, by rw [hi]; exact atI_nat hzi, ?_⟩
  refine ⟨_, _, rfl, rfl, hz, _, rfl, _, _, rfl, rfl, m0, ?_⟩
  exact q _ _ (Int.emod_nonneg _ (by omega)) (Int.emod_lt_of_pos _ m0) (same_upd hp)
end

/-! ### heaps where one instance may change -/
structure ExtO (p : Addr) (H H' : Hp) : Prop where
  keep : ∀ a o, a ≠ p → H a = some o → (∀ kvs, o ≠ .dT kvs) → H' a = some o
  grow : ∀ a kvs, H a = some (.dT kvs) → ∃ more, H' a = some (.dT (kvs ++ more))
  gr : Gr H H'
theorem Ext.o {p : Addr} {H H' : Hp} (e : Ext H H') : ExtO p H H' := ⟨fun a o _ h n => e.keep a o h n, e.grow, e.gr⟩
theorem ExtO.trans {p : Addr} {H H1 H2 : Hp} (a : ExtO p H H1) (b : ExtO p H1 H2) : ExtO p H H2 := by
  refine ⟨fun x o q e n => b.keep x o q (a.keep x o q e n) n, fun x kvs e => ?_, a.gr.trans b.gr⟩
  obtain ⟨m1, e1⟩ := a.grow x kvs e
  obtain ⟨m2, e2⟩ := b.grow x _ e1
  exact ⟨m1 ++ m2, by rw [e2, List.append_assoc]⟩
theorem ExtO.put {p C dx : Addr} {H : Hp} {fs : List (Str × V)} {o : HO} (h : H p = some (.ins C dx fs)) : ExtO p H (upd H p o) := by
  refine ⟨fun a u q e _ => by rw [upd_ne q]; exact e, fun a kvs e => ⟨[], ?_⟩, (Kp.ins h).gr⟩
  rw [List.append_nil, upd_ne]
  · exact e
  · rintro rfl
    rw [h] at e
    cases e
theorem ExtO.lst {p a : Addr} {H H' : Hp} {xs : List V} (e : ExtO p H H') (q : a ≠ p) (h : H a = some (.lst xs)) : H' a = some (.lst xs) := e.keep _ _ q h fun _ z => nomatch z
theorem ExtO.ins {p a C dx : Addr} {H H' : Hp} {fs : List (Str × V)} (e : ExtO p H H') (q : a ≠ p) (h : H a = some (.ins C dx fs)) : H' a = some (.ins C dx fs) := e.keep _ _ q h fun _ z => nomatch z
/-- the instance was made behind H -/
theorem ExtO.ext {p : Addr} {H H1 H' : Hp} (e : ExtO p H1 H') (x : Ext H H1) (hp : H p = none) : Ext H H' := by
  refine ⟨fun a o h n => e.keep a o (ne_of_none h hp) (x.keep a o h n) n, fun a kvs h => ?_⟩
  obtain ⟨m1, e1⟩ := x.grow a kvs h
  obtain ⟨m2, e2⟩ := e.grow a _ e1
  exact ⟨m1 ++ m2, by rw [e2, List.append_assoc]⟩

/-! ### sorted(pairs of an int and a text), by ints that tell them apart -/
namespace KvS
open PySem PyProof.Rows Srt SrtO
section
variable {prog : Program} {w : World} {A : Around} {s : Shared} {E : Value → Shared → Prop}
def IsKv (h : Heap) (v : Value) (x : Int) (y : Str) : Prop := ∃ a o t u n, v = .ref a ∧ h.get? a = some o ∧ o.cls = .type "tuple" ∧ o.data = .seq #[.int x t, .str y u] n
theorem IsKv.keeps {h h' : Heap} {v : Value} {x : Int} {y : Str} (p : IsKv h v x y) (k : ∀ b o, h.get? b = some o → o.cls = .type "tuple" → h'.get? b = some o) : IsKv h' v x y := by
  obtain ⟨a, o, t, u, n, e, ho, hc, hd⟩ := p
  exact ⟨a, o, t, u, n, e, k _ _ ho hc, hc, hd⟩
theorem kv_cmp {vs : List Value} {k : Value → Int} {f : Value → Str} (hp : ∀ v ∈ vs, IsKv s.heap v (k v) (f v)) (hi : ∀ v ∈ vs, ∀ u ∈ vs, k v = k u → f v = f u) : Cmp prog w A s (tuples' true) (fun p => p.1 ∈ vs) (lt2 fun v u => decide (k v < k u)) := by
  intro p q hm hm'
  have h1 := hp _ hm
  have h2 := hp _ hm'
  have h3 := hi _ hm _ hm'
  show wpAny (model prog w) A (keyLt' (tuples' true) p.1 q.1) (fun r s' => s' = s ∧ r = decide (k p.1 < k q.1)) (fun _ _ => False) s
  generalize k p.1 = x at h1 h3 ⊢
  generalize f p.1 = y at h1 h3 ⊢
  generalize k q.1 = x' at h2 h3 ⊢
  generalize f q.1 = y' at h2 h3 ⊢
  obtain ⟨a, o, t, u, n, e, ho, hc, hd⟩ := h1
  obtain ⟨a', o', t', u', n', e', ho', hc', hd'⟩ := h2
  rw [e, e']
  refine PySem.W.kat_lt ho hd ho' hd' ?_
  show PySem.W.KatLex prog w A true (decide (2 < 2)) _ [(.int x t, .int x' t'), (.str y u, .str y' u')] 0 s
  refine PySem.W.kat_cons (SeqAt.EqAt.int_int x t x' t' prog w _ _ ?_)
  refine PySem.W.kat_go (fun e1 => ?_) (fun e1 => ?_)
  · have ex : x = x' := by simpa using e1
    refine PySem.W.kat_yes (PySem.W.kat_cons (SeqAt.EqAt.str_str y u y' u' prog w _ _ ?_))
    refine PySem.W.kat_go (fun e2 => ?_) (fun e2 => ?_)
    · exact PySem.W.kat_yes (PySem.W.kat_nil ⟨rfl, (decide_eq_false (by rw [ex]; exact Int.lt_irrefl _)).symm⟩)
    · rw [h3 ex] at e2
      simp at e2
  · exact PySem.W.kat_no (oneLt_int ⟨rfl, rfl⟩)
theorem firsts_kv {h : Heap} : ∀ {vs : List Value}, (∀ v ∈ vs, ∃ x y, IsKv h v x y) → ∃ fs : List Value, PySem.W.KatTups h vs fs ∧ fs.length = vs.length ∧ ∀ f ∈ fs, ∃ x t, f = Value.int x t
  | [], _ => ⟨[], PySem.W.KatTups.nil, rfl, fun _ hm => by simp at hm⟩
  | v :: vs, hp => by
    obtain ⟨fs, h1, h2, h3⟩ := firsts_kv (vs := vs) fun v' hm => hp v' (List.mem_cons_of_mem _ hm)
    obtain ⟨x, y, a, o, t, u, n, e, ho, hc, hd⟩ := hp v (List.mem_cons_self ..)
    subst e
    refine ⟨.int x t :: fs, PySem.W.KatTups.cons ho hc hd rfl h1, by rw [List.length_cons, List.length_cons, h2], fun f hm => ?_⟩
    rcases List.mem_cons.mp hm with rfl | hm
    · exact ⟨x, t, rfl⟩
    · exact h3 f hm
theorem kv_sortable {a : Addr} {vs : List Value} {k : Value → Int} {f : Value → Str} (h0 : 0 < vs.length) (hp : ∀ v ∈ vs, IsKv s.heap v (k v) (f v)) (hi : ∀ v ∈ vs, ∀ u ∈ vs, k v = k u → f v = f u) (ha : ∀ o, s.heap.get? a = some o → o.cls ≠ .type "tuple") : SortableO prog w A s a vs fun v u => decide (k v < k u) := by
  intro h' keep
  have hp' : ∀ v ∈ vs, IsKv h' v (k v) (f v) := fun v hm => (hp v hm).keeps fun b o e c => keep b o (fun z => by subst z; exact ha o e c) e
  obtain ⟨fs, h1, h2, h3⟩ := firsts_kv fun v hm => ⟨_, _, hp' v hm⟩
  refine ⟨tuples' true, fun Q E hq => ?_, kv_cmp hp' hi⟩
  refine PySem.W.kat_kind (T := .type "int") h1 (by omega) (fun f hm => ?_) (by rfl) ?_
  · obtain ⟨x, t, rfl⟩ := h3 f hm
    exact PySem.W.Looks.now
  · have e : (Value.type "int" != Value.type "tuple") = true := by first | decide +kernel | rfl | decide
    rw [e]
    exact hq
theorem swo_key (k : Value → Int) : Swo fun v u => decide (k v < k u) := by
  refine ⟨fun x y h => ?_, fun x y z h1 h2 => ?_⟩
  · exact decide_eq_false (Int.not_lt.mpr (Int.le_of_lt (of_decide_eq_true h)))
  · have a := of_decide_eq_false h1
    have b := of_decide_eq_false h2
    exact decide_eq_false (by omega)
theorem sorted_kv {l : Addr} {vs : List Value} {k : Value → Int} {f : Value → Str} {Q : Value → Shared → Prop} (hl : s.heap.IsList l vs.toArray) (hz : vs.length ≤ sizeLine) (hp : ∀ v ∈ vs, IsKv s.heap v (k v) (f v)) (hi : ∀ v ∈ vs, ∀ u ∈ vs, k v = k u → f v = f u)
    (h : ∀ (h' : Heap) (d : Addr) (out : List Value), Srtd (fun v u => decide (k v < k u)) out → Stb (fun v u => decide (k v < k u)) out vs → (∀ b o, s.heap.get? b = some o → h'.get? b = some o) → s.heap.objs.size ≤ d → (∃ n, h'.get? d = some (seqObj "list" out.toArray n)) → Q (.ref d) { s with heap := h' }) :
    wpAny (model prog w) A (call (.builtin "sorted") [.ref l]) Q E s := by
  refine sorted_ord (swo_key k) hl hz (fun h2 h₁ a ha kk => ?_) fun out hs hb => ?_
  · refine kv_sortable (s := { s with heap := h₁ }) (by omega) (fun v hm => (hp v hm).keeps fun b o e _ => (kk b o e).2) hi fun o e => ?_
    have e' : some o = some (seqObj "list" vs.toArray 0) := e.symm.trans ha
    cases e'
    intro c
    exact absurd (Value.type.inj c) (by decide)
  · exact h _ _ out hs hb (fun b o e => sortedAll_old e) (Nat.le_succ _) (sortedAll_at s.heap vs out.toArray)
end
end KvS
section
variable {X : Cx}
/-- sorted(xs), pairs of an int and a text, no two of one int with unlike texts: a new list of the same pairs, by rising ints -/
def rSortKv (K : PySem.W.Frag) : List V → Hp → VK → Prop := fun vs H Q => ∃ (a : Addr) (xs : List V) (k : V → Int) (f : V → Str), vs = [V.ref a] ∧ SqL K H a xs ∧ (∀ x ∈ xs, ∃ t, x = V.ref t ∧ H t = some (.tup [.int (k x), .str (f x)])) ∧ (∀ x ∈ xs, ∀ y ∈ xs, k x = k y → f x = f y) ∧
  ∀ ys p, ys.Perm xs → ys.Pairwise (fun x y => k x ≤ k y) → H p = none → Q (.ref p) (upd H p (.lst ys))
theorem cr_sortedKv : CallR X (.builtin "sorted") (rSortKv X.K) := by
  intro pins s σ H vs us Q I r h
  obtain ⟨a, xs, k, f, rfl, hs, hx, hi, q⟩ := h
  obtain ⟨its, rv, hl, hz⟩ := I.list hs
  obtain ⟨u, rfl, ru⟩ := vals1 r
  obtain rfl : u = Value.ref a := ru
  obtain ⟨e1, e2⟩ := refs_back rv fun x m => by
    obtain ⟨t, e, _⟩ := hx x m
    exact ⟨t, e⟩
  have mem : ∀ v ∈ its, backV v ∈ xs := fun v hv => by rw [e1]; exact List.mem_map.mpr ⟨_, hv, rfl⟩
  refine KvS.sorted_kv (k := fun v => k (backV v)) (f := fun v => f (backV v)) hl.isList (by rw [← rv.length]; exact hz) (fun v hv => ?_) (fun v hv u hu e => hi _ (mem v hv) _ (mem u hu) e) fun h' d out hs' hb hk hd hn => ?_
  · obtain ⟨t, rfl⟩ := e2 v hv
    obtain ⟨t', e, ht⟩ := hx _ (mem _ hv)
    have et : t = t' := V.ref.inj e
    subst et
    obtain ⟨_, its2, r2, o, ho, hc, n, hd⟩ := I.hok _ _ ht
    obtain ⟨u1, u2, rfl, ri, rj⟩ := vals2 r2
    obtain ⟨t1, rfl⟩ := ri
    obtain ⟨t2, rfl⟩ := rj
    exact ⟨t, o, t1, t2, n, rfl, ho, hc, hd⟩
  · have hp := hb.perm
    have h3 : ∀ u ∈ out, ∃ a, u = Value.ref a := fun u hu => e2 u (hp.mem_iff.mp hu)
    obtain ⟨n, hn⟩ := hn
    have hlen : (out.map backV).length ≤ sizeLine := by
      rw [List.length_map, hp.length_eq, ← rv.length]
      exact hz
    refine ⟨.ref d, upd H d (.lst (out.map backV)), I.laid (t' := s.toks) (fun b o e => hk b o e) hd ⟨hlen, out, n, vals_back h3, hn⟩, rfl, q _ _ ?_ ?_ (I.hok.fresh hd)⟩
    · rw [e1]
      exact hp.map backV
    · refine List.pairwise_map.mpr (hs'.imp fun {x y} h => ?_)
      exact Int.not_lt.mp (of_decide_eq_false (p := k (backV y) < k (backV x)) h)
end

/-! ### sorted(d), a dict of int keys, any number of them -/
section
variable {X : Cx}
theorem call_sortedDIN (hcalm : X.calm = true) : CallR X (.builtin "sorted") (fun xs H Q => ∃ (a : Addr) (kvs : List (Key × V)) (ks : List Int), xs = [.ref a] ∧ Rd H a (.dK kvs) ∧ kvs.map (·.1) = ks.map Sum.inl ∧ ks.length ≤ sizeLine ∧
    ∀ (ys : List Int) (p : Addr), ys.Perm ks → ys.Pairwise (· ≤ ·) → H p = none → Q (.ref p) (upd H p (.lst (ys.map V.int)))) := by
  intro pins s σ H xs us Q I r q
  obtain ⟨a, kvs, ks, ex, hd, hks, h64, q⟩ := q
  subst ex
  obtain ⟨u, eu, rx⟩ := vals1 r
  subst eu
  cases rx
  obtain ⟨z, lo, vs, rel, dd⟩ := dk_rd I.hok hd
  obtain ⟨ep, hat⟩ := dd.dictAt
  have hkeys : vs.map (·.1) = ks.map Sum.inl := rel.keys.symm.trans hks
  have hl : vs.length = ks.length := by
    have e := congrArg List.length hkeys
    rw [List.length_map, List.length_map] at e
    exact e
  have h16 : vs.length ≤ sizeLine := by rw [hl]; exact h64
  refine Calls.call_function_entry PyProof.Rows.kind_sorted PyProof.Rows.plain_sorted PyProof.Rows.entry_sorted (PyProof.Rows.args_sorted1 _) ?_
  unfold Builtin.«sorted»
  refine wpAny_bind (m := checkCount "sorted" 1 1 _) (wpAny_pure ?_)
  refine wpAny_bind (PySem.W.kdu_collect (A := X.A.in1) (PySem.W.kdl_dict (knd := mixKind X.prog X.w) (kvs := vs) (ep := ep) lo) (I.ok.hd hcalm) hat h16 fun h' tk acc hk hacc => ?_)
  have hal : acc.toList.length = ks.length := by rw [Array.length_toList, hacc.1, hl]
  have hS : IntsAre acc.toList ks := ints_each hal fun j v e => by
    obtain ⟨k, x, e1, e2⟩ := hacc.2 j v (by rw [← Array.getElem?_toList]; exact e)
    have e3 : (vs.map (·.1))[j]? = some k := by rw [List.getElem?_map, e1]; rfl
    rw [hkeys, List.getElem?_map] at e3
    cases e4 : ks[j]? with
    | none => rw [e4] at e3; cases e3
    | some y =>
      rw [e4] at e3
      have e5 : Sum.inl y = k := Option.some.inj e3
      subst e5
      rcases keyIs_shape (show keyIs (Sum.inl y) v = true from e2) with ⟨i, t, ek, ev⟩ | ⟨z, t, ek, ev⟩
      · cases ek
        exact ⟨y, t, rfl, ev⟩
      · cases ek
  have I1 : Inv X pins σ H { s with heap := h', toks := tk } := I.kept hk
  refine wpAny_bind (wpAny_newList ?_ (by rw [hal]; exact h64))
  have hoL : (h'.push (seqObj "list" acc.toList.toArray 0)).get? h'.objs.size = some (seqObj "list" acc.toList.toArray 0) := Heap.get?_push_size _ rfl
  show wpAny _ _ _ _ _ { s with heap := h'.push (seqObj "list" acc.toList.toArray 0), toks := tk }
  refine wpAny_bind (wpAny_holding (wpAny_call_entry PyProof.Rows.slot_list_sort ⟨_, hoL, rfl⟩ PyProof.Rows.entry_list_sort
    (SrtO.list_sort_ord (s := { s with heap := h'.push (seqObj "list" acc.toList.toArray 0), toks := tk }) SrtO.swo_int hoL (by rw [hal]; exact h64) (fun h2 => SrtO.ints_sortable hS h2) fun out h1 h2 => ⟨_, rfl, ?_⟩) (PyProof.Rows.args_list_sort _)))
  obtain ⟨g1, g2, g3⟩ := SrtO.ints_out hS h1 h2
  obtain ⟨e', he'⟩ := PyProof.Rows.sortedHeap_at (vs := acc.toList) (out := out.toArray) hoL
  have hlen : ((out.map SrtO.iv).map V.int).length ≤ sizeLine := by
    rw [List.length_map, g2.length_eq]
    exact h64
  refine wpAny_pure ⟨_, rfl, .ref h'.objs.size, upd H h'.objs.size (.lst ((out.map SrtO.iv).map V.int)), I1.laid (t' := tk) (fun b u e => ?_) (Nat.le_refl _)
    (show ObjOk X.prog X.w _ _ _ (.lst ((out.map SrtO.iv).map V.int)) from ⟨hlen, out, e', vals_of_ints g1, he'⟩), rfl, q (out.map SrtO.iv) _ g2 g3 (I1.hok.fresh (Nat.le_refl _))⟩
  have hb : b < h'.objs.size := Heap.lt_size e
  rw [PyProof.Rows.sortedHeap_old (Nat.ne_of_lt hb) (by rw [size_push']; exact Nat.lt_succ_of_lt hb)]
  exact Heap.get?_push_of_some _ e
end

/-! ### the parts of a table -/
structure KvL (H : Hp) (vs : List V) (rows : List (Int × Str)) : Prop where
  len : vs.length = rows.length
  at_ : ∀ (j : Nat) (v : V) (e : Int × Str), vs[j]? = some v → rows[j]? = some e → ∃ q, v = .ref q ∧ H q = some (.tup [.int e.1, .str e.2]) ∧ txtOk e.2 = true
theorem KvL.gr {H H' : Hp} {vs : List V} {rows : List (Int × Str)} (h : KvL H vs rows) (x : Gr H H') : KvL H' vs rows := by
  refine ⟨h.len, fun j v e a b => ?_⟩
  obtain ⟨q, h1, h2, h3⟩ := h.at_ j v e a b
  exact ⟨q, h1, x.keep _ _ h2 True.intro (fun _ z => nomatch z), h3⟩
theorem KvL.nil {H : Hp} : KvL H [] [] := ⟨rfl, fun j v e a _ => by simp at a⟩
theorem KvL.snoc {H : Hp} {vs : List V} {rows : List (Int × Str)} {q : Addr} {e : Int × Str} (h : KvL H vs rows) (hq : H q = some (.tup [.int e.1, .str e.2])) (hx : txtOk e.2 = true) : KvL H (vs ++ [.ref q]) (rows ++ [e]) := by
  have hl := h.len
  refine ⟨by rw [List.length_append, List.length_append, hl]; rfl, fun i v t a b => ?_⟩
  by_cases c : i < vs.length
  · rw [List.getElem?_append_left c] at a
    rw [List.getElem?_append_left (by omega)] at b
    exact h.at_ i v t a b
  · rw [List.getElem?_append_right (by omega)] at a b
    rw [← hl] at b
    cases hj : i - vs.length with
    | zero =>
      rw [hj] at a b
      cases a
      cases b
      exact ⟨q, rfl, hq, hx⟩
    | succ j =>
      rw [hj] at a
      simp at a
def bitK (l : Nat) (b : Int) (e : Int × Str) : Bool := decide (e.1 / 2 ^ l % 2 = b)
def partT : Nat → List (Int × Str) → Tm
  | _, [] => nonT
  | _, [e] => .sl "row" (.int e.1) (.str e.2)
  | 0, _ :: _ :: _ => nonT
  | l + 1, a :: b :: r => .sl "fork" (partT l ((a :: b :: r).filter (bitK l 0))) (partT l ((a :: b :: r).filter (bitK l 1)))
theorem partT_nil (l : Nat) : partT l [] = nonT := by cases l <;> rfl
theorem partT_one (l : Nat) (e : Int × Str) : partT l [e] = .sl "row" (.int e.1) (.str e.2) := by cases l <;> rfl
theorem partT_more {l : Nat} {rows : List (Int × Str)} (h : 2 ≤ rows.length) : partT (l + 1) rows = .sl "fork" (partT l (rows.filter (bitK l 0))) (partT l (rows.filter (bitK l 1))) := by
  match rows, h with
  | a :: b :: r, _ => rfl
def RowsOk (l : Nat) (rows : List (Int × Str)) : Prop := (∀ e ∈ rows, 0 ≤ e.1) ∧ rows.Pairwise fun a b => a.1 % 2 ^ l ≠ b.1 % 2 ^ l
theorem RowsOk.zero {rows : List (Int × Str)} (h : RowsOk 0 rows) : rows.length ≤ 1 := by
  match rows, h with
  | [], _ => exact Nat.zero_le _
  | [_], _ => exact Nat.le_refl _
  | a :: b :: r, ⟨_, h⟩ =>
    have := (List.pairwise_cons.mp h).1 b List.mem_cons_self
    simp at this
theorem bit_mod (a : Int) (l : Nat) : a % 2 ^ (l + 1) = a % 2 ^ l + 2 ^ l * (a / 2 ^ l % 2) := by
  have hM : (0 : Int) < 2 ^ l := Int.pow_pos (by decide)
  rw [Int.pow_succ]
  generalize (2 : Int) ^ l = M at hM ⊢
  have h1 := Int.emod_nonneg a (show M ≠ 0 by omega)
  have h2 := Int.emod_lt_of_pos a hM
  have h3 := Int.mul_ediv_add_emod a M
  have h4 := Int.mul_ediv_add_emod (a / M) 2
  have h5 : a / M % 2 = 0 ∨ a / M % 2 = 1 := by omega
  have e : a = M * 2 * (a / M / 2) + (a % M + M * (a / M % 2)) := by
    rw [Int.mul_assoc, Int.add_comm (a % M), ← Int.add_assoc, ← Int.mul_add, h4, h3]
  have lo : 0 ≤ a % M + M * (a / M % 2) := by
    rcases h5 with h | h <;> rw [h] <;> omega
  have hi : a % M + M * (a / M % 2) < M * 2 := by
    rcases h5 with h | h <;> rw [h] <;> omega
  have := Int.emod_eq_of_lt lo hi
  rw [← this]
  conv => lhs; rw [e]
  rw [Int.add_comm, Int.add_mul_emod_self_left]
theorem RowsOk.part {l : Nat} {b : Int} {rows : List (Int × Str)} (h : RowsOk (l + 1) rows) : RowsOk l (rows.filter (bitK l b)) := by
  refine ⟨fun e he => h.1 e (List.mem_filter.mp he).1, ?_⟩
  rw [List.pairwise_filter]
  refine h.2.imp fun {x y} hxy hx hy e => hxy ?_
  rw [bit_mod, bit_mod, e, of_decide_eq_true hx, of_decide_eq_true hy]
theorem partT_dep : ∀ (l : Nat) (rows : List (Int × Str)), (partT l rows).dep ≤ l + 1
  | l, [] => by rw [partT_nil]; show max 0 0 + 1 ≤ _; omega
  | l, [e] => by rw [partT_one]; show max 0 0 + 1 ≤ _; omega
  | 0, _ :: _ :: _ => by show max 0 0 + 1 ≤ _; omega
  | l + 1, a :: b :: r => by
    have h1 := partT_dep l ((a :: b :: r).filter (bitK l 0))
    have h2 := partT_dep l ((a :: b :: r).filter (bitK l 1))
    show max _ _ + 1 ≤ _
    omega
/-- how many tellings -/
def costP (l n : Nat) : Nat := if n = 0 then 1 else n * (2 * l + 1)
theorem costP_split {l a b n : Nat} (h : a + b = n) (hn : 2 ≤ n) : costP l a + costP l b + 1 ≤ costP (l + 1) n := by
  subst h
  have e : (a + b) * (2 * (l + 1) + 1) = a * (2 * l + 1) + b * (2 * l + 1) + 2 * (a + b) := by
    rw [show 2 * (l + 1) + 1 = (2 * l + 1) + 2 by omega, Nat.mul_add, Nat.add_mul, Nat.mul_comm (a + b) 2]
  unfold costP
  rw [if_neg (show ¬ a + b = 0 by omega), e]
  by_cases ha : a = 0
  · subst ha
    rw [if_pos rfl, if_neg (by omega), Nat.zero_mul]
    omega
  · rw [if_neg ha]
    by_cases hb : b = 0
    · subst hb
      rw [if_pos rfl, Nat.zero_mul]
      omega
    · rw [if_neg hb]
      omega
theorem filter_split {rows : List (Int × Str)} (l : Nat) : (rows.filter (bitK l 0)).length + (rows.filter (bitK l 1)).length = rows.length := by
  induction rows with
  | nil => rfl
  | cons e r ih =>
    rw [List.filter_cons, List.filter_cons, List.length_cons]
    have h1 := Int.emod_nonneg (e.1 / 2 ^ l) (show (2 : Int) ≠ 0 by decide)
    have h2 := Int.emod_lt_of_pos (e.1 / 2 ^ l) (show (0 : Int) < 2 by decide)
    have h3 : e.1 / 2 ^ l % 2 = 0 ∨ e.1 / 2 ^ l % 2 = 1 := by omega
    rcases h3 with h | h
    · rw [show bitK l 0 e = true from decide_eq_true h, show bitK l 1 e = false from decide_eq_false (by omega)]
      simp
      omega
    · rw [show bitK l 0 e = false from decide_eq_false (by omega), show bitK l 1 e = true from decide_eq_true h]
      simp
      omega
theorem take_filter {α : Type} (p : α → Bool) (l : List α) {i : Nat} {x : α} (h : l[i]? = some x) : (l.take (i + 1)).filter p = (l.take i).filter p ++ (if p x = true then [x] else []) := by
  rw [List.take_succ, h, List.filter_append]
  congr 1
  show [x].filter p = _
  rw [List.filter_cons]
  rfl

/-! ### figures -/
theorem txt_of_tl {x : Str} (h : ∀ c ∈ TL.tl x, c < 0x110000) : txtOk x = true := by
  show x.cps.all (· < 0x110000) = true
  rw [Array.all_eq_true']
  intro c hc
  exact decide_eq_true (h c (by rw [← Array.mem_toList_iff] at hc; exact hc))
theorem txt_num (n : Nat) : txtOk (Str.ofString (toString ((n : Nat) : Int))) = true := by
  refine txt_of_tl fun c hc => ?_
  rw [TL.tl_num] at hc
  have := TL.numL_digits n c hc
  omega
theorem log_small {z : Int} (h0 : 0 ≤ z) (h : z < 2 ^ 64) : z.natAbs.log2 < 1920 := by
  obtain ⟨n, rfl⟩ := Int.eq_ofNat_of_zero_le h0
  have h1 : n < 2 ^ 64 := by omega
  rw [Int.natAbs_natCast]
  by_cases c : n = 0
  · subst c; decide
  · have := (Nat.log2_lt c).mpr h1
    omega
theorem cut_ints (ks : List Int) (lo hi : Option Int) : ∃ ks' : List Int, cutV (ks.map V.int) lo hi = ks'.map V.int ∧ (∀ k ∈ ks', k ∈ ks) ∧ ks'.length ≤ ks.length := by
  unfold cutV
  rw [List.length_map, ← List.map_drop, ← List.map_take]
  refine ⟨_, rfl, fun k hk => List.mem_of_mem_drop (List.mem_of_mem_take hk), ?_⟩
  rw [List.length_take, List.length_drop]
  omega

/-! ### the program's seals and tops -/
section
variable {P : Program} {w : World} {K : PySem.W.Frag} {mg : Str → Option Value} {base : Heap} {Fam : Sys → Prop}
def spNone (Fam : Sys → Prop) : Sp := fun vs H Q _ => ∃ (S : Sys) (r : Nat), Fam S ∧ vs = [.ref S.f] ∧ S.ok H (r + 1) ∧ ∀ v H', Ext H H' → S.ok H' r → S.den H' v nonT → Q v H'
theorem ok_none_seal {cc : Addr} (T : Txt K mg cc) (A : SlA P w K mg base Fam) : Cal P w K mg base 2 "none_seal" (spNone Fam) [] := by
  refine cal_of T.d_none_seal sc_none_seal (fun vs H Q E h => ?_) (fun f cdv A' outer s H vs Q E hr h => ?_)
  · obtain ⟨S, r, _, rfl, _⟩ := h
    rfl
  obtain ⟨S, r, hF, rfl, hok, q⟩ := h
  have G := A.good hF
  refine ⟨_, (pss_one (ps_ret (pe_sl (i := 0) A.held hr (by omega) rfl (by first | exact Or.inl rfl | exact Or.inr (Or.inl rfl) | exact Or.inr (Or.inr rfl)) (pa_cons pe_str (pa_cons pe_int (pa_cons pe_int pa_nil)))))), ?_⟩
  exact ⟨S, _, hF, rfl, hok, r, "none", .int 0, .int 0, _, _, rfl, by decide +kernel, hok, G.int 0 hok, G.int 0 hok, fun v H' e ok d => q v H' e ok d⟩
def spPair (Fam : Sys → Prop) : Sp := fun vs H Q _ => ∃ (S : Sys) (va vb : V) (a b : Tm) (r : Nat), Fam S ∧ vs = [.ref S.f, va, vb] ∧ S.ok H (r + 1) ∧ S.den H va a ∧ S.den H vb b ∧ ∀ v H', Ext H H' → S.ok H' r → S.den H' v (pairT a b) → Q v H'
theorem ok_pair_seal {cc : Addr} (T : Txt K mg cc) (A : SlA P w K mg base Fam) : Cal P w K mg base 2 "pair_seal" (spPair Fam) [] := by
  refine cal_of T.d_pair_seal sc_pair_seal (fun vs H Q E h => ?_) (fun f cdv A' outer s H vs Q E hr h => ?_)
  · obtain ⟨S, va, vb, a, b, r, _, rfl, _⟩ := h
    rfl
  obtain ⟨S, va, vb, a, b, r, hF, rfl, hok, ha, hb, q⟩ := h
  refine ⟨_, (pss_one (ps_ret (pe_sl (i := 0) A.held hr (by omega) rfl (by first | exact Or.inl rfl | exact Or.inr (Or.inl rfl) | exact Or.inr (Or.inr rfl)) (pa_cons pe_str (pa_cons (pv 1) (pa_cons (pv 2) pa_nil)))))), ?_⟩
  exact ⟨S, _, hF, rfl, hok, _, rfl, _, rfl, r, "pair", a, b, _, _, rfl, by decide +kernel, hok, ha, hb, fun v H' e ok d => q v H' e ok d⟩
end

section
variable {P : Program} {w : World} {K : PySem.W.Frag} {mg : Str → Option Value} {base : Heap} {Fam : Sys → Prop}
theorem ok_split {cc : Addr} (T : Txt K mg cc) : Cal P w K mg base 1 "split" spSplit [] := by
  refine cal_of T.d_split sc_split (fun vs H Q E h => ?_) (fun f cdv A outer s H vs Q E hr h => ?_)
  · obtain ⟨n, rfl, _⟩ := h
    rfl
  obtain ⟨n, rfl, h2, hl, q⟩ := h
  refine ⟨_, (pss_one (ps_ret (pe_op op_shl pe_int (pe_op op_sub (pe_bits (pe_op op_sub (pv 0) pe_int)) pe_int)))), ?_⟩
  have h0 : n - 1 ≠ 0 := by omega
  have lg : (n - 1).log2 ≤ n.log2 := by
    refine (Nat.le_log2 (by omega)).mpr ?_
    have := Nat.log2_self_le h0
    omega
  have e1 : ((Builtin.Int.intBits ((n : Int) - 1) : Nat) : Int) - 1 = (((n - 1).log2 : Nat) : Int) := by
    have e2 : (n : Int) - 1 = ((n - 1 : Nat) : Int) := by omega
    rw [e2]
    unfold Builtin.Int.intBits
    have e3 : (((n - 1 : Nat) : Int) == 0) = false := by
      rw [beq_eq_false_iff_ne]
      omega
    rw [e3]
    show ((((n - 1 : Nat) : Int).natAbs.log2 + 1 : Nat) : Int) - 1 = _
    rw [Int.natAbs_natCast]
    omega
  refine ⟨_, rfl, _, 1, rfl, rfl, (n : Int) - 1, rfl, _, 1, rfl, rfl, 1, _, rfl, rfl, ?_, ?_⟩
  · rw [e1]
    exact ⟨by omega, by omega, by decide⟩
  · rw [e1]
    show Q (.int (1 * 2 ^ ((((n - 1).log2 : Nat) : Int)).toNat)) H
    rw [Int.toNat_natCast, Int.one_mul, ← pow_cast]
    exact q
theorem ok_top_of1 {cc : Addr} {k : Nat} (T : Txt K mg cc) (A : SlA P w K mg base Fam) (C_top_of : Cal P w K mg base (k + 3) "top_of" (spTop K Fam k) []) : Cal P w K mg base (k + 4) "top_of" (spTop K Fam (k + 1)) [] := by
  have Z := T.Z
  have C_split := ok_split (P := P) (w := w) (base := base) T
  have C_none_seal := ok_none_seal T A
  have C_pair_seal := ok_pair_seal T A
  refine cal_of T.d_top_of sc_top_of (fun vs H Q E h => ?_) (fun f cdv A' outer s H vs Q E hr h => ?_)
  · obtain ⟨S, a, xs, ts, r, _, rfl, _⟩ := h
    rfl
  obtain ⟨S, a, xs, ts, r, hF, rfl, hS, hD, _, hk, hl, hok, q⟩ := h
  have hlen := hD.len
  have G := A.good hF
  refine ⟨_, (pss_cons (ps_if (pt_cmpR op_eq (pe_callB call_len_seq rfl Z.len PySem.boot_len (pa_cons (pv 1) pa_nil)) pe_int (nomark _)) (pss_one (ps_ret (pe_c C_none_seal hr (by omega) rfl (pa_cons (pv 0) pa_nil)))) pss_nil)
  (pss_cons (ps_if (pt_cmpR op_eq (pe_callB call_len_seq rfl Z.len PySem.boot_len (pa_cons (pv 1) pa_nil)) pe_int (nomark _)) (pss_one (ps_ret (pe_ix ix_list (pv 1) pe_int (fun _ _ => rfl)))) pss_nil)
  (pss_cons (ps_set (i := 2) sc_top_of.nd rfl (Or.inl rfl) (pe_c C_split hr (by omega) rfl (pa_cons (pe_callB call_len_seq rfl Z.len PySem.boot_len (pa_cons (pv 1) pa_nil)) pa_nil)))
  (pss_one (ps_ret (pe_c C_pair_seal hr (by omega) rfl (pa_cons (pv 0) (pa_cons (pe_c C_top_of hr (by omega) rfl (pa_cons (pv 0) (pa_cons (pe_slice sl_list (pv 1) po_none (po_some (pv 2))) pa_nil))) (pa_cons (pe_c C_top_of hr (by omega) rfl (pa_cons (pv 0) (pa_cons (pe_slice sl_list (pv 1) (po_some (pv 2)) po_none) pa_nil))) pa_nil))))))))), ?_⟩
  -- no leaf
  refine ⟨_, rfl, a, _, rfl, .inl hS, rfl, _, rfl, ite2 (fun c => ?_) (fun c => ?_)⟩
  · have c' : (xs.length : Int) = 0 := V.int.inj (of_decide_eq_true c)
    have e : ts = [] := List.eq_nil_of_length_eq_zero (by omega)
    subst e
    refine ⟨_, rfl, S, r, hF, rfl, hok, fun v H' e ok d => q v H' e ok ?_⟩
    rw [topT_nil]
    exact d
  have n0 : xs.length ≠ 0 := fun z => c (decide_eq_true (by rw [z]; rfl))
  -- one
  refine ⟨_, rfl, a, _, rfl, .inl hS, rfl, _, rfl, ite2 (fun c => ?_) (fun c => ?_)⟩
  · have c' : (xs.length : Int) = 1 := V.int.inj (of_decide_eq_true c)
    obtain ⟨v, hv, dv⟩ := atI_den hD (i := 0) (Int.le_refl 0) (by omega)
    refine ⟨_, rfl, a, xs, 0, v, rfl, rfl, hS, hv, q v H (Ext.refl H) ?_ ?_⟩
    · refine G.less hok ?_
      omega
    · rw [topT_single (by omega)]
      exact dv
  have n1 : xs.length ≠ 1 := fun z => c (decide_eq_true (by rw [z]; rfl))
  -- more
  have h2 : 2 ≤ ts.length := by omega
  have hsl := splitN_lt h2
  have hsp := splitN_pos ts.length
  have hk1 : ts.length ≤ 2 ^ k := hk
  obtain ⟨k', rfl⟩ : ∃ k', k = k' + 1 := by
    cases k with
    | zero => simp at hk1; omega
    | succ k' => exact ⟨k', rfl⟩
  obtain ⟨b1, b2⟩ := splitN_le_pow h2 hk1
  have hcs := costT_split h2
  have lg := Nat.log2_le_self ts.length
  refine ⟨_, rfl, a, _, rfl, .inl hS, ts.length, by rw [hlen] <;> rfl, h2, by omega, ?_⟩
  refine ⟨_, rfl, ?_⟩
  -- the first part
  refine ⟨_, rfl, _, rfl, _, rfl, ((splitN ts.length : Nat) : Int), rfl, a, _, rfl, hS, fun p hp => ?_⟩
  rw [cut_to]
  have x1 := Ext.new (o := .lst (xs.take (splitN ts.length))) hp
  have k1 := Kp.new (o := .lst (xs.take (splitN ts.length))) hp
  refine ⟨S, p, _, ts.take (splitN ts.length), r + 1 + costT (ts.length - splitN ts.length), hF, rfl, SqL.of upd_same, (hD.take _).mono G k1.gr, by omega, ?_, ?_, ?_, fun v1 H1 x2 ok1 d1 => ?_⟩
  · rw [List.length_take]
    show _ ≤ 2 ^ k'
    omega
  · rw [List.length_take]
    omega
  · rw [List.length_take, Nat.min_eq_left (by omega)]
    exact G.less (G.keep k1 hok) (by omega)
  -- the rest
  have xx := x1.trans x2
  refine ⟨_, rfl, _, rfl, _, rfl, ((splitN ts.length : Nat) : Int), rfl, a, _, rfl, xx.seq hS, fun p2 hp2 => ?_⟩
  rw [cut_from]
  have x3 := Ext.new (o := .lst (xs.drop (splitN ts.length))) hp2
  have k3 := Kp.new (o := .lst (xs.drop (splitN ts.length))) hp2
  refine ⟨S, p2, _, ts.drop (splitN ts.length), r + 1, hF, rfl, SqL.of upd_same, ((hD.drop _).mono G xx.gr).mono G k3.gr, by omega, ?_, ?_, ?_, fun v2 H2 x4 ok2 d2 => ?_⟩
  · rw [List.length_drop]
    show _ ≤ 2 ^ k'
    omega
  · rw [List.length_drop]
    omega
  · rw [List.length_drop]
    exact G.keep k3 ok1
  refine ⟨S, _, _, topT (ts.take (splitN ts.length)), topT (ts.drop (splitN ts.length)), r, hF, rfl, ok2, G.mono (x3.trans x4).gr d1, d2, fun v H' x5 ok3 d3 => ?_⟩
  refine q v H' (((xx.trans x3).trans x4).trans x5) ok3 ?_
  rw [topT_more h2]
  exact d3
theorem ok_top_of {cc : Addr} (T : Txt K mg cc) (A : SlA P w K mg base Fam) : ∀ k : Nat, Cal P w K mg base (k + 3) "top_of" (spTop K Fam k) []
  | 0 => by
    obtain ⟨f, fd, ps, ds, F, m, kp, b, v⟩ := (cal_no (P := P) (w := w) (base := base) T.d_top_of 3).ex
    exact ⟨f, fd, ps, ds, F.imp fun vs H Q E h => by obtain ⟨_, _, _, _, _, _, _, _, _, z, _⟩ := h; exact absurd rfl z, m, kp, b, v⟩
  | k + 1 => ok_top_of1 T A (ok_top_of T A k)
end

/-! ### the program's other seals -/
section
variable {P : Program} {w : World} {K : PySem.W.Frag} {mg : Str → Option Value} {base : Heap} {Fam : Sys → Prop}
def spMark (m : Str) (Fam : Sys → Prop) : Sp := fun vs H Q _ => ∃ (S : Sys) (va vb : V) (a b : Tm) (r : Nat), Fam S ∧ vs = [.ref S.f, va, vb] ∧ S.ok H (r + 1) ∧ S.den H va a ∧ S.den H vb b ∧ ∀ v H', Ext H H' → S.ok H' r → S.den H' v (.sl m a b) → Q v H'
theorem ok_leaf_seal {cc : Addr} (T : Txt K mg cc) (A : SlA P w K mg base Fam) : Cal P w K mg base 2 "leaf_seal" (spMark "leaf" Fam) [] := by
  refine cal_of T.d_leaf_seal sc_leaf_seal (fun vs H Q E h => ?_) (fun f cdv A' outer s H vs Q E hr h => ?_)
  · obtain ⟨S, va, vb, a, b, r, _, rfl, _⟩ := h
    rfl
  obtain ⟨S, va, vb, a, b, r, hF, rfl, hok, ha, hb, q⟩ := h
  refine ⟨_, (pss_one (ps_ret (pe_sl (i := 0) A.held hr (by omega) rfl (by first | exact Or.inl rfl | exact Or.inr (Or.inl rfl) | exact Or.inr (Or.inr rfl)) (pa_cons pe_str (pa_cons (pv 1) (pa_cons (pv 2) pa_nil)))))), ?_⟩
  exact ⟨S, _, hF, rfl, hok, _, rfl, _, rfl, r, "leaf", a, b, _, _, rfl, by decide +kernel, hok, ha, hb, fun v H' e ok d => q v H' e ok d⟩
theorem ok_book_seal {cc : Addr} (T : Txt K mg cc) (A : SlA P w K mg base Fam) : Cal P w K mg base 2 "book_seal" (spMark "book" Fam) [] := by
  refine cal_of T.d_book_seal sc_book_seal (fun vs H Q E h => ?_) (fun f cdv A' outer s H vs Q E hr h => ?_)
  · obtain ⟨S, va, vb, a, b, r, _, rfl, _⟩ := h
    rfl
  obtain ⟨S, va, vb, a, b, r, hF, rfl, hok, ha, hb, q⟩ := h
  refine ⟨_, (pss_one (ps_ret (pe_sl (i := 0) A.held hr (by omega) rfl (by first | exact Or.inl rfl | exact Or.inr (Or.inl rfl) | exact Or.inr (Or.inr rfl)) (pa_cons pe_str (pa_cons (pv 1) (pa_cons (pv 2) pa_nil)))))), ?_⟩
  exact ⟨S, _, hF, rfl, hok, _, rfl, _, rfl, r, "book", a, b, _, _, rfl, by decide +kernel, hok, ha, hb, fun v H' e ok d => q v H' e ok d⟩
end

section
variable {P : Program} {w : World} {K : PySem.W.Frag} {mg : Str → Option Value} {base : Heap} {Fam : Sys → Prop}
def spParted (K : PySem.W.Frag) : Sp := fun vs H Q _ => ∃ (a : Addr) (xs : List V) (rows : List (Int × Str)) (l : Nat), vs = [.ref a, .int (l : Int)] ∧ SqL K H a xs ∧ KvL H xs rows ∧ (∀ e ∈ rows, 0 ≤ e.1) ∧ rows.length ≤ 1000 ∧
  ∀ q p1 p2 ys zs H', Ext H H' → Kp H H' → H p1 = none → H p2 = none → H' q = some (.tup [.ref p1, .ref p2]) → H' p1 = some (.lst ys) → H' p2 = some (.lst zs) → KvL H' ys (rows.filter (bitK l 0)) → KvL H' zs (rows.filter (bitK l 1)) → Q (.ref q) H'
theorem ok_parted {cc : Addr} (T : Txt K mg cc) : Cal P w K mg base 1 "parted" (spParted K) [] := by
  have Z := T.Z
  refine cal_of T.d_parted sc_parted (fun vs H Q E h => ?_) (fun f cdv A' outer s H vs Q E hr h => ?_)
  · obtain ⟨a, xs, rows, l, rfl, _⟩ := h
    rfl
  obtain ⟨a, xs, rows, l, rfl, hS, hk, h0, hl, q⟩ := h
  have hxl := hk.len
  have e16 : sizeLine = 16777216 := sizeLine_eq
  refine ⟨_, (pss_cons (ps_setLc (i := 2) (own := [("row", 4)]) (g := gName 4) (tt := _) rfl sc_parted.nd rfl rfl (sw_true rfl rfl rfl (by decide +kernel)) (pi_list (pv 0)) (blkOk_by (N := N_parted) (sc := defScope s_parted) (by decide +kernel)) (fun _ _ _ _ _ => (pg_name (i := 4) sc_parted.nd rfl (Or.inl rfl))) (fun _ _ _ _ _ => (pts_one (pt_cmpR op_eq (pe_op op_odd (pe_op op_shrN (pe_ix (r := rIxT K) ix_tup (pv 4) pe_int (fun _ _ => rfl)) (pv 1)) pe_int) pe_int (nomark _)))) (fun _ _ _ _ _ => (pv 4)))
  (pss_cons (ps_setLc (i := 3) (own := [("row", 4)]) (g := gName 4) (tt := _) rfl sc_parted.nd rfl rfl (sw_true rfl rfl rfl (by decide +kernel)) (pi_list (pv 0)) (blkOk_by (N := N_parted) (sc := defScope s_parted) (by decide +kernel)) (fun _ _ _ _ _ => (pg_name (i := 4) sc_parted.nd rfl (Or.inl rfl))) (fun _ _ _ _ _ => (pts_one (pt_cmpR op_eq (pe_op op_odd (pe_op op_shrN (pe_ix (r := rIxT K) ix_tup (pv 4) pe_int (fun _ _ => rfl)) (pv 1)) pe_int) pe_int (nomark _)))) (fun _ _ _ _ _ => (pv 4)))
  (pss_one (ps_ret (pe_tup (pa_cons (pv 2) (pa_cons (pv 3) pa_nil))))))), ?_⟩
  refine ⟨_, rfl, a, rfl, ⟨_, hS⟩, fun D nD => ?_⟩
  refine lc_list (K := K) (a := a) (xs := xs) (fun i H' => ∃ ys, Ext H H' ∧ Kp H H' ∧ H' D = some (.lst ys) ∧ KvL H' ys ((rows.take i).filter (bitK l 0))) ⟨[], Ext.new nD, Kp.new nD, upd_same, KvL.nil⟩ (fun i H' _ ⟨_, x, _⟩ => x.seq hS) ?_ ?_
  · rintro i y H' hi ⟨ys, x, k, hD, hy⟩
    have hlt := (List.getElem?_eq_some_iff.mp hi).1
    have hri : rows[i]? = some (rows[i]'(by omega)) := List.getElem?_eq_getElem _
    obtain ⟨qe, rfl, hqe, hqx⟩ := (hk.gr x.gr).at_ i y _ hi hri
    have h0e := h0 _ (List.getElem_mem (show i < rows.length by omega))
    generalize rows[i]'(by omega) = e at hri hqe hqx h0e
    obtain ⟨m, hm⟩ := Int.eq_ofNat_of_zero_le (Int.ediv_nonneg h0e (Int.le_of_lt (show (0 : Int) < 2 ^ l from Int.pow_pos (by decide))))
    refine ⟨rfl, _, rfl, qe, _, 0, _, rfl, rfl, SqT.of hqe, rfl, _, rfl, _, l, rfl, rfl, m, by rw [hm], rfl, rfl, _, rfl, ite2 (fun c => ?_) (fun c => ?_)⟩
    · have c' : ((m % 2 : Nat) : Int) = 0 := V.int.inj (of_decide_eq_true c)
      have hb : bitK l 0 e = true := decide_eq_true (by rw [hm]; omega)
      refine ⟨_, rfl, ys, hD, ?_, ys ++ [.ref qe], x.mut nD, k.trans (Kp.lst hD), upd_same, ?_⟩
      · have := hy.len
        have := List.length_filter_le (bitK l 0) (rows.take i)
        rw [List.length_take] at this
        omega
      · rw [take_filter _ _ hri, hb]
        exact (hy.gr (Kp.lst hD).gr).snoc ((Kp.lst hD) _ _ hqe True.intro) hqx
    · have c' : ¬ ((m % 2 : Nat) : Int) = 0 := fun z => c (decide_eq_true (by rw [z]))
      have hb : bitK l 0 e = false := decide_eq_false (by rw [hm]; omega)
      refine ⟨ys, x, k, hD, ?_⟩
      rw [take_filter _ _ hri, hb]
      simpa using hy
  rintro H1 ⟨ys, x1, k1, hD1, hy1⟩
  rw [hxl, List.take_length] at hy1
  refine ⟨_, rfl, a, rfl, ⟨_, x1.seq hS⟩, fun D2 nD2 => ?_⟩
  refine lc_list (K := K) (a := a) (xs := xs) (fun i H' => ∃ zs, Ext H1 H' ∧ Kp H1 H' ∧ H' D2 = some (.lst zs) ∧ KvL H' zs ((rows.take i).filter (bitK l 1))) ⟨[], Ext.new nD2, Kp.new nD2, upd_same, KvL.nil⟩ (fun i H' _ ⟨_, x, _⟩ => (x1.trans x).seq hS) ?_ ?_
  · rintro i y H' hi ⟨zs, x, k, hD, hy⟩
    have hlt := (List.getElem?_eq_some_iff.mp hi).1
    have hri : rows[i]? = some (rows[i]'(by omega)) := List.getElem?_eq_getElem _
    obtain ⟨qe, rfl, hqe, hqx⟩ := (hk.gr (x1.trans x).gr).at_ i y _ hi hri
    have h0e := h0 _ (List.getElem_mem (show i < rows.length by omega))
    generalize rows[i]'(by omega) = e at hri hqe hqx h0e
    obtain ⟨m, hm⟩ := Int.eq_ofNat_of_zero_le (Int.ediv_nonneg h0e (Int.le_of_lt (show (0 : Int) < 2 ^ l from Int.pow_pos (by decide))))
    refine ⟨rfl, _, rfl, qe, _, 0, _, rfl, rfl, SqT.of hqe, rfl, _, rfl, _, l, rfl, rfl, m, by rw [hm], rfl, rfl, _, rfl, ite2 (fun c => ?_) (fun c => ?_)⟩
    · have c' : ((m % 2 : Nat) : Int) = 1 := V.int.inj (of_decide_eq_true c)
      have hb : bitK l 1 e = true := decide_eq_true (by rw [hm]; omega)
      refine ⟨_, rfl, zs, hD, ?_, zs ++ [.ref qe], x.mut nD2, k.trans (Kp.lst hD), upd_same, ?_⟩
      · have := hy.len
        have := List.length_filter_le (bitK l 1) (rows.take i)
        rw [List.length_take] at this
        omega
      · rw [take_filter _ _ hri, hb]
        exact (hy.gr (Kp.lst hD).gr).snoc ((Kp.lst hD) _ _ hqe True.intro) hqx
    · have c' : ¬ ((m % 2 : Nat) : Int) = 1 := fun z => c (decide_eq_true (by rw [z]))
      have hb : bitK l 1 e = false := decide_eq_false (by rw [hm]; omega)
      refine ⟨zs, x, k, hD, ?_⟩
      rw [take_filter _ _ hri, hb]
      simpa using hy
  rintro H2 ⟨zs, x2, k2, hD2, hy2⟩
  rw [hxl, List.take_length] at hy2
  refine ⟨_, rfl, _, rfl, by show 2 ≤ sizeLine; decide, fun p np => ?_⟩
  have u := Ext.new (o := .tup [.ref D, .ref D2]) np
  have ku := Kp.new (o := .tup [.ref D, .ref D2]) np
  exact q p D D2 ys zs _ ((x1.trans x2).trans u) ((k1.trans k2).trans ku) nD (x1.free nD2) upd_same ((x2.trans u).lst hD1) (u.lst hD2) (hy1.gr (x2.trans u).gr) (hy2.gr u.gr)
def spPart (K : PySem.W.Frag) (Fam : Sys → Prop) (k : Nat) : Sp := fun vs H Q _ => ∃ (S : Sys) (a : Addr) (xs : List V) (rows : List (Int × Str)) (l r : Nat), Fam S ∧ vs = [.ref S.f, .ref a, .int (l : Int)] ∧ SqL K H a xs ∧ KvL H xs rows ∧ RowsOk l rows ∧ rows.length ≤ 1000 ∧ (l < k ∧ l ≤ 20) ∧ S.ok H (r + costP l rows.length) ∧
  ∀ v H', Ext H H' → S.ok H' r → S.den H' v (partT l rows) → Q v H'
theorem ok_part1 {cc : Addr} {k : Nat} (T : Txt K mg cc) (A : SlA P w K mg base Fam) (C_none_seal : Cal P w K mg base 2 "none_seal" (spNone Fam) []) (C_parted : Cal P w K mg base 1 "parted" (spParted K) []) (C_part_top : Cal P w K mg base (k + 3) "part_top" (spPart K Fam k) []) : Cal P w K mg base (k + 4) "part_top" (spPart K Fam (k + 1)) [] := by
  have Z := T.Z
  refine cal_of T.d_part_top sc_part_top (fun vs H Q E h => ?_) (fun f cdv A' outer s H vs Q E hr h => ?_)
  · obtain ⟨S, a, xs, rows, l, r, _, rfl, _⟩ := h
    rfl
  obtain ⟨S, a, xs, rows, l, r, hF, rfl, hS, hk, hro, hl, hlk, hok, q⟩ := h
  have G := A.good hF
  have hxl := hk.len
  refine ⟨_, (pss_cons (ps_if (pt_cmpR op_eq (pe_callB call_len_seq rfl Z.len PySem.boot_len (pa_cons (pv 1) pa_nil)) pe_int (nomark _)) (pss_one (ps_ret (pe_c C_none_seal hr (by omega) rfl (pa_cons (pv 0) pa_nil)))) pss_nil)
  (pss_cons (ps_if (pt_cmpR op_eq (pe_callB call_len_seq rfl Z.len PySem.boot_len (pa_cons (pv 1) pa_nil)) pe_int (nomark _)) (pss_one (ps_ret (pe_sl (i := 0) A.held hr (by omega) rfl (by first | exact Or.inl rfl | exact Or.inr (Or.inl rfl) | exact Or.inr (Or.inr rfl)) (pa_cons pe_str (pa_cons (pe_ix ix_tup (pe_ix ix_list (pv 1) pe_int (fun _ _ => rfl)) pe_int (fun _ _ => rfl)) (pa_cons (pe_ix ix_tup (pe_ix ix_list (pv 1) pe_int (fun _ _ => rfl)) pe_int (fun _ _ => rfl)) pa_nil)))))) pss_nil)
  (pss_cons (ps_set (i := 3) sc_part_top.nd rfl (Or.inl rfl) (pe_c C_parted hr (by omega) rfl (pa_cons (pv 1) (pa_cons (pe_op op_sub (pv 2) pe_int) pa_nil))))
  (pss_one (ps_ret (pe_sl (i := 0) A.held hr (by omega) rfl (by first | exact Or.inl rfl | exact Or.inr (Or.inl rfl) | exact Or.inr (Or.inr rfl)) (pa_cons pe_str (pa_cons (pe_c C_part_top hr (by omega) rfl (pa_cons (pv 0) (pa_cons (pe_ix ix_tup (pv 3) pe_int (fun _ _ => rfl)) (pa_cons (pe_op op_sub (pv 2) pe_int) pa_nil)))) (pa_cons (pe_c C_part_top hr (by omega) rfl (pa_cons (pv 0) (pa_cons (pe_ix ix_tup (pv 3) pe_int (fun _ _ => rfl)) (pa_cons (pe_op op_sub (pv 2) pe_int) pa_nil)))) pa_nil))))))))), ?_⟩
  refine ⟨_, rfl, a, xs, rfl, .inl hS, rfl, _, rfl, ite2 (fun c => ?_) (fun c => ?_)⟩
  · have c' : (xs.length : Int) = 0 := V.int.inj (of_decide_eq_true c)
    have e : rows = [] := List.eq_nil_of_length_eq_zero (by omega)
    subst e
    refine ⟨_, rfl, S, r, hF, rfl, hok, fun v H' x ok d => q v H' x ok ?_⟩
    rw [partT_nil]
    exact d
  have n0 : xs.length ≠ 0 := fun z => c (decide_eq_true (by rw [z] <;> rfl))
  have cpos : costP l rows.length = rows.length * (2 * l + 1) := if_neg (by omega)
  refine ⟨_, rfl, a, xs, rfl, .inl hS, rfl, _, rfl, ite2 (fun c => ?_) (fun c => ?_)⟩
  · have c' : (xs.length : Int) = 1 := V.int.inj (of_decide_eq_true c)
    match rows, hk, hxl, q, cpos, hok with
    | [e], hk, hxl, q, cpos, hok =>
      obtain ⟨v0, hv0⟩ : ∃ v0, xs[0]? = some v0 := ⟨xs[0]'(by omega), List.getElem?_eq_getElem _⟩
      obtain ⟨qe, rfl, hqe, hqx⟩ := hk.at_ 0 v0 e hv0 rfl
      have h1 : 1 ≤ costP l ([e] : List (Int × Str)).length := by rw [cpos]; show 1 ≤ 1 * _; omega
      refine ⟨S, _, hF, rfl, hok, _, rfl, a, xs, 0, _, rfl, rfl, hS, atI_nat hv0, qe, _, 0, _, rfl, rfl, SqT.of hqe, rfl, _, rfl, a, xs, 0, _, rfl, rfl, hS, atI_nat hv0, qe, _, 1, _, rfl, rfl, SqT.of hqe, rfl, r, "row", .int e.1, .str e.2, _, _, rfl, by decide +kernel, G.less hok (by omega), G.int _ hok, G.str _ hok hqx, fun v H' x ok d => q v H' x ok ?_⟩
      rw [partT_one]
      exact d
    | [], _, hxl, _, _, _ => exact absurd hxl n0
    | _ :: _ :: _, _, hxl, _, _, _ => simp at hxl; omega
  have n1 : xs.length ≠ 1 := fun z => c (decide_eq_true (by rw [z] <;> rfl))
  have h2 : 2 ≤ rows.length := by omega
  obtain ⟨l', rfl⟩ : ∃ l', l = l' + 1 := by
    cases l with
    | zero => have := hro.zero; omega
    | succ l' => exact ⟨l', rfl⟩
  have el : ((l' + 1 : Nat) : Int) - 1 = (l' : Int) := by omega
  have hsp := filter_split (rows := rows) l'
  have hcs := costP_split (l := l') hsp h2
  refine ⟨_, rfl, _, rfl, _, 1, rfl, rfl, a, xs, rows, l', by rw [← el]; rfl, hS, hk, hro.1, hl, fun qb p1 p2 ys zs H1 x1 k1 _ _ hqb hp1 hp2 hy hz => ?_⟩
  have ok1 := G.keep k1 hok
  have lf1 := List.length_filter_le (bitK l' 0) rows
  have lf2 := List.length_filter_le (bitK l' 1) rows
  refine ⟨S, _, hF, rfl, ok1, _, rfl, _, rfl, qb, _, 0, .ref p1, rfl, rfl, SqT.of hqb, rfl, _, rfl, _, 1, rfl, rfl, S, p1, ys, rows.filter (bitK l' 0), l', r + 1 + costP l' (rows.filter (bitK l' 1)).length, hF, by rw [← el]; rfl, SqL.of hp1, hy, hro.part, by omega, by omega, G.less ok1 (by omega), fun v1 H2 x2 ok2 d1 => ?_⟩
  refine ⟨_, rfl, _, rfl, qb, _, 1, .ref p2, rfl, rfl, SqT.of (x2.tup hqb), rfl, _, rfl, _, 1, rfl, rfl, S, p2, zs, rows.filter (bitK l' 1), l', r + 1, hF, by rw [← el]; rfl, SqL.of (x2.lst hp2), hz.gr x2.gr, hro.part, by omega, by omega, G.less ok2 (by omega), fun v2 H3 x3 ok3 d2 => ?_⟩
  refine ⟨r, "fork", _, _, v1, v2, rfl, by decide +kernel, ok3, G.mono x3.gr d1, d2, fun v H4 x4 ok4 d4 => q v H4 (((x1.trans x2).trans x3).trans x4) ok4 ?_⟩
  rw [partT_more h2]
  exact d4
theorem ok_part {cc : Addr} (T : Txt K mg cc) (A : SlA P w K mg base Fam) (C_none_seal : Cal P w K mg base 2 "none_seal" (spNone Fam) []) (C_parted : Cal P w K mg base 1 "parted" (spParted K) []) : ∀ k : Nat, Cal P w K mg base (k + 3) "part_top" (spPart K Fam k) []
  | 0 => by
    obtain ⟨f, fd, ps, ds, F, m, kp, b, v⟩ := (cal_no (P := P) (w := w) (base := base) T.d_part_top 3).ex
    exact ⟨f, fd, ps, ds, F.imp fun vs H Q E h => by obtain ⟨_, _, _, _, _, _, _, _, _, _, _, _, z, _⟩ := h; exact absurd z.1 (Nat.not_lt_zero _), m, kp, b, v⟩
  | k + 1 => ok_part1 T A C_none_seal C_parted (ok_part T A C_none_seal C_parted k)
end

section
variable {P : Program} {w : World} {K : PySem.W.Frag} {mg : Str → Option Value} {base : Heap} {Fam : Sys → Prop}
theorem ok_lawpart1 {cc : Addr} {k : Nat} (T : Txt K mg cc) (A : SlA P w K mg base Fam) (C__law_part : Cal P w K mg base (k + 2) "_law_part" (spPart K Fam k) []) : Cal P w K mg base (k + 3) "_law_part" (spPart K Fam (k + 1)) [] := by
  have Z := T.Z
  refine cal_of T.d__law_part sc__law_part (fun vs H Q E h => ?_) (fun f cdv A' outer s H vs Q E hr h => ?_)
  · obtain ⟨S, a, xs, rows, l, r, _, rfl, _⟩ := h
    rfl
  obtain ⟨S, a, xs, rows, l, r, hF, rfl, hS, hk, hro, hl, hlk, hok, q⟩ := h
  have G := A.good hF
  have hxl := hk.len
  have e16 : sizeLine = 16777216 := sizeLine_eq
  have hkk : k ≤ 1000 := by
    have := hr.dp
    have e0 : recursionLimit = 1000 := rfl
    omega
  refine ⟨_, (pss_cons (ps_if (pt_cmpR op_eq (pe_callB call_len_seq rfl Z.len PySem.boot_len (pa_cons (pv 1) pa_nil)) pe_int (nomark _)) (pss_one (ps_ret (pe_sl (i := 0) A.held hr (by omega) rfl (by first | exact Or.inl rfl | exact Or.inr (Or.inl rfl) | exact Or.inr (Or.inr rfl)) (pa_cons pe_str (pa_cons pe_int (pa_cons pe_int pa_nil)))))) pss_nil)
  (pss_cons (ps_if (pt_cmpR op_eq (pe_callB call_len_seq rfl Z.len PySem.boot_len (pa_cons (pv 1) pa_nil)) pe_int (nomark _)) (pss_one (ps_ret (pe_sl (i := 0) A.held hr (by omega) rfl (by first | exact Or.inl rfl | exact Or.inr (Or.inl rfl) | exact Or.inr (Or.inr rfl)) (pa_cons pe_str (pa_cons (pe_ix ix_tup (pe_ix ix_list (pv 1) pe_int (fun _ _ => rfl)) pe_int (fun _ _ => rfl)) (pa_cons (pe_ix ix_tup (pe_ix ix_list (pv 1) pe_int (fun _ _ => rfl)) pe_int (fun _ _ => rfl)) pa_nil)))))) pss_nil)
  (pss_cons (ps_set (i := 3) sc__law_part.nd rfl (Or.inr rfl) (pe_op op_oneShl pe_int (pe_op op_sub (pv 2) pe_int)))
  (pss_cons (ps_setLc (i := 4) (own := [("_law_row", 6)]) (g := gName 6) (tt := _) rfl sc__law_part.nd rfl rfl (sw_true rfl rfl rfl (by decide +kernel)) (pi_list (pv 1)) (blkOk_by (N := N__law_part) (sc := defScope s__law_part) (by decide +kernel)) (fun _ _ _ _ _ => (pg_name (i := 6) sc__law_part.nd rfl (Or.inl rfl))) (fun _ _ _ _ _ => (pts_one (pt_cmpR op_eq (pe_op op_mod (pe_op op_fdiv (pe_ix (r := rIxT K) ix_tup (pv 6) pe_int (fun _ _ => rfl)) (pv 3)) pe_int) pe_int (nomark _)))) (fun _ _ _ _ _ => (pv 6)))
  (pss_cons (ps_setLc (i := 5) (own := [("_law_row", 6)]) (g := gName 6) (tt := _) rfl sc__law_part.nd rfl rfl (sw_true rfl rfl rfl (by decide +kernel)) (pi_list (pv 1)) (blkOk_by (N := N__law_part) (sc := defScope s__law_part) (by decide +kernel)) (fun _ _ _ _ _ => (pg_name (i := 6) sc__law_part.nd rfl (Or.inl rfl))) (fun _ _ _ _ _ => (pts_one (pt_cmpR op_eq (pe_op op_mod (pe_op op_fdiv (pe_ix (r := rIxT K) ix_tup (pv 6) pe_int (fun _ _ => rfl)) (pv 3)) pe_int) pe_int (nomark _)))) (fun _ _ _ _ _ => (pv 6)))
  (pss_one (ps_ret (pe_sl (i := 0) A.held hr (by omega) rfl (by first | exact Or.inl rfl | exact Or.inr (Or.inl rfl) | exact Or.inr (Or.inr rfl)) (pa_cons pe_str (pa_cons (pe_c C__law_part hr (by omega) rfl (pa_cons (pv 0) (pa_cons (pv 4) (pa_cons (pe_op op_sub (pv 2) pe_int) pa_nil)))) (pa_cons (pe_c C__law_part hr (by omega) rfl (pa_cons (pv 0) (pa_cons (pv 5) (pa_cons (pe_op op_sub (pv 2) pe_int) pa_nil)))) pa_nil))))))))))), ?_⟩
  refine ⟨_, rfl, a, xs, rfl, .inl hS, rfl, _, rfl, ite2 (fun c => ?_) (fun c => ?_)⟩
  · have c' : (xs.length : Int) = 0 := V.int.inj (of_decide_eq_true c)
    have e : rows = [] := List.eq_nil_of_length_eq_zero (by omega)
    subst e
    refine ⟨S, _, hF, rfl, hok, r, "none", .int 0, .int 0, _, _, rfl, by decide +kernel, hok, G.int 0 hok, G.int 0 hok, fun v H' x ok d => q v H' x ok ?_⟩
    rw [partT_nil]
    exact d
  have n0 : xs.length ≠ 0 := fun z => c (decide_eq_true (by rw [z] <;> rfl))
  have cpos : costP l rows.length = rows.length * (2 * l + 1) := if_neg (by omega)
  refine ⟨_, rfl, a, xs, rfl, .inl hS, rfl, _, rfl, ite2 (fun c => ?_) (fun c => ?_)⟩
  · have c' : (xs.length : Int) = 1 := V.int.inj (of_decide_eq_true c)
    match rows, hk, hxl, q, cpos, hok with
    | [e], hk, hxl, q, cpos, hok =>
      obtain ⟨v0, hv0⟩ : ∃ v0, xs[0]? = some v0 := ⟨xs[0]'(by omega), List.getElem?_eq_getElem _⟩
      obtain ⟨qe, rfl, hqe, hqx⟩ := hk.at_ 0 v0 e hv0 rfl
      have h1 : 1 ≤ costP l ([e] : List (Int × Str)).length := by rw [cpos]; show 1 ≤ 1 * _; omega
      refine ⟨S, _, hF, rfl, hok, _, rfl, a, xs, 0, _, rfl, rfl, hS, atI_nat hv0, qe, _, 0, _, rfl, rfl, SqT.of hqe, rfl, _, rfl, a, xs, 0, _, rfl, rfl, hS, atI_nat hv0, qe, _, 1, _, rfl, rfl, SqT.of hqe, rfl, r, "row", .int e.1, .str e.2, _, _, rfl, by decide +kernel, G.less hok (by omega), G.int _ hok, G.str _ hok hqx, fun v H' x ok d => q v H' x ok ?_⟩
      rw [partT_one]
      exact d
    | [], _, hxl, _, _, _ => exact absurd hxl n0
    | _ :: _ :: _, _, hxl, _, _, _ => simp at hxl; omega
  have n1 : xs.length ≠ 1 := fun z => c (decide_eq_true (by rw [z] <;> rfl))
  have h2 : 2 ≤ rows.length := by omega
  obtain ⟨l', rfl⟩ : ∃ l', l = l' + 1 := by
    cases l with
    | zero => have := hro.zero; omega
    | succ l' => exact ⟨l', rfl⟩
  have el : ((l' + 1 : Nat) : Int) - 1 = (l' : Int) := by omega
  have hsp := filter_split (rows := rows) l'
  have hcs := costP_split (l := l') hsp h2
  have hM : (0 : Int) < 2 ^ l' := Int.pow_pos (by decide)
  have hM2 : (2 : Int) ^ l' < 1073741824 := by
    have h1 : 2 ^ l' ≤ 2 ^ 20 := Nat.pow_le_pow_right (by decide) (by omega)
    have h2 : ((2 ^ l' : Nat) : Int) = 2 ^ l' := by rw [Int.natCast_pow]; rfl
    have h3 : (2 : Nat) ^ 20 = 1048576 := rfl
    omega
  refine ⟨_, rfl, _, 1, rfl, rfl, l', rfl, by rw [← el], by omega, ?_⟩
  -- the two parts
  refine ⟨_, rfl, a, rfl, ⟨_, hS⟩, fun D nD => ?_⟩
  refine lc_list (K := K) (a := a) (xs := xs) (fun i H' => ∃ ys, Ext H H' ∧ Kp H H' ∧ H' D = some (.lst ys) ∧ KvL H' ys ((rows.take i).filter (bitK l' 0))) ⟨[], Ext.new nD, Kp.new nD, upd_same, KvL.nil⟩ (fun i H' _ ⟨_, x, _⟩ => x.seq hS) ?_ ?_
  · rintro i y H' hi ⟨ys, x, k, hD, hy⟩
    have hlt := (List.getElem?_eq_some_iff.mp hi).1
    have hri : rows[i]? = some (rows[i]'(by omega)) := List.getElem?_eq_getElem _
    obtain ⟨qe, rfl, hqe, hqx⟩ := (hk.gr x.gr).at_ i y _ hi hri
    generalize rows[i]'(by omega) = e at hri hqe hqx
    refine ⟨rfl, _, rfl, qe, _, 0, _, rfl, rfl, SqT.of hqe, rfl, _, rfl, _, _, rfl, rfl, ⟨hM, hM2⟩, _, 2, rfl, rfl, by show (0 : Int) < 2; decide, rfl, _, rfl, ite2 (fun c => ?_) (fun c => ?_)⟩
    · have c' : e.1 / 2 ^ l' % 2 = 0 := V.int.inj (of_decide_eq_true c)
      have hb : bitK l' 0 e = true := decide_eq_true c'
      refine ⟨_, rfl, ys, hD, ?_, ys ++ [.ref qe], x.mut nD, k.trans (Kp.lst hD), upd_same, ?_⟩
      · have := hy.len
        have := List.length_filter_le (bitK l' 0) (rows.take i)
        rw [List.length_take] at this
        omega
      · rw [take_filter _ _ hri, hb]
        exact (hy.gr (Kp.lst hD).gr).snoc ((Kp.lst hD) _ _ hqe True.intro) hqx
    · have c' : ¬ e.1 / 2 ^ l' % 2 = 0 := fun z => c (decide_eq_true (congrArg V.int z))
      have hb : bitK l' 0 e = false := decide_eq_false c'
      refine ⟨ys, x, k, hD, ?_⟩
      rw [take_filter _ _ hri, hb]
      simpa using hy
  rintro H1 ⟨ys, x1, k1, hD1, hy1⟩
  rw [hxl, List.take_length] at hy1
  refine ⟨_, rfl, a, rfl, ⟨_, x1.seq hS⟩, fun D2 nD2 => ?_⟩
  refine lc_list (K := K) (a := a) (xs := xs) (fun i H' => ∃ zs, Ext H1 H' ∧ Kp H1 H' ∧ H' D2 = some (.lst zs) ∧ KvL H' zs ((rows.take i).filter (bitK l' 1))) ⟨[], Ext.new nD2, Kp.new nD2, upd_same, KvL.nil⟩ (fun i H' _ ⟨_, x, _⟩ => (x1.trans x).seq hS) ?_ ?_
  · rintro i y H' hi ⟨zs, x, k, hD, hy⟩
    have hlt := (List.getElem?_eq_some_iff.mp hi).1
    have hri : rows[i]? = some (rows[i]'(by omega)) := List.getElem?_eq_getElem _
    obtain ⟨qe, rfl, hqe, hqx⟩ := (hk.gr (x1.trans x).gr).at_ i y _ hi hri
    generalize rows[i]'(by omega) = e at hri hqe hqx
    refine ⟨rfl, _, rfl, qe, _, 0, _, rfl, rfl, SqT.of hqe, rfl, _, rfl, _, _, rfl, rfl, ⟨hM, hM2⟩, _, 2, rfl, rfl, by show (0 : Int) < 2; decide, rfl, _, rfl, ite2 (fun c => ?_) (fun c => ?_)⟩
    · have c' : e.1 / 2 ^ l' % 2 = 1 := V.int.inj (of_decide_eq_true c)
      have hb : bitK l' 1 e = true := decide_eq_true c'
      refine ⟨_, rfl, zs, hD, ?_, zs ++ [.ref qe], x.mut nD2, k.trans (Kp.lst hD), upd_same, ?_⟩
      · have := hy.len
        have := List.length_filter_le (bitK l' 1) (rows.take i)
        rw [List.length_take] at this
        omega
      · rw [take_filter _ _ hri, hb]
        exact (hy.gr (Kp.lst hD).gr).snoc ((Kp.lst hD) _ _ hqe True.intro) hqx
    · have c' : ¬ e.1 / 2 ^ l' % 2 = 1 := fun z => c (decide_eq_true (congrArg V.int z))
      have hb : bitK l' 1 e = false := decide_eq_false c'
      refine ⟨zs, x, k, hD, ?_⟩
      rw [take_filter _ _ hri, hb]
      simpa using hy
  rintro H2 ⟨zs, x2, k2, hD2, hy2⟩
  rw [hxl, List.take_length] at hy2
  have ok2 := G.keep (k1.trans k2) hok
  have lf1 := List.length_filter_le (bitK l' 0) rows
  have lf2 := List.length_filter_le (bitK l' 1) rows
  refine ⟨S, _, hF, rfl, ok2, _, rfl, _, rfl, _, rfl, _, 1, rfl, rfl, S, D, ys, rows.filter (bitK l' 0), l', r + 1 + costP l' (rows.filter (bitK l' 1)).length, hF, by rw [← el]; rfl, SqL.of (x2.lst hD1), hy1.gr x2.gr, hro.part, by omega, by omega, G.less ok2 (by omega), fun v1 H3 x3 ok3 d1 => ?_⟩
  refine ⟨_, rfl, _, rfl, _, rfl, _, 1, rfl, rfl, S, D2, zs, rows.filter (bitK l' 1), l', r + 1, hF, by rw [← el]; rfl, SqL.of (x3.lst hD2), hy2.gr x3.gr, hro.part, by omega, by omega, G.less ok3 (by omega), fun v2 H4 x4 ok4 d2 => ?_⟩
  refine ⟨r, "fork", _, _, v1, v2, rfl, by decide +kernel, ok4, G.mono x4.gr d1, d2, fun v H5 x5 ok5 d5 => q v H5 ((((x1.trans x2).trans x3).trans x4).trans x5) ok5 ?_⟩
  rw [partT_more h2]
  exact d5
theorem ok_lawpart {cc : Addr} (T : Txt K mg cc) (A : SlA P w K mg base Fam) : ∀ k : Nat, Cal P w K mg base (k + 2) "_law_part" (spPart K Fam k) []
  | 0 => by
    obtain ⟨f, fd, ps, ds, F, m, kp, b, v⟩ := (cal_no (P := P) (w := w) (base := base) T.d__law_part 2).ex
    exact ⟨f, fd, ps, ds, F.imp fun vs H Q E h => by obtain ⟨_, _, _, _, _, _, _, _, _, _, _, _, z, _⟩ := h; exact absurd z.1 (Nat.not_lt_zero _), m, kp, b, v⟩
  | k + 1 => ok_lawpart1 T A (ok_lawpart T A k)
end

/-! ### a table: its dict as a row of pairs -/
def convT (kvs : List (Int × Str)) : List (Key × V) := kvs.map fun e => ((Sum.inl e.1 : Key), V.str e.2)
def putI (kvs : List (Int × Str)) (k : Int) (x : Str) : List (Int × Str) := if (kvs.any fun e => decide (e.1 = k)) = true then kvs.map (fun e => if e.1 = k then (e.1, x) else e) else kvs ++ [(k, x)]
def popI (kvs : List (Int × Str)) (k : Int) : List (Int × Str) := kvs.filter fun e => decide (e.1 ≠ k)
def getI (kvs : List (Int × Str)) (k : Int) : Option Str := (kvs.find? fun e => decide (e.1 = k)).map (·.2)
theorem inl_iff (a k : Int) : ((Sum.inl a : Key) = Sum.inl k) ↔ a = k := ⟨Sum.inl.inj, fun h => by rw [h]⟩
theorem conv_put (kvs : List (Int × Str)) (k : Int) (x : Str) : putK (convT kvs) (.inl k) (.str x) = convT (putI kvs k x) := by
  unfold putK putI convT
  rw [List.any_map]
  have e : ((fun kv : Key × V => decide (kv.1 = (Sum.inl k : Key))) ∘ fun e : Int × Str => ((Sum.inl e.1 : Key), V.str e.2)) = fun e : Int × Str => decide (e.1 = k) := by
    funext e
    exact decide_eq_decide.mpr (inl_iff _ _)
  rw [e]
  by_cases h : (kvs.any fun e => decide (e.1 = k)) = true
  · rw [if_pos h, if_pos h, List.map_map, List.map_map]
    refine List.map_congr_left fun e _ => ?_
    show (if (Sum.inl e.1 : Key) = Sum.inl k then _ else _) = _
    by_cases q : e.1 = k
    · rw [if_pos (by rw [q])]
      show _ = (fun e : Int × Str => ((Sum.inl e.1 : Key), V.str e.2)) (if e.1 = k then (e.1, x) else e)
      rw [if_pos q]
    · rw [if_neg (fun z => q (Sum.inl.inj z))]
      show _ = (fun e : Int × Str => ((Sum.inl e.1 : Key), V.str e.2)) (if e.1 = k then (e.1, x) else e)
      rw [if_neg q]
  · rw [if_neg h, if_neg h, List.map_append]
    rfl
theorem conv_pop (kvs : List (Int × Str)) (k : Int) : dropK (convT kvs) (.inl k) = convT (popI kvs k) := by
  unfold dropK popI convT
  rw [List.filter_map]
  congr 1
  refine List.filter_congr fun e _ => ?_
  exact decide_eq_decide.mpr (not_congr (inl_iff _ _))
theorem conv_get (kvs : List (Int × Str)) (k : Int) : valV (convT kvs) (.inl k) = (getI kvs k).map V.str := by
  unfold valV getI convT
  rw [List.find?_map]
  have e : ((fun kv : Key × V => decide (kv.1 = (Sum.inl k : Key))) ∘ fun e : Int × Str => ((Sum.inl e.1 : Key), V.str e.2)) = fun e : Int × Str => decide (e.1 = k) := by
    funext e
    exact decide_eq_decide.mpr (inl_iff _ _)
  rw [e, Option.map_map, Option.map_map]
  rfl
def tbF (f : Addr) (depth : Int) (d : Addr) : List (Str × V) := [("seal", .ref f), ("depth", .int depth), ("held", .ref d)]
theorem tbF_seal (f : Addr) (n : Int) (d : Addr) : (tbF f n d).lookup ("seal" : Str) = some (.ref f) := by kernel_rfl
theorem tbF_depth (f : Addr) (n : Int) (d : Addr) : (tbF f n d).lookup ("depth" : Str) = some (.int n) := by kernel_rfl
theorem tbF_held (f : Addr) (n : Int) (d : Addr) : (tbF f n d).lookup ("held" : Str) = some (.ref d) := by kernel_rfl
theorem tbF_mk (f : Addr) (n : Int) (d : Addr) : putF "held" (.ref d) (putF "depth" (.int n) (putF "seal" (.ref f) [])) = tbF f n d := by kernel_rfl
theorem tbF_no (f : Addr) (n : Int) (d : Addr) : (tbF f n d).lookup ("asked" : Str) = none ∧ (tbF f n d).lookup ("put" : Str) = none ∧ (tbF f n d).lookup ("cut" : Str) = none ∧ (tbF f n d).lookup ("value" : Str) = none ∧ (tbF f n d).lookup ("rows" : Str) = none ∧ (tbF f n d).lookup ("head" : Str) = none ∧ (tbF f n d).lookup ("way" : Str) = none ∧ (tbF f n d).lookup ("twin" : Str) = none :=
  ⟨by kernel_rfl, by kernel_rfl, by kernel_rfl, by kernel_rfl, by kernel_rfl, by kernel_rfl, by kernel_rfl, by kernel_rfl⟩
section
variable {P : Program} {w : World} {K : PySem.W.Frag} {mg : Str → Option Value} {base : Heap} {C : Addr}
def spAsked (mg : Str → Option Value) (C : Addr) : Sp := fun vs H Q E => ∃ (f p dx d : Addr) (l : Nat) (k : Int), vs = [.ref p, .int k] ∧ H p = some (.ins C dx (tbF f (l : Int) d)) ∧ l ≤ 1000 ∧
  (0 ≤ k ∧ k < 2 ^ l → Q .non H) ∧ (¬ (0 ≤ k ∧ k < 2 ^ l) → ∀ D, mg "NoPlace" = some (.ref D) → E (.ref D) none H)
theorem ok_askedN {cc : Addr} (T : Txt K mg cc) (KT : K_Table K mg C) : MetN P w K mg base 1 C "asked" (spAsked mg C) := by
  obtain ⟨C_NoPlace, g_NoPlace, F_NoPlace⟩ := T.x_NoPlace.ex
  refine metN_of KT.cl KT.m_asked sc_Table_asked (fun vs H Q E h => ?_) (fun f cdv A' outer s H vs Q E hr h => ?_)
  · obtain ⟨f, p, dx, d, l, k, rfl, _⟩ := h
    rfl
  obtain ⟨f, p, dx, d, l, k, rfl, hp, hl, q1, q2⟩ := h
  refine ⟨_, (pss_one (ps_if (pt_not (pt_chain op_le op_lt pe_int (pv 1) (pe_op op_oneShl pe_int (pe_fld (pv 0) rfl)))) (pss_one (ps_raiseXN F_NoPlace g_NoPlace rfl (L2N.takes_of rfl rfl rfl rfl) rfl)) pss_nil)), ?_⟩
  refine ⟨_, rfl, _, _, rfl, rfl, _, rfl, ite2 (fun c => ?_) (fun c => ?_)⟩
  · have c' : (0 : Int) ≤ k := of_decide_eq_true c
    refine ⟨_, rfl, p, C, dx, _, _, rfl, hp, KT.cl, KT.n_depth, tbF_depth _ _ _, l, rfl, rfl, by omega, _, _, rfl, rfl, _, rfl, ?_⟩
    by_cases c2 : k < 2 ^ l
    · rw [decide_eq_true c2]
      exact iteF (q1 ⟨c', c2⟩)
    · rw [decide_eq_false c2]
      exact iteT (q2 (fun z => c2 z.2) _ g_NoPlace)
  · have c' : ¬ (0 : Int) ≤ k := of_decide_eq_false (Bool.eq_false_iff.mpr c)
    exact ⟨_, rfl, iteT (q2 (fun z => c' z.1) _ g_NoPlace)⟩
theorem ok_asked {cc : Addr} (T : Txt K mg cc) (KT : K_Table K mg C) : MetR P w K mg base 1 C "asked" (spAsked mg C) := (ok_askedN T KT).weak
theorem ExtO.dict {d : Addr} {H : Hp} {kvs : List (Key × V)} {o : HO} (h : H d = some (.dK kvs)) : ExtO d H (upd H d o) := by
  refine ⟨fun a u q e _ => by rw [upd_ne q]; exact e, fun a ks e => ⟨[], ?_⟩, (Kp.dK h).gr⟩
  rw [List.append_nil, upd_ne]
  · exact e
  · rintro rfl
    rw [h] at e
    cases e
structure TbAt (C : Addr) (f : Addr) (H : Hp) (p d : Addr) (l : Nat) (kvs : List (Int × Str)) : Prop where
  at_ : ∃ dx, H p = some (.ins C dx (tbF f (l : Int) d))
  held : H d = some (.dK (convT kvs))
  small : kvs.length ≤ 1000 ∧ l ≤ 1000
def spPut (mg : Str → Option Value) (C : Addr) : Sp := fun vs H Q E => ∃ (f p d : Addr) (l : Nat) (kvs : List (Int × Str)) (k : Int) (x : Str), vs = [.ref p, .int k, .str x] ∧ TbAt C f H p d l kvs ∧
  (0 ≤ k ∧ k < 2 ^ l → Q .non (upd H d (.dK (convT (putI kvs k x))))) ∧ (¬ (0 ≤ k ∧ k < 2 ^ l) → ∀ D, mg "NoPlace" = some (.ref D) → E (.ref D) none H)
theorem ok_putN {cc : Addr} (T : Txt K mg cc) (KT : K_Table K mg C) : MetN P w K mg base 2 C "put" (spPut mg C) := by
  have M_asked := ok_askedN (P := P) (w := w) (base := base) T KT
  refine metN_of KT.cl KT.m_put sc_Table_put (fun vs H Q E h => ?_) (fun f cdv A' outer s H vs Q E hr h => ?_)
  · obtain ⟨f, p, d, l, kvs, k, x, rfl, _⟩ := h
    rfl
  obtain ⟨f', p, d, l, kvs, k, x, rfl, ⟨⟨dx, hp⟩, hd, hz, hl⟩, q1, q2⟩ := h
  have hu := hu_of hr
  refine ⟨_, (pss_cons (ps_expr (pe_mtn M_asked (L2N.takes_of rfl rfl rfl rfl) hr (by omega) (pv 0) (pa_cons (pv 1) pa_nil)))
  (pss_one (ps_dput hu (pe_fld (pv 0) rfl) (pv 1) (pv 2) rfl))), ?_⟩
  refine ⟨_, rfl, p, dx, _, rfl, hp, (tbF_no _ _ _).1, _, rfl, f', p, dx, d, l, k, rfl, hp, hl, fun hk => ?_, fun hk D hD => q2 hk D hD⟩
  refine ⟨_, rfl, _, rfl, p, C, dx, _, _, rfl, hp, KT.cl, KT.n_held, tbF_held _ _ _, _, rfl, d, _, rfl, DPut.k (k := .inl k) hd (by unfold convT; rw [List.length_map, sizeLine_eq]; omega), ?_⟩
  rw [conv_put]
  exact q1 hk
theorem ok_put {cc : Addr} (T : Txt K mg cc) (KT : K_Table K mg C) : MetR P w K mg base 2 C "put" (spPut mg C) := (ok_putN T KT).weak
def spValue (mg : Str → Option Value) (C : Addr) : Sp := fun vs H Q E => ∃ (f p d : Addr) (l : Nat) (kvs : List (Int × Str)) (k : Int), vs = [.ref p, .int k] ∧ TbAt C f H p d l kvs ∧
  (0 ≤ k ∧ k < 2 ^ l → Q (((getI kvs k).map V.str).getD .non) H) ∧ (¬ (0 ≤ k ∧ k < 2 ^ l) → ∀ D, mg "NoPlace" = some (.ref D) → E (.ref D) none H)
theorem ok_value {cc : Addr} (T : Txt K mg cc) (KT : K_Table K mg C) : MetR P w K mg base 2 C "value" (spValue mg C) := by
  have M_asked := ok_asked (P := P) (w := w) (base := base) T KT
  refine metR_of KT.cl KT.m_value sc_Table_value (fun vs H Q E h => ?_) (fun f cdv A' outer s H vs Q E hr h => ?_)
  · obtain ⟨f, p, d, l, kvs, k, rfl, _⟩ := h
    rfl
  obtain ⟨f', p, d, l, kvs, k, rfl, ⟨⟨dx, hp⟩, hd, hz, hl⟩, q1, q2⟩ := h
  have hu := hu_of hr
  refine ⟨_, (pss_cons (ps_expr (pe_mtx M_asked (takes_of rfl rfl rfl rfl) hr (by omega) (pv 0) (pa_cons (pv 1) pa_nil)))
  (pss_one (ps_ret (pe_dget1 hu (pe_fld (pv 0) rfl) (pv 1) ⟨rfl, rfl, rfl, rfl⟩)))), ?_⟩
  refine ⟨_, rfl, p, dx, _, rfl, hp, (tbF_no _ _ _).1, _, rfl, f', p, dx, d, l, k, rfl, hp, hl, fun hk => ?_, fun hk D hD => q2 hk D hD⟩
  refine ⟨_, rfl, p, C, dx, _, _, rfl, hp, KT.cl, KT.n_held, tbF_held _ _ _, d, rfl, .inl ⟨_, .inl hd⟩, _, rfl, _, DGet.k (k := .inl k) hd, ?_⟩
  rw [conv_get]
  exact q1 hk
end

section
variable {P : Program} {w : World} {K : PySem.W.Frag} {mg : Str → Option Value} {base : Heap} {C : Addr}
def spCut (mg : Str → Option Value) (C : Addr) : Sp := fun vs H Q E => ∃ (f p d : Addr) (l : Nat) (kvs : List (Int × Str)) (k : Int), vs = [.ref p, .int k] ∧ TbAt C f H p d l kvs ∧
  (0 ≤ k ∧ k < 2 ^ l ∧ (getI kvs k).isSome = true → Q .non (upd H d (.dK (convT (popI kvs k))))) ∧ (¬ (0 ≤ k ∧ k < 2 ^ l ∧ (getI kvs k).isSome = true) → ∀ D, mg "NoPlace" = some (.ref D) → E (.ref D) none H)
theorem ok_cutN {cc : Addr} (T : Txt K mg cc) (KT : K_Table K mg C) : MetN P w K mg base 2 C "cut" (spCut mg C) := by
  obtain ⟨C_NoPlace, g_NoPlace, F_NoPlace⟩ := T.x_NoPlace.ex
  have M_asked := ok_askedN (P := P) (w := w) (base := base) T KT
  refine metN_of KT.cl KT.m_cut sc_Table_cut (fun vs H Q E h => ?_) (fun f cdv A' outer s H vs Q E hr h => ?_)
  · obtain ⟨f, p, d, l, kvs, k, rfl, _⟩ := h
    rfl
  obtain ⟨f', p, d, l, kvs, k, rfl, ⟨⟨dx, hp⟩, hd, hz, hl⟩, q1, q2⟩ := h
  have hu := hu_of hr
  refine ⟨_, (pss_cons (ps_expr (pe_mtn M_asked (L2N.takes_of rfl rfl rfl rfl) hr (by omega) (pv 0) (pa_cons (pv 1) pa_nil)))
  (pss_cons (ps_if (pt_cmp (pc_dnotin hu (pv 1) (pe_fld (pv 0) rfl))) (pss_one (ps_raiseXN F_NoPlace g_NoPlace rfl (L2N.takes_of rfl rfl rfl rfl) rfl)) pss_nil)
  (pss_one (ps_expr (pe_dpop1 (pe_fld (pv 0) rfl) (pv 1) ⟨rfl, rfl, rfl, rfl⟩))))), ?_⟩
  refine ⟨_, rfl, p, dx, _, rfl, hp, (tbF_no _ _ _).1, _, rfl, f', p, dx, d, l, k, rfl, hp, hl, fun hk => ?_, fun hk D hD => q2 (fun z => hk ⟨z.1, z.2.1⟩) D hD⟩
  refine ⟨_, rfl, _, rfl, p, C, dx, _, _, rfl, hp, KT.cl, KT.n_held, tbF_held _ _ _, d, _, rfl, DGet.k (k := .inl k) hd, _, rfl, ?_⟩
  have hg := conv_get kvs k
  cases hgi : getI kvs k with
  | none =>
    rw [hgi] at hg
    rw [hg]
    exact iteT (q2 (fun z => by have := z.2.2; rw [hgi] at this; cases this) _ g_NoPlace)
  | some x =>
    rw [hgi] at hg
    rw [hg]
    refine iteF ?_
    refine ⟨_, rfl, p, C, dx, _, _, rfl, hp, KT.cl, KT.n_held, tbF_held _ _ _, d, rfl, .inl ⟨_, .inl hd⟩, _, rfl, _, .inl k, .str x, hd, rfl, hg, ?_⟩
    rw [conv_pop]
    exact q1 ⟨hk.1, hk.2, by rw [hgi]; rfl⟩
theorem ok_cut {cc : Addr} (T : Txt K mg cc) (KT : K_Table K mg C) : MetR P w K mg base 2 C "cut" (spCut mg C) := (ok_cutN T KT).weak
end

section
variable {P : Program} {w : World} {K : PySem.W.Frag} {mg : Str → Option Value} {base : Heap} {C : Addr}
def kOf (H : Hp) : V → Int
  | .ref t => match H t with
    | some (.tup [.int i, .str _]) => i
    | _ => 0
  | _ => 0
def fOf (H : Hp) : V → Str
  | .ref t => match H t with
    | some (.tup [.int _, .str x]) => x
    | _ => ""
  | _ => ""
theorem kOf_at {H : Hp} {t : Addr} {i : Int} {x : Str} (h : H t = some (.tup [.int i, .str x])) : kOf H (.ref t) = i ∧ fOf H (.ref t) = x := by
  unfold kOf fOf
  simp only [h]
  exact ⟨trivial, trivial⟩
theorem nodup_key {kvs : List (Int × Str)} (h : (kvs.map (·.1)).Nodup) {a b : Int × Str} (ha : a ∈ kvs) (hb : b ∈ kvs) (e : a.1 = b.1) : a = b := by
  induction kvs with
  | nil => cases ha
  | cons c r ih =>
    rw [List.map_cons, List.nodup_cons] at h
    rcases List.mem_cons.mp ha with rfl | ha'
    · rcases List.mem_cons.mp hb with rfl | hb'
      · rfl
      · exact absurd (List.mem_map.mpr ⟨b, hb', e.symm⟩) h.1
    · rcases List.mem_cons.mp hb with rfl | hb'
      · exact absurd (List.mem_map.mpr ⟨a, ha', e⟩) h.1
      · exact ih h.2 ha' hb'
def spRows (C : Addr) : Sp := fun vs H Q _ => ∃ (f p d : Addr) (l : Nat) (kvs : List (Int × Str)), vs = [.ref p] ∧ TbAt C f H p d l kvs ∧ (kvs.map (·.1)).Nodup ∧ (∀ e ∈ kvs, txtOk e.2 = true) ∧
  ∀ q ys rows H', Ext H H' → Kp H H' → H q = none → H' q = some (.lst ys) → KvL H' ys rows → rows.Perm kvs → rows.Pairwise (fun a b => a.1 ≤ b.1) → Q (.ref q) H'
theorem ok_rows {cc : Addr} (T : Txt K mg cc) (KT : K_Table K mg C) : Met P w K mg base 1 C "rows" (spRows C) [] := by
  have Z := T.Z
  refine met_of KT.cl KT.m_rows sc_Table_rows (fun vs H Q E h => ?_) (fun f cdv A' outer s H vs Q E hr h => ?_)
  · obtain ⟨f, p, d, l, kvs, rfl, _⟩ := h
    rfl
  obtain ⟨f', p, d, l, kvs, rfl, ⟨⟨dx, hp⟩, hd, hz, hl⟩, hnd, htx, q⟩ := h
  have e16 : sizeLine = 16777216 := sizeLine_eq
  refine ⟨_, (pss_one (ps_ret (pe_callB cr_sortedKv rfl Z.sorted (by decide +kernel) (pa_cons (pe_lock (pe_lc (own := [("key", 1), ("text", 2)]) (g := gTup K 2 (gCons (gName 1) (gCons (gName 2) gNil))) (tt := tYes) rfl sc_Table_rows.nd (pi_items (pe_fld (pv 0) rfl)) (blkOk_by (N := N_Table_rows) (sc := defScope s_Table_rows) (by decide +kernel)) (fun _ _ _ _ _ => (pg_tup rfl (pgs_cons (pg_name (i := 1) sc_Table_rows.nd rfl (Or.inl rfl)) (pgs_cons (pg_name (i := 2) sc_Table_rows.nd rfl (Or.inl rfl)) pgs_nil)))) (fun _ _ _ _ _ => pts_nil) (fun _ _ _ _ _ => (pe_tup (pa_cons (pv 1) (pa_cons (pv 2) pa_nil)))))) pa_nil)))), ?_⟩
  refine ⟨d, _, hd, True.intro, fun od => ?_⟩
  have ndp : p ≠ d := fun z => by rw [z, hd] at hp; cases hp
  refine ⟨_, rfl, p, C, dx, _, _, rfl, by rw [upd_ne ndp]; exact hp, KT.cl, KT.n_held, tbF_held _ _ _, d, od, convT kvs, rfl, upd_same, fun D nD => ?_⟩
  have lc : (convT kvs).length = kvs.length := by unfold convT; rw [List.length_map]
  have x0 := ExtO.dict (o := .frz od (.dK (convT kvs))) hd
  have k0 := Kp.dK (o := .frz od (.dK (convT kvs))) hd
  have hd0 : upd H d (.frz od (.dK (convT kvs))) d = some (.frz od (.dK (convT kvs))) := upd_same
  generalize upd H d (.frz od (.dK (convT kvs))) = H0 at x0 k0 hd0 nD ⊢
  have nDd : D ≠ d := fun z => by rw [z, hd0] at nD; cases nD
  have nDH : H D = none := by
    cases e : H D with
    | none => rfl
    | some o =>
      by_cases n : ∃ ks, o = .dT ks
      · obtain ⟨ks, rfl⟩ := n
        obtain ⟨m, e1⟩ := x0.grow D ks e
        rw [e1] at nD
        cases nD
      · rw [x0.keep D o nDd e fun ks z => n ⟨ks, z⟩] at nD
        cases nD
  refine lc_it walk_items (fun i H' => ∃ acc, H' d = some (.frz od (.dK (convT kvs))) ∧ Ext H0 H' ∧ Kp H0 H' ∧ H' D = some (.lst acc) ∧ KvL H' acc (kvs.take i)) ⟨[], by rw [upd_ne nDd.symm]; exact hd0, Ext.new nD, Kp.new nD, upd_same, KvL.nil⟩ (fun i H' _ ⟨_, h, _⟩ => h) ?_ ?_
  · rintro i x H1 H2 hi ⟨acc, h1, x1, k1, hD, hk⟩ ⟨t, kx, vx, rfl, nt, rfl, e1, e2⟩
    rw [lc] at hi
    obtain ⟨e, he⟩ : ∃ e, kvs[i]? = some e := ⟨kvs[i], List.getElem?_eq_getElem hi⟩
    have hc : (convT kvs)[i]? = some ((Sum.inl e.1 : Key), V.str e.2) := by unfold convT; rw [List.getElem?_map, he]; rfl
    have e1' : (convT kvs)[i]?.map (fun kv => kV kv.1) = some kx := e1
    have e2' : (convT kvs)[i]?.map Prod.snd = some vx := e2
    rw [hc] at e1' e2'
    have ek : V.int e.1 = kx := Option.some.inj e1'
    have ev : V.str e.2 = vx := Option.some.inj e2'
    subst ek ev
    have hex : txtOk e.2 = true := htx e (List.mem_of_getElem? he)
    have u1 := Ext.new (o := .tup [.int e.1, .str e.2]) nt
    have j1 := Kp.new (o := .tup [.int e.1, .str e.2]) nt
    refine ⟨t, _, rfl, SqT.of upd_same, rfl, _, _, rfl, _, _, rfl, rfl, rfl, _, rfl, _, rfl, by show 2 ≤ sizeLine; decide, fun q2 nq2 => ?_⟩
    have u2 := u1.trans (Ext.new (o := .tup [.int e.1, .str e.2]) nq2)
    have j2 := j1.trans (Kp.new (o := .tup [.int e.1, .str e.2]) nq2)
    have hD2 := u2.lst hD
    have hd2 := u2.frz h1
    have hal := hk.len
    rw [List.length_take] at hal
    have j3 := j2.trans (Kp.lst (o := .lst (acc ++ [.ref q2])) hD2)
    refine ⟨acc, hD2, by omega, acc ++ [.ref q2], by rw [upd_ne nDd.symm]; exact hd2, (x1.trans u2).mut nD, k1.trans j3, upd_same, ?_⟩
    have et : kvs.take (i + 1) = kvs.take i ++ [e] := by rw [List.take_succ, he]; rfl
    rw [et]
    exact (hk.gr j3.gr).snoc ((Kp.lst hD2) _ _ (by exact upd_same) True.intro) hex
  rintro H1 ⟨acc, h1, x1, k1, hD, hk⟩
  rw [lc, List.take_length] at hk
  refine ⟨h1, ?_⟩
  have hD3 : upd H1 d (.dK (convT kvs)) D = some (.lst acc) := by rw [upd_ne nDd]; exact hD
  have x3 : Ext H (upd H1 d (.dK (convT kvs))) := by
    refine ⟨fun a o ha n => ?_, fun a ks ha => ?_⟩
    · by_cases e : a = d
      · subst e
        rw [hd] at ha
        cases ha
        exact upd_same
      · rw [upd_ne e]
        exact x1.keep a o (x0.keep a o e ha n) n
    · have e : a ≠ d := fun z => by rw [z, hd] at ha; cases ha
      obtain ⟨m1, e1⟩ := x0.grow a ks ha
      obtain ⟨m2, e2⟩ := x1.grow a _ e1
      exact ⟨m1 ++ m2, by rw [upd_ne e, e2, List.append_assoc]⟩
  have k3 : Kp H (upd H1 d (.dK (convT kvs))) := fun a o ha st => by
    by_cases e : a = d
    · subst e
      rw [hd] at ha
      cases ha
      exact st.elim
    · rw [upd_ne e]
      exact k1 a o (k0 a o ha st) st
  have hk3 : KvL (upd H1 d (.dK (convT kvs))) acc kvs := by
    refine ⟨hk.len, fun j v e a b => ?_⟩
    obtain ⟨q', g1, g2, g3⟩ := hk.at_ j v e a b
    refine ⟨q', g1, ?_, g3⟩
    rw [upd_ne]
    · exact g2
    · rintro rfl
      rw [h1] at g2
      cases g2
  have nD3 := nDH
  generalize upd H1 d (.dK (convT kvs)) = H3 at hD3 x3 k3 hk3 ⊢
  have hal := hk3.len
  have mem : ∀ x ∈ acc, ∃ t e, x = .ref t ∧ H3 t = some (.tup [.int e.1, .str e.2]) ∧ e ∈ kvs ∧ kOf H3 x = e.1 ∧ fOf H3 x = e.2 := fun x hx => by
    obtain ⟨j, hj⟩ := List.getElem?_of_mem hx
    have hjl := (List.getElem?_eq_some_iff.mp hj).1
    have he : kvs[j]? = some (kvs[j]'(by omega)) := List.getElem?_eq_getElem _
    obtain ⟨t, rfl, ht, _⟩ := hk3.at_ j x _ hj he
    exact ⟨t, _, rfl, ht, List.mem_of_getElem? he, (kOf_at ht).1, (kOf_at ht).2⟩
  have mapk : acc.map (fun x => (kOf H3 x, fOf H3 x)) = kvs := by
    apply List.ext_getElem?
    intro j
    rw [List.getElem?_map]
    cases hj : acc[j]? with
    | none =>
      have := List.getElem?_eq_none_iff.mp hj
      rw [List.getElem?_eq_none (by omega)]
      rfl
    | some x =>
      have hjl := (List.getElem?_eq_some_iff.mp hj).1
      have he : kvs[j]? = some (kvs[j]'(by omega)) := List.getElem?_eq_getElem _
      obtain ⟨t, rfl, ht, _⟩ := hk3.at_ j x _ hj he
      rw [he]
      show some (kOf H3 (.ref t), fOf H3 (.ref t)) = _
      rw [(kOf_at ht).1, (kOf_at ht).2]
  refine ⟨D, acc, kOf H3, fOf H3, rfl, SqL.of hD3, fun x hx => ?_, fun x hx y hy e => ?_, fun ys p2 perm pw np => ?_⟩
  · obtain ⟨t, e, h1, h2, _, h4, h5⟩ := mem x hx
    exact ⟨t, h1, by rw [h4, h5]; exact h2⟩
  · obtain ⟨t, e1, _, _, h3, h4, h5⟩ := mem x hx
    obtain ⟨t', e2, _, _, g3, g4, g5⟩ := mem y hy
    rw [h4, g4] at e
    have := nodup_key hnd h3 g3 e
    rw [h5, g5, this]
  · have u := Ext.new (o := .lst ys) np
    refine q p2 ys (ys.map fun x => (kOf H3 x, fOf H3 x)) _ (x3.trans u) (k3.trans (Kp.new np)) (x3.free np) upd_same ⟨by rw [List.length_map], fun j v e a b => ?_⟩ ?_ ?_
    · rw [List.getElem?_map, a] at b
      obtain ⟨t, e', h1, h2, h3, h4, h5⟩ := mem v (perm.mem_iff.mp (List.mem_of_getElem? a))
      have eb := Option.some.inj b
      subst eb
      refine ⟨t, h1, u.tup ?_, ?_⟩
      · show H3 t = some (.tup [.int (kOf H3 v), .str (fOf H3 v)])
        rw [h4, h5]
        exact h2
      · show txtOk (fOf H3 v) = true
        rw [h5]
        exact htx _ h3
    · have := perm.map fun x => (kOf H3 x, fOf H3 x)
      rwa [mapk] at this
    · exact List.pairwise_map.mpr pw
end

section
variable {P : Program} {w : World} {K : PySem.W.Frag} {mg : Str → Option Value} {base : Heap} {Fam : Sys → Prop} {C : Addr}
structure TbOk (l : Nat) (kvs : List (Int × Str)) : Prop where
  nd : (kvs.map (·.1)).Nodup
  rg : ∀ e ∈ kvs, 0 ≤ e.1 ∧ e.1 < 2 ^ l
  tx : ∀ e ∈ kvs, txtOk e.2 = true
theorem rows_ok {l : Nat} {kvs rows : List (Int × Str)} (h : TbOk l kvs) (p : rows.Perm kvs) : RowsOk l rows := by
  have nd : (rows.map (·.1)).Nodup := (p.map (·.1)).nodup_iff.mpr h.nd
  have rg : ∀ e ∈ rows, 0 ≤ e.1 ∧ e.1 < 2 ^ l := fun e he => h.rg e (p.mem_iff.mp he)
  refine ⟨fun e he => (rg e he).1, ?_⟩
  have pw : rows.Pairwise fun a b => a.1 ≠ b.1 := List.pairwise_map.mp nd
  refine List.Pairwise.imp_of_mem (fun {a b} ha hb hab => ?_) pw
  rw [Int.emod_eq_of_lt (rg a ha).1 (rg a ha).2, Int.emod_eq_of_lt (rg b hb).1 (rg b hb).2]
  exact hab
def spTInit (C : Addr) (Fam : Sys → Prop) : Sp := fun vs H Q _ => ∃ (S : Sys) (p dx : Addr) (l : Nat) (r : Nat), Fam S ∧ vs = [.ref p, .ref S.f, .int (l : Int)] ∧ H p = some (.ins C dx []) ∧ l ≤ 1000 ∧ S.ok H r ∧ ∀ H' d, ExtO p H H' → Kp H H' → H d = none → S.ok H' r → TbAt C S.f H' p d l [] → Q .non H'
theorem tinit_body (A : SlA P w K mg base Fam) (KT : K_Table K mg C) : ∀ (f : Addr) (cdv : Value) (A' : Around) (outer : List Env) (s : Shared) (H : Hp) (vs : List V) (Q : VK) (E : XK), Room 0 (A'.deeper (envOfC "Table.__init__" (defScope s_Table___init__) s.heap.objs.size f cdv)) → spTInit C Fam vs H Q E →
      ∃ t, PSs (cxOf L2.CX0 P w K mg base N_Table___init__ "Table.__init__" (defScope s_Table___init__) f cdv A' outer s H E).nox (defBody s_Table___init__) t ∧ t { nx := fun _ H' => Q .non H', rt := Q } (start N_Table___init__ vs) H := by
  intro f cdv A' outer s H vs Q E hr h
  obtain ⟨S, p, dx, l, r, hF, rfl, hp, hl, hok, q⟩ := h
  have G := A.good hF
  refine ⟨_, (pss_cons (ps_fld (pv 0) (pv 1) rfl)
  (pss_cons (ps_fld (pv 0) (pv 2) rfl)
  (pss_one (ps_fld (pv 0) pe_dnewK rfl)))), ?_⟩
  refine ⟨_, rfl, _, rfl, p, C, dx, _, rfl, hp, KT.cl, KT.n_seal, by show 0 < 1000; decide, ?_⟩
  have x1 := ExtO.put (o := .ins C dx (putF "seal" (.ref S.f) [])) hp
  have k1 := Kp.ins (o := .ins C dx (putF "seal" (.ref S.f) [])) hp
  have h1 : upd H p (.ins C dx (putF "seal" (.ref S.f) [])) p = some (.ins C dx (putF "seal" (.ref S.f) [])) := upd_same
  have n1 : ∀ d, upd H p (.ins C dx (putF "seal" (.ref S.f) [])) d = none → H d = none := fun d h => by
    by_cases e : d = p
    · rw [e, upd_same] at h; cases h
    · rwa [upd_ne e] at h
  generalize upd H p (.ins C dx (putF "seal" (.ref S.f) [])) = H1 at x1 k1 h1 n1 ⊢
  refine ⟨_, rfl, _, rfl, p, C, dx, _, rfl, h1, KT.cl, KT.n_depth, by show 1 < 1000; decide, ?_⟩
  have x2 := x1.trans (ExtO.put (o := .ins C dx (putF "depth" (.int (l : Int)) (putF "seal" (.ref S.f) []))) h1)
  have k2 := k1.trans (Kp.ins (o := .ins C dx (putF "depth" (.int (l : Int)) (putF "seal" (.ref S.f) []))) h1)
  have h2 : upd H1 p (.ins C dx (putF "depth" (.int (l : Int)) (putF "seal" (.ref S.f) []))) p = some (.ins C dx (putF "depth" (.int (l : Int)) (putF "seal" (.ref S.f) []))) := upd_same
  have n2 : ∀ d, upd H1 p (.ins C dx (putF "depth" (.int (l : Int)) (putF "seal" (.ref S.f) []))) d = none → H d = none := fun d h => by
    by_cases e : d = p
    · rw [e, upd_same] at h; cases h
    · rw [upd_ne e] at h; exact n1 d h
  generalize upd H1 p (.ins C dx (putF "depth" (.int (l : Int)) (putF "seal" (.ref S.f) []))) = H2 at x2 k2 h2 n2 ⊢
  refine fun d nd => ?_
  have npd : p ≠ d := ne_of_none h2 nd
  have x3 := x2.trans (Ext.new (o := .dK []) nd).o
  have k3 := k2.trans (Kp.new (o := .dK []) nd)
  have h3 : upd H2 d (.dK []) p = some (.ins C dx (putF "depth" (.int (l : Int)) (putF "seal" (.ref S.f) []))) := by rw [upd_ne npd]; exact h2
  refine ⟨_, rfl, p, C, dx, _, rfl, h3, KT.cl, KT.n_held, by show 2 < 1000; decide, ?_⟩
  refine q _ d (x3.trans (ExtO.put h3)) (k3.trans (Kp.ins h3)) (n2 d nd) (G.keep (k3.trans (Kp.ins h3)) hok) ⟨⟨dx, by rw [upd_same, tbF_mk]⟩, by rw [upd_ne npd.symm]; exact upd_same, by decide, hl⟩
theorem ok_tinit (A : SlA P w K mg base Fam) (KT : K_Table K mg C) : Mak P w K mg base 1 "Table" C (spTInit C Fam) [] :=
  mak_ofD 3 1 KT.mgC KT.made (by simp) rfl (fun T kV doc pm an cdv ct us its hu hi => match us, its, hu, hi with | [_, _, _], [_], _, _ => ⟨_, rfl, rfl⟩) sc_Table___init__ (fun vs H Q E h => by obtain ⟨S, p, dx, l, r, _, rfl, _⟩ := h; rfl) (tinit_body A KT)
theorem ok_tinit8 (A : SlA P w K mg base Fam) (KT : K_Table K mg C) : Mak P w K mg base 1 "Table" C (spTInit C Fam) [.int 8] :=
  mak_ofD 2 0 KT.mgC KT.made (by simp) rfl (fun T kV doc pm an cdv ct us its hu hi => match us, its, hu, hi with | [_, _], [_], _, _ => ⟨_, rfl, rfl⟩) sc_Table___init__ (fun vs H Q E h => by obtain ⟨S, p, dx, l, r, _, rfl, _⟩ := h; rfl) (tinit_body A KT)
end

section
variable {P : Program} {w : World} {K : PySem.W.Frag} {mg : Str → Option Value} {base : Heap} {Fam : Sys → Prop} {C : Addr}
theorem ok_table_seal {cc : Addr} (T : Txt K mg cc) (A : SlA P w K mg base Fam) : Cal P w K mg base 2 "table_seal" (spMark "table" Fam) [] := by
  refine cal_of T.d_table_seal sc_table_seal (fun vs H Q E h => ?_) (fun f cdv A' outer s H vs Q E hr h => ?_)
  · obtain ⟨S, va, vb, a, b, r, _, rfl, _⟩ := h
    rfl
  obtain ⟨S, va, vb, a, b, r, hF, rfl, hok, ha, hb, q⟩ := h
  refine ⟨_, (pss_one (ps_ret (pe_sl (i := 0) A.held hr (by omega) rfl (by first | exact Or.inl rfl | exact Or.inr (Or.inl rfl) | exact Or.inr (Or.inr rfl)) (pa_cons pe_str (pa_cons (pv 1) (pa_cons (pv 2) pa_nil)))))), ?_⟩
  exact ⟨S, _, hF, rfl, hok, _, rfl, _, rfl, r, "table", a, b, _, _, rfl, by decide +kernel, hok, ha, hb, fun v H' e ok d => q v H' e ok d⟩
def spTHead (C : Addr) (Fam : Sys → Prop) : Sp := fun vs H Q _ => ∃ (S : Sys) (p d : Addr) (l : Nat) (kvs : List (Int × Str)) (r : Nat), Fam S ∧ vs = [.ref p] ∧ TbAt C S.f H p d l kvs ∧ TbOk l kvs ∧ l ≤ 20 ∧ S.ok H (r + 1 + costP l kvs.length) ∧
  ∀ v rows H', Ext H H' → S.ok H' r → rows.Perm kvs → rows.Pairwise (fun a b => a.1 ≤ b.1) → S.den H' v (.sl "table" (.int (l : Int)) (partT l rows)) → Q v H'
theorem ok_thead {cc : Addr} (T : Txt K mg cc) (A : SlA P w K mg base Fam) (KT : K_Table K mg C) : Met P w K mg base 25 C "head" (spTHead C Fam) [] := by
  have C_table_seal := ok_table_seal T A
  have C_part_top := ok_part T A (ok_none_seal T A) (ok_parted T) 21
  have M_rows := ok_rows (P := P) (w := w) (base := base) T KT
  refine met_of KT.cl KT.m_head sc_Table_head (fun vs H Q E h => ?_) (fun f cdv A' outer s H vs Q E hr h => ?_)
  · obtain ⟨S, p, d, l, kvs, r, _, rfl, _⟩ := h
    rfl
  obtain ⟨S, p, d, l, kvs, r, hF, rfl, ⟨⟨dx, hp⟩, hd, hz, hl'⟩, hk, hl, hok, q⟩ := h
  have G := A.good hF
  refine ⟨_, (pss_one (ps_ret (pe_c C_table_seal hr (by omega) rfl (pa_cons (pe_fld (pv 0) rfl) (pa_cons (pe_fld (pv 0) rfl) (pa_cons (pe_c C_part_top hr (by omega) rfl (pa_cons (pe_fld (pv 0) rfl) (pa_cons (pe_mt0 M_rows hr (by omega) (pv 0)) (pa_cons (pe_fld (pv 0) rfl) pa_nil)))) pa_nil)))))), ?_⟩
  refine ⟨_, rfl, p, C, dx, _, _, rfl, hp, KT.cl, KT.n_seal, tbF_seal _ _ _, _, rfl, p, C, dx, _, _, rfl, hp, KT.cl, KT.n_depth, tbF_depth _ _ _, _, rfl, p, C, dx, _, _, rfl, hp, KT.cl, KT.n_seal, tbF_seal _ _ _, ?_⟩
  refine ⟨_, rfl, p, dx, _, rfl, hp, (tbF_no _ _ _).2.2.2.2.1, S.f, p, d, l, kvs, rfl, ⟨⟨dx, hp⟩, hd, hz, hl'⟩, hk.nd, hk.tx, fun qr ys rows H1 x1 k1 nq hqr hrows perm pw => ?_⟩
  refine ⟨_, rfl, p, C, dx, _, _, rfl, x1.ins hp, KT.cl, KT.n_depth, tbF_depth _ _ _, S, qr, ys, rows, l, r + 1, hF, rfl, SqL.of hqr, hrows, rows_ok hk perm, by rw [perm.length_eq]; omega, by omega, by rw [perm.length_eq]; exact G.keep k1 hok, fun v H2 x2 ok2 d2 => ?_⟩
  exact ⟨S, .int (l : Int), v, .int (l : Int), partT l rows, r, hF, rfl, ok2, G.int _ ok2, d2, fun u H3 x3 ok3 d3 => q u rows H3 ((x1.trans x2).trans x3) ok3 perm pw d3⟩
end

/-! ### rows of a key and a text, by rising keys: one and the same for the same pairs -/
theorem kv_uniq : ∀ {a b : List (Int × Str)}, a.Perm b → a.Pairwise (fun x y => x.1 < y.1) → b.Pairwise (fun x y => x.1 < y.1) → a = b
  | [], b, p, _, _ => (List.nil_perm.mp p).symm
  | x :: a, [], p, _, _ => absurd (List.perm_nil.mp p) (List.cons_ne_nil _ _)
  | x :: a, y :: b, p, ha, hb => by
    have e : x = y := by
      rcases List.mem_cons.mp (p.mem_iff.mp (List.mem_cons_self ..)) with h | h
      · exact h
      · rcases List.mem_cons.mp (p.mem_iff.mpr (List.mem_cons_self ..)) with g | g
        · exact g.symm
        · have h1 := (List.pairwise_cons.mp hb).1 x h
          have h2 := (List.pairwise_cons.mp ha).1 y g
          omega
    subst e
    rw [kv_uniq (List.Perm.cons_inv p) (List.pairwise_cons.mp ha).2 (List.pairwise_cons.mp hb).2]
theorem kv_strict {a : List (Int × Str)} (hn : (a.map (·.1)).Nodup) (h : a.Pairwise fun x y => x.1 ≤ y.1) : a.Pairwise fun x y => x.1 < y.1 := by
  have pw : a.Pairwise fun x y => x.1 ≠ y.1 := List.pairwise_map.mp hn
  refine (h.and pw).imp fun {x y} h => ?_
  have h1 := h.1
  have h2 := h.2
  omega
theorem kv_same {a b kvs : List (Int × Str)} (hn : (kvs.map (·.1)).Nodup) (pa : a.Perm kvs) (pb : b.Perm kvs) (ha : a.Pairwise fun x y => x.1 ≤ y.1) (hb : b.Pairwise fun x y => x.1 ≤ y.1) : a = b :=
  kv_uniq (pa.trans pb.symm) (kv_strict ((pa.map (·.1)).nodup_iff.mpr hn) ha) (kv_strict ((pb.map (·.1)).nodup_iff.mpr hn) hb)
/-! ### what the deeds do to the pairs -/
theorem tbok_put {l : Nat} {kvs : List (Int × Str)} {k : Int} {x : Str} (h : TbOk l kvs) (h0 : 0 ≤ k) (h1 : k < 2 ^ l) (hx : txtOk x = true) : TbOk l (putI kvs k x) := by
  unfold putI
  by_cases c : (kvs.any fun e => decide (e.1 = k)) = true
  · rw [if_pos c]
    have em : (kvs.map fun e => if e.1 = k then (e.1, x) else e).map (·.1) = kvs.map (·.1) := by
      rw [List.map_map]
      refine List.map_congr_left fun e _ => ?_
      show (if e.1 = k then (e.1, x) else e).1 = e.1
      by_cases q : e.1 = k
      · rw [if_pos q]
      · rw [if_neg q]
    refine ⟨by rw [em]; exact h.nd, fun e he => ?_, fun e he => ?_⟩
    · obtain ⟨e', he', rfl⟩ := List.mem_map.mp he
      by_cases q : e'.1 = k
      · rw [if_pos q]
        exact h.rg e' he'
      · rw [if_neg q]
        exact h.rg e' he'
    · obtain ⟨e', he', rfl⟩ := List.mem_map.mp he
      by_cases q : e'.1 = k
      · rw [if_pos q]
        exact hx
      · rw [if_neg q]
        exact h.tx e' he'
  · rw [if_neg c]
    refine ⟨?_, fun e he => ?_, fun e he => ?_⟩
    · rw [List.map_append, List.nodup_append]
      refine ⟨h.nd, List.pairwise_singleton _ _, fun a ha b hb => ?_⟩
      have hb' : b = k := List.mem_singleton.mp hb
      subst hb'
      obtain ⟨e, he, rfl⟩ := List.mem_map.mp ha
      exact fun q => c (List.any_eq_true.mpr ⟨e, he, decide_eq_true q⟩)
    · rcases List.mem_append.mp he with he | he
      · exact h.rg e he
      · rw [List.mem_singleton.mp he]
        exact ⟨h0, h1⟩
    · rcases List.mem_append.mp he with he | he
      · exact h.tx e he
      · rw [List.mem_singleton.mp he]
        exact hx
theorem tbok_pop {l : Nat} {kvs : List (Int × Str)} {k : Int} (h : TbOk l kvs) : TbOk l (popI kvs k) := by
  unfold popI
  exact ⟨h.nd.sublist (List.Sublist.map _ List.filter_sublist), fun e he => h.rg e (List.mem_filter.mp he).1, fun e he => h.tx e (List.mem_filter.mp he).1⟩
theorem put_length (kvs : List (Int × Str)) (k : Int) (x : Str) : (putI kvs k x).length ≤ kvs.length + 1 := by
  unfold putI
  split
  · rw [List.length_map]; omega
  · rw [List.length_append]; exact Nat.le_refl _
theorem pop_length (kvs : List (Int × Str)) (k : Int) : (popI kvs k).length ≤ kvs.length := by
  unfold popI
  exact List.length_filter_le _ _

theorem kp_same {H H' : Hp} (h : Same H H') : Kp H H' := fun a o e _ => h a o e
theorem TbAt.ext {C f : Addr} {l : Nat} {H H' : Hp} {p d : Addr} {kvs : List (Int × Str)} (h : TbAt C f H p d l kvs) (x : Ext H H') : TbAt C f H' p d l kvs := by
  obtain ⟨⟨dx, a⟩, b, c⟩ := h
  exact ⟨⟨dx, x.ins a⟩, x.dK b, c⟩
theorem costP_le {l n : Nat} (hl : l ≤ 16) (hn : n ≤ 120) : costP l n ≤ 3999 := by
  unfold costP
  split
  · omega
  · have h := Nat.mul_le_mul hn (show 2 * l + 1 ≤ 33 by omega)
    omega

/-! ### rows by their keys -/
theorem getI_of : ∀ {kvs : List (Int × Str)} {e : Int × Str}, (kvs.map (·.1)).Nodup → e ∈ kvs → getI kvs e.1 = some e.2
  | [], _, _, h => nomatch h
  | x :: kvs, e, hn, h => by
    rw [List.map_cons, List.nodup_cons] at hn
    unfold getI
    rw [List.find?_cons]
    rcases List.mem_cons.mp h with rfl | h
    · rw [decide_eq_true rfl]
      rfl
    · have ne : ¬ x.1 = e.1 := fun z => hn.1 (by rw [z]; exact List.mem_map_of_mem h)
      rw [decide_eq_false ne]
      exact getI_of hn.2 h
/-- the pairs by the row of their keys -/
theorem keys_rows {kvs : List (Int × Str)} {ks : List Int} (hn : (kvs.map (·.1)).Nodup) (pm : ks.Perm (kvs.map (·.1))) : (ks.map fun x => (x, (getI kvs x).getD "")).Perm kvs := by
  have h := pm.map fun x => (x, (getI kvs x).getD "")
  refine h.trans (List.Perm.of_eq ?_)
  rw [List.map_map]
  refine (List.map_congr_left fun e he => ?_).trans (List.map_id _)
  show (e.1, (getI kvs e.1).getD "") = e
  rw [getI_of hn he]
  rfl
theorem getI_mem : ∀ {kvs : List (Int × Str)} {x : Int}, x ∈ kvs.map (·.1) → ∃ t, getI kvs x = some t ∧ (x, t) ∈ kvs := by
  intro kvs x h
  unfold getI
  cases hf : kvs.find? fun e => decide (e.1 = x) with
  | none =>
    obtain ⟨e, he, rfl⟩ := List.mem_map.mp h
    exact absurd (List.find?_eq_none.mp hf e he) (by simp)
  | some e =>
    have h1 := List.mem_of_find?_eq_some hf
    have h2 : e.1 = x := by have := List.find?_some hf; simpa using this
    subst h2
    exact ⟨e.2, rfl, h1⟩

section
variable {P : Program} {w : World} {K : PySem.W.Frag} {mg : Str → Option Value} {base : Heap} {C B : Addr}
theorem row_len {i : Int} (h0 : 0 ≤ i) (h1 : i < 1000000) : (Str.ofString (toString i)).length ≤ 6 := by
  obtain ⟨n, rfl⟩ := Int.eq_ofNat_of_zero_le h0
  rw [TL.len_tl, TL.tl_num]
  exact TL.numL_len (by decide) (by omega)
theorem ok_brinit {cc : Addr} (T : Txt K mg cc) (EI : ExcI K mg "BadRow" "BookError" "row" "BadRow.__init__" s_BadRow___init__ ["self", "row"] C B) (fI : Addr) (fd : FuncData) (F : L2.Fun K "__init__" "BadRow.__init__" s_BadRow___init__ fI fd) :
    FnOk P w K mg base L2.CX0 1 fI fd ["self", "row"] (spExI C "row") := by
  have Z := T.Z
  refine F.ok sc_BadRow___init__ (fun vs H Q E h => ?_) (fun cdv A' outer s H vs Q E hr h => ?_)
  · obtain ⟨a, i, rfl, _⟩ := h
    rfl
  obtain ⟨a, i, rfl, h0, h1, ha, q⟩ := h
  have ll := row_len h0 h1
  refine ⟨_, (pss_cons (ps_expr (pe_beinit rfl EI.gB EI.b1 EI.b2 EI.b3 (pa_cons (pv 0) (pa_cons (pe_op op_add_str (pe_op op_add_str pe_str (pe_callTy call_str_int rfl Z.str (by decide +kernel) (pa_cons (pv 1) pa_nil))) pe_str) pa_nil))))
  (pss_one (ps_ost (pv 0) (pv 1)))), ?_⟩
  have e4 : (Str.ofString "row ").length = 4 := by decide +kernel
  have e16 : (Str.ofString " cannot be read").length = 15 := by decide +kernel
  have l1 : (Str.ofString "row " ++ Str.ofString (toString i)).length ≤ 10 := by
    rw [TL.len_tl, TL.tl_append, List.length_append, ← TL.len_tl, ← TL.len_tl]
    omega
  refine ⟨_, rfl, _, rfl, _, rfl, log_small h0 (by omega), _, _, rfl, rfl, small (by omega), _, _, rfl, rfl, small (by omega), a, C, _, rfl, (by show 1 ≤ 1000; decide), EI.T, ha, ?_⟩
  exact ⟨_, rfl, _, rfl, a, C, rfl, EI.T, EI.no, .inl ⟨ha, fun dx n ne => q dx n ne⟩⟩
theorem ok_brinitH {cc : Addr} (T : Txt K mg cc) (EI : ExcI K mg "BadRow" "BookError" "row" "BadRow.__init__" s_BadRow___init__ ["self", "row"] C B) (fI : Addr) (fd : FuncData) (F : L2.Fun K "__init__" "BadRow.__init__" s_BadRow___init__ fI fd) :
    L2H.FnH P w K mg base L2.CX0 1 fI fd ["self", "row"] (spExI C "row") := by
  have Z := T.Z
  obtain ⟨oc, od, kV, doc, pm, an, cdv, ct, osl, rfl, lk, hcd⟩ := F.ex
  refine L2H.fn_ofH lk hcd sc_BadRow___init__ (fun vs H Q E h => ?_) (fun A' outer s H vs Q E pr hot hr h => ?_)
  · obtain ⟨a, i, rfl, _⟩ := h
    rfl
  obtain ⟨a, i, rfl, h0, h1, ha, q⟩ := h
  have ll := row_len h0 h1
  refine ⟨_, PSs.nox (pss_cons (ps_expr (pe_beinit rfl EI.gB EI.b1 EI.b2 EI.b3 (pa_cons (pv 0) (pa_cons (pe_op op_add_str (pe_op op_add_str pe_str (pe_callTy call_str_int rfl Z.str (by decide +kernel) (pa_cons (pv 1) pa_nil))) pe_str) pa_nil))))
  (pss_one (ps_ost (pv 0) (pv 1)))), ?_⟩
  have e4 : (Str.ofString "row ").length = 4 := by decide +kernel
  have e16 : (Str.ofString " cannot be read").length = 15 := by decide +kernel
  have l1 : (Str.ofString "row " ++ Str.ofString (toString i)).length ≤ 10 := by
    rw [TL.len_tl, TL.tl_append, List.length_append, ← TL.len_tl, ← TL.len_tl]
    omega
  refine ⟨_, rfl, _, rfl, _, rfl, log_small h0 (by omega), _, _, rfl, rfl, small (by omega), _, _, rfl, rfl, small (by omega), a, C, _, rfl, (by show 1 ≤ 1000; decide), EI.T, ha, ?_⟩
  exact ⟨_, rfl, _, rfl, a, C, rfl, EI.T, EI.no, .inl ⟨ha, fun dx n ne => q dx n ne⟩⟩
end

/-! ### what a row says -/
open SX (S S_len S_inj S_cat)
def lsp (l : List Nat) : List Nat := l.dropWhile (· == 32)
def rsp (l : List Nat) : List Nat := (l.reverse.dropWhile (· == 32)).reverse
def wrd (l : List Nat) : List Nat := l.takeWhile (· != 32)
def rst (l : List Nat) : List Nat := (l.dropWhile (· != 32)).drop 1
def digs (l : List Nat) : Bool := !l.isEmpty && l.all fun c => decide (48 ≤ c) && decide (c ≤ 57)
def keyL (l : List Nat) (d : Nat) : Int := if digs l = true ∧ l.length ≤ 9 ∧ NumText.digitsVal l < 2 ^ d then (NumText.digitsVal l : Int) else -1
inductive Act where
  | put (k : Int) (t : List Nat)
  | cut (k : Int)
def putW : List Nat := [112, 117, 116]
def cutW : List Nat := [99, 117, 116]
def readL (l : List Nat) (d : Nat) : Option (Option Act) :=
  if lsp l = [] ∨ (lsp l).head? = some 35 then some none
  else if wrd (lsp l) = putW then
    if 0 ≤ keyL (wrd (rst (lsp l))) d ∧ 32 ∈ rst (lsp l) then some (some (.put (keyL (wrd (rst (lsp l))) d) (rst (rst (lsp l))))) else none
  else if wrd (lsp l) = cutW then
    if 0 ≤ keyL (rsp (rst (lsp l))) d then some (some (.cut (keyL (rsp (rst (lsp l))) d))) else none
  else none
def AscL (l : List Nat) : Prop := ∀ c ∈ l, c < 128
theorem AscL.sub {l m : List Nat} (h : AscL l) (hs : ∀ c ∈ m, c ∈ l) : AscL m := fun c hc => h c (hs c hc)
theorem dw_mem {p : Nat → Bool} : ∀ {l : List Nat} {c : Nat}, c ∈ l.dropWhile p → c ∈ l
  | a :: l, c, h => by
    rw [List.dropWhile_cons] at h
    split at h
    · exact List.mem_cons_of_mem _ (dw_mem h)
    · exact h
theorem tw_mem {p : Nat → Bool} : ∀ {l : List Nat} {c : Nat}, c ∈ l.takeWhile p → c ∈ l
  | a :: l, c, h => by
    rw [List.takeWhile_cons] at h
    split at h
    · rcases List.mem_cons.mp h with rfl | h
      · exact List.mem_cons_self
      · exact List.mem_cons_of_mem _ (tw_mem h)
    · cases h
theorem lsp_mem {l : List Nat} {c : Nat} (h : c ∈ lsp l) : c ∈ l := dw_mem h
theorem rsp_mem {l : List Nat} {c : Nat} (h : c ∈ rsp l) : c ∈ l := by
  have := dw_mem (List.mem_reverse.mp h)
  exact List.mem_reverse.mp this
theorem wrd_mem {l : List Nat} {c : Nat} (h : c ∈ wrd l) : c ∈ l := tw_mem h
theorem rst_mem {l : List Nat} {c : Nat} (h : c ∈ rst l) : c ∈ l := dw_mem (List.mem_of_mem_drop h)
theorem dw_len {p : Nat → Bool} : ∀ (l : List Nat), (l.dropWhile p).length ≤ l.length
  | [] => Nat.le_refl _
  | a :: l => by
    rw [List.dropWhile_cons]
    split
    · exact Nat.le_succ_of_le (dw_len l)
    · exact Nat.le_refl _
theorem tw_len {p : Nat → Bool} : ∀ (l : List Nat), (l.takeWhile p).length ≤ l.length
  | [] => Nat.le_refl _
  | a :: l => by
    rw [List.takeWhile_cons]
    split
    · exact Nat.succ_le_succ (tw_len l)
    · exact Nat.zero_le _
theorem lsp_len (l : List Nat) : (lsp l).length ≤ l.length := dw_len l
theorem wrd_len (l : List Nat) : (wrd l).length ≤ l.length := tw_len l
theorem rst_len (l : List Nat) : (rst l).length ≤ l.length := by
  unfold rst
  rw [List.length_drop]
  have := dw_len (p := (· != 32)) l
  omega
theorem rsp_len (l : List Nat) : (rsp l).length ≤ l.length := by
  unfold rsp
  rw [List.length_reverse]
  have := dw_len (p := (· == 32)) l.reverse
  rw [List.length_reverse] at this
  exact this
theorem drop_tw {p : Nat → Bool} : ∀ l : List Nat, l.drop (l.takeWhile p).length = l.dropWhile p
  | [] => rfl
  | a :: l => by
    rw [List.takeWhile_cons, List.dropWhile_cons]
    by_cases h : p a = true
    · rw [if_pos h, if_pos h]
      exact drop_tw l
    · rw [if_neg h, if_neg h]
      rfl
theorem only32 : (S [32]).cps.contains = fun c => c == 32 := by
  funext c
  by_cases h : c = 32
  · subst h; decide +kernel
  · have e : (c == 32) = false := beq_eq_false_iff_ne.mpr h
    rw [e]
    simp [S, h]
theorem lstrip_S (l : List Nat) : Txt.lstripChars (S l) (S [32]) = S (lsp l) := by
  unfold Txt.lstripChars
  rw [stripBy_eq, only32]
  refine TL.ext_tl ?_
  rw [TL.tl_strSub]
  show (l.drop _).take _ = lsp l
  unfold stripLo stripHi
  rw [if_pos rfl, if_neg (by decide)]
  show (l.drop (l.takeWhile (· == 32)).length).take ((S l).length - (l.takeWhile (· == 32)).length) = lsp l
  rw [drop_tw, S_len, List.take_of_length_le]
  · rfl
  · have := congrArg List.length (drop_tw (p := (· == 32)) l)
    rw [List.length_drop] at this
    omega
theorem rstrip_S (l : List Nat) : Txt.rstripChars (S l) (S [32]) = S (rsp l) := by
  unfold Txt.rstripChars
  rw [stripBy_eq, only32]
  refine TL.ext_tl ?_
  rw [TL.tl_strSub]
  rw [show stripLo (fun c => c == 32) false (S l) = 0 from rfl, show stripHi (fun c => c == 32) true (S l) 0 = (S l).length - ((l.drop 0).reverse.takeWhile (· == 32)).length from rfl]
  show (l.drop 0).take ((S l).length - (((l.drop 0).reverse.takeWhile (· == 32)).length) - 0) = rsp l
  rw [List.drop_zero, Nat.sub_zero, S_len]
  have e : l = (l.reverse.dropWhile (· == 32)).reverse ++ (l.reverse.takeWhile (· == 32)).reverse := by
    rw [← List.reverse_append, List.takeWhile_append_dropWhile, List.reverse_reverse]
  have el := congrArg List.length e
  rw [List.length_append, List.length_reverse, List.length_reverse] at el
  have ek : l.length - (l.reverse.takeWhile (· == 32)).length = (rsp l).length := by
    unfold rsp
    rw [List.length_reverse]
    omega
  rw [ek]
  exact (congrArg (List.take (rsp l).length) e).trans (List.take_left' rfl)
theorem split32 {l : List Nat} (h : 32 ∈ l) : l = wrd l ++ (32 :: rst l) := by
  induction l with
  | nil => cases h
  | cons a l ih =>
    unfold wrd rst
    by_cases c : a = 32
    · subst c
      rfl
    · have e : (a != 32) = true := bne_iff_ne.mpr c
      rw [List.takeWhile_cons, List.dropWhile_cons, if_pos e, if_pos e]
      rcases List.mem_cons.mp h with h | h
      · exact absurd h.symm c
      · show a :: l = a :: (wrd l ++ (32 :: rst l))
        rw [← ih h]
theorem wrd_no (l : List Nat) : 32 ∉ wrd l := by
  induction l with
  | nil => exact fun h => nomatch h
  | cons a l ih =>
    unfold wrd
    rw [List.takeWhile_cons]
    by_cases c : a = 32
    · subst c
      exact fun h => nomatch h
    · have e : (a != 32) = true := bne_iff_ne.mpr c
      rw [if_pos e]
      intro h
      rcases List.mem_cons.mp h with h | h
      · exact c h.symm
      · exact ih h
theorem wrd_all {l : List Nat} (h : 32 ∉ l) : wrd l = l ∧ rst l = [] := by
  induction l with
  | nil => exact ⟨rfl, rfl⟩
  | cons a l ih =>
    have c : a ≠ 32 := fun z => h (by rw [z]; exact List.mem_cons_self)
    have e : (a != 32) = true := bne_iff_ne.mpr c
    obtain ⟨h1, h2⟩ := ih fun z => h (List.mem_cons_of_mem _ z)
    unfold wrd rst
    rw [List.takeWhile_cons, List.dropWhile_cons, if_pos e, if_pos e]
    exact ⟨congrArg (a :: ·) h1, h2⟩
theorem part_S (l : List Nat) : Txt.partition (S l) (S [32]) = (S (wrd l), (if 32 ∈ l then S [32] else S []), S (rst l)) := by
  by_cases h : 32 ∈ l
  · rw [if_pos h]
    refine SX.partition_some (by simp) ?_
    conv => lhs; rw [split32 h]
    exact SX.par_head (sep := []) (rst l) (wrd_no l)
  · rw [if_neg h]
    obtain ⟨h1, h2⟩ := wrd_all h
    rw [h1, h2]
    exact SX.partition_none (by simp) (SX.par_head_none (sep := []) h)
theorem hash_S (l : List Nat) : Txt.startswith (S l) (S [35]) = decide (l.head? = some 35) := by
  cases l with
  | nil => rfl
  | cons a l =>
    unfold Txt.startswith Builtin.Str.subAt
    by_cases h : a = 35
    · subst h
      simp [S, Str.length]
    · simp [S, Str.length, h]
theorem dig128 : ∀ c, c < 128 → Unicode.isDigit c = (decide (48 ≤ c) && decide (c ≤ 57)) := by decide +kernel
theorem digit_S {l : List Nat} (h : AscL l) : Txt.isdigit (S l) = digs l := by
  unfold Txt.isdigit digs
  have e : (S l).cps.all Unicode.isDigit = l.all fun c => decide (48 ≤ c) && decide (c ≤ 57) := by
    show (List.toArray l).all Unicode.isDigit = _
    rw [List.all_toArray]
    induction l with
    | nil => rfl
    | cons a l ih =>
      rw [List.all_cons, List.all_cons, ih (h.sub fun c hc => List.mem_cons_of_mem _ hc)]
      congr 1
      exact dig128 a (h a List.mem_cons_self)
  rw [e]
  cases l <;> simp [S_len]
theorem int_of {l : List Nat} (h : digs l = true) (hl : l.length ≤ 4300) : intText? (S l) = some ((NumText.digitsVal l : Nat) : Int) := by
  unfold digs at h
  rw [Bool.and_eq_true] at h
  exact SX.int_S h.2 (fun z => by rw [z] at h; exact absurd h.1 (by decide)) hl

section
variable {P : Program} {w : World} {K : PySem.W.Frag} {mg : Str → Option Value} {base : Heap} {C B : Addr}
theorem te_int {i : Int} : ∀ (σ : L2.St) (H : Hp) (Q Q' : VK), (∀ v H', Q v H' → Q' v H') → tC (.int i) σ H Q → tC (.int i) σ H Q' := fun _ _ _ _ h q => h _ _ q
theorem te_var {i : Nat} : ∀ (σ : L2.St) (H : Hp) (Q Q' : VK), (∀ v H', Q v H' → Q' v H') → tVar i σ H Q → tVar i σ H Q' := fun _ _ _ _ h ⟨v, e, q⟩ => ⟨v, e, h _ _ q⟩
def spKeyOf : Sp := fun vs H Q _ => ∃ (l : List Nat) (d : Nat), vs = [.str (S l), .int (d : Int)] ∧ AscL l ∧ l.length ≤ 100000 ∧ d ≤ 1000 ∧ Q (.int (keyL l d)) H
theorem ok_key_of {cc : Addr} (T : Txt K mg cc) : Cal P w K mg base 1 "key_of" spKeyOf [] := by
  have Z := T.Z
  refine cal_of T.d_key_of sc_key_of (fun vs H Q E h => ?_) (fun f cdv A' outer s H vs Q E hr h => ?_)
  · obtain ⟨l, d, rfl, _⟩ := h
    rfl
  obtain ⟨l, d, rfl, ha, hl, hd, q⟩ := h
  have e16 : sizeLine = 16777216 := sizeLine_eq
  refine ⟨_, (pss_cons (ps_if (PW.pt (pw_or (pt_not (pt_val (pe_m0 PySem.F.slot_str_isdigit PySem.F.type_str_isdigit mt_isdigit (pv 0)))) (pw_or1 (pt_cmpR op_gt (pe_callB call_len_str rfl Z.len PySem.boot_len (pa_cons (pv 0) pa_nil)) pe_int (nomark _))))) (pss_one (ps_ret (pe_un un_neg pe_int))) pss_nil)
  (pss_cons (ps_set (i := 2) sc_key_of.nd rfl (Or.inl rfl) (pe_callTy call_int_str rfl Z.int (by decide +kernel) (pa_cons (pv 0) pa_nil)))
  (pss_cons (ps_if (pt_cmpR op_ge (pv 2) (pe_op op_oneShl pe_int (pv 1)) (nomark _)) (pss_one (ps_ret (pe_un un_neg pe_int))) pss_nil)
  (pss_one (ps_ret (pv 2)))))), ?_⟩
  refine ⟨_, rfl, ⟨_, rfl⟩, _, rfl, rfl, True.intro, _, rfl, ?_⟩
  rw [digit_S ha]
  cases hdg : digs l with
  | false =>
    rw [show keyL l d = -1 from if_neg (fun h => by rw [hdg] at h; cases h.1)] at q
    exact iteT (iteT ⟨_, rfl, q⟩)
  | true =>
    refine iteF ⟨_, rfl, _, rfl, by rw [S_len]; omega, _, _, rfl, rfl, _, rfl, ?_⟩
    rw [S_len]
    by_cases h9 : l.length ≤ 9
    · rw [decide_eq_false (show ¬ (9 : Int) < (l.length : Int) by omega)]
      refine iteF ⟨_, rfl, _, _, rfl, int_of hdg (by omega), by rw [S_len]; omega, ?_⟩
      refine ⟨_, rfl, _, rfl, d, rfl, rfl, by omega, _, _, rfl, rfl, _, rfl, ?_⟩
      have e2 : ((2 ^ d : Nat) : Int) = 2 ^ d := by rw [Int.natCast_pow]; rfl
      by_cases hk : NumText.digitsVal l < 2 ^ d
      · rw [show keyL l d = (NumText.digitsVal l : Int) from if_pos ⟨hdg, h9, hk⟩] at q
        rw [decide_eq_false (show ¬ (2 : Int) ^ d ≤ ((NumText.digitsVal l : Nat) : Int) by omega)]
        exact iteF ⟨_, rfl, q⟩
      · rw [show keyL l d = -1 from if_neg (fun h => hk h.2.2)] at q
        rw [decide_eq_true (show (2 : Int) ^ d ≤ ((NumText.digitsVal l : Nat) : Int) by omega)]
        exact iteT ⟨_, rfl, q⟩
    · rw [show keyL l d = -1 from if_neg (fun h => h9 h.2.1)] at q
      rw [decide_eq_true (show (9 : Int) < (l.length : Int) by omega)]
      exact iteT ⟨_, rfl, q⟩
/-- what a row says, as a value -/
def actV : Act → List V
  | .put k t => [.str "put", .int k, .str (S t)]
  | .cut k => [.str "cut", .int k]
def spReadRow (mg : Str → Option Value) : Sp := fun vs H Q E => ∃ (l : List Nat) (d : Nat), vs = [.str (S l), .int (d : Int)] ∧ AscL l ∧ l.length ≤ 100000 ∧ d ≤ 1000 ∧
  (readL l d = some none → ∀ H', Same H H' → Q .non H') ∧ (∀ a, readL l d = some (some a) → ∀ q H', Same H H' → H q = none → H' q = some (.tup (actV a)) → Q (.ref q) H') ∧
  (readL l d = none → ∀ D, mg "BadRow" = some (.ref D) → ∀ dx H', Same H H' → H dx = none → H' dx = some (.xd [("row", .int 0)]) → E (.ref D) (some dx) H')
theorem ok_read_rowN {cc : Addr} (T : Txt K mg cc) (EI : ExcI K mg "BadRow" "BookError" "row" "BadRow.__init__" s_BadRow___init__ ["self", "row"] C B) : CalN P w K mg base 3 "read_row" (spReadRow mg) := by
  have Z := T.Z
  have C_key_of := ok_key_of (P := P) (w := w) (base := base) T
  have F_BadRow := ok_brinit (P := P) (w := w) (base := base) T EI
  refine calN_of T.d_read_row sc_read_row (fun vs H Q E h => ?_) (fun f cdv A' outer s H vs Q E hr h => ?_)
  · obtain ⟨l, d, rfl, _⟩ := h
    rfl
  obtain ⟨l, d, rfl, ha, hl, hd, q1, q2, q3⟩ := h
  have e16 : sizeLine = 16777216 := sizeLine_eq
  refine ⟨_, (pss_cons (ps_set (i := 2) sc_read_row.nd rfl (Or.inl rfl) (pe_bm PySem.F.plainAttrs_str PySem.F.slot_str_lstrip PySem.F.type_str_lstrip mt_lstripChars (pv 0) (pa_cons pe_str pa_nil)))
  (pss_cons (ps_if (PW.pt (pw_or (pt_cmpR op_eq (pv 2) pe_str (nomark _)) (pw_or1 (pt_val (pe_m1 PySem.F.slot_str_startswith PySem.F.type_str_startswith mt_startswith (pv 2) pe_str))))) (pss_one (ps_ret pe_non)) pss_nil)
  (pss_cons (ps_asg (pe_partition (pv 2) pe_str) (pg_tup rfl (pgs_cons (pg_name (i := 3) sc_read_row.nd rfl (Or.inl rfl)) (pgs_cons (pg_name (i := 4) sc_read_row.nd rfl (Or.inl rfl)) (pgs_cons (pg_name (i := 5) sc_read_row.nd rfl (Or.inl rfl)) pgs_nil)))))
  (pss_cons (ps_if (pt_cmpR op_eq (pv 3) pe_str (nomark _)) (pss_cons (ps_asg (pe_partition (pv 5) pe_str) (pg_tup rfl (pgs_cons (pg_name (i := 6) sc_read_row.nd rfl (Or.inl rfl)) (pgs_cons (pg_name (i := 7) sc_read_row.nd rfl (Or.inl rfl)) (pgs_cons (pg_name (i := 8) sc_read_row.nd rfl (Or.inl rfl)) pgs_nil)))))
  (pss_cons (ps_set (i := 9) sc_read_row.nd rfl (Or.inl rfl) (pe_c C_key_of hr (by omega) rfl (pa_cons (pv 6) (pa_cons (pv 1) pa_nil))))
  (pss_one (ps_if (PW.pt (pw_and (pt_cmpR op_ge (pv 9) pe_int (nomark _)) (pw_and1 (pt_cmpR op_eq (pv 7) pe_str (nomark _))))) (pss_one (ps_ret (pe_tup (pa_cons pe_str (pa_cons (pv 9) (pa_cons (pv 8) pa_nil)))))) pss_nil)))) pss_nil)
  (pss_cons (ps_if (pt_cmpR op_eq (pv 3) pe_str (nomark _)) (pss_cons (ps_set (i := 9) sc_read_row.nd rfl (Or.inl rfl) (pe_c C_key_of hr (by omega) rfl (pa_cons (pe_bm PySem.F.plainAttrs_str PySem.F.slot_str_rstrip PySem.F.type_str_rstrip mt_rstripChars (pv 5) (pa_cons pe_str pa_nil)) (pa_cons (pv 1) pa_nil))))
  (pss_one (ps_if (pt_cmpR op_ge (pv 9) pe_int (nomark _)) (pss_one (ps_ret (pe_tup (pa_cons pe_str (pa_cons (pv 9) pa_nil))))) pss_nil))) pss_nil)
  (pss_one (ps_raiseIN EI F_BadRow hr (by omega) rfl (L2N.takes_of rfl rfl rfl rfl) rfl pe_int te_int))))))), ?_⟩
  have eSp : Str.ofString " " = S [32] := TL.ext_tl (by decide +kernel)
  have eHs : Str.ofString "#" = S [35] := TL.ext_tl (by decide +kernel)
  have eNo : Str.ofString "" = S [] := TL.ext_tl (by decide +kernel)
  have ePut : Str.ofString "put" = S putW := TL.ext_tl (by decide +kernel)
  have eCut : Str.ofString "cut" = S cutW := TL.ext_tl (by decide +kernel)
  have sEq : ∀ {a b : List Nat}, decide (V.str (S a) = V.str (S b)) = decide (a = b) := fun {a b} => decide_eq_decide.mpr ⟨fun z => S_inj (V.str.inj z), fun z => by rw [z]⟩
  have hAb : AscL (lsp l) := ha.sub fun c hc => lsp_mem hc
  have hAr : AscL (rst (lsp l)) := hAb.sub fun c hc => rst_mem hc
  have l1 := lsp_len l
  have l2 := rst_len (lsp l)
  have l3 := wrd_len (rst (lsp l))
  have l4 := rsp_len (rst (lsp l))
  refine ⟨_, rfl, rfl, _, _, rfl, rfl, by rw [S_len]; omega, ?_⟩
  rw [eSp, eHs, eNo, ePut, eCut, lstrip_S]
  refine ⟨_, rfl, rfl, _, rfl, ?_⟩
  rw [sEq]
  by_cases hb : lsp l = []
  · rw [decide_eq_true hb]
    exact iteT (iteT (q1 (if_pos (.inl hb)) H (Same.refl H)))
  rw [decide_eq_false hb]
  refine iteF ⟨_, rfl, ⟨_, rfl⟩, _, _, rfl, rfl, _, rfl, ?_⟩
  rw [hash_S]
  by_cases hh : (lsp l).head? = some 35
  · rw [decide_eq_true hh]
    exact iteT (q1 (if_pos (.inr hh)) H (Same.refl H))
  rw [decide_eq_false hh]
  have e0 : readL l d = _ := if_neg (fun z => z.elim hb hh)
  refine iteF ⟨_, rfl, ⟨_, rfl⟩, _, _, rfl, rfl, by decide +kernel, by rw [S_len]; omega, fun p1 np1 => ?_⟩
  rw [part_S]
  have s1 : Same H (upd H p1 (.tup [.str (S (wrd (lsp l))), .str (if 32 ∈ lsp l then S [32] else S []), .str (S (rst (lsp l)))])) := same_upd np1
  have hp1 : upd H p1 (.tup [.str (S (wrd (lsp l))), .str (if 32 ∈ lsp l then S [32] else S []), .str (S (rst (lsp l)))]) p1 = some (.tup [.str (S (wrd (lsp l))), .str (if 32 ∈ lsp l then S [32] else S []), .str (S (rst (lsp l)))]) := upd_same
  generalize upd H p1 (.tup [.str (S (wrd (lsp l))), .str (if 32 ∈ lsp l then S [32] else S []), .str (S (rst (lsp l)))]) = H1 at s1 hp1 ⊢
  refine ⟨p1, _, rfl, SqT.of hp1, rfl, _, _, rfl, _, _, rfl, _, _, rfl, rfl, ?_⟩
  refine ⟨_, rfl, rfl, _, rfl, ?_⟩
  rw [sEq]
  by_cases hp : wrd (lsp l) = putW
  · rw [decide_eq_true hp]
    rw [if_pos hp] at e0
    refine iteT ⟨_, rfl, ⟨_, rfl⟩, _, _, rfl, rfl, by decide +kernel, by rw [S_len]; omega, fun p2 np2 => ?_⟩
    rw [part_S]
    have s2 := s1.trans (same_upd (o := .tup [.str (S (wrd (rst (lsp l)))), .str (if 32 ∈ rst (lsp l) then S [32] else S []), .str (S (rst (rst (lsp l))))]) np2)
    have hp2 : upd H1 p2 (.tup [.str (S (wrd (rst (lsp l)))), .str (if 32 ∈ rst (lsp l) then S [32] else S []), .str (S (rst (rst (lsp l))))]) p2 = some (.tup [.str (S (wrd (rst (lsp l)))), .str (if 32 ∈ rst (lsp l) then S [32] else S []), .str (S (rst (rst (lsp l))))]) := upd_same
    generalize upd H1 p2 (.tup [.str (S (wrd (rst (lsp l)))), .str (if 32 ∈ rst (lsp l) then S [32] else S []), .str (S (rst (rst (lsp l))))]) = H2 at s2 hp2 ⊢
    refine ⟨p2, _, rfl, SqT.of hp2, rfl, _, _, rfl, _, _, rfl, _, _, rfl, rfl, ?_⟩
    refine ⟨_, rfl, _, rfl, wrd (rst (lsp l)), d, rfl, hAr.sub (fun c hc => wrd_mem hc), by omega, hd, ?_⟩
    refine ⟨_, rfl, _, _, rfl, rfl, _, rfl, ?_⟩
    by_cases hk : 0 ≤ keyL (wrd (rst (lsp l))) d
    · rw [decide_eq_true hk]
      refine iteT ⟨_, rfl, rfl, _, rfl, ?_⟩
      by_cases h32 : 32 ∈ rst (lsp l)
      · rw [if_pos h32, sEq, decide_eq_true rfl]
        rw [if_pos ⟨hk, h32⟩] at e0
        exact iteT ⟨_, rfl, _, rfl, by show 3 ≤ sizeLine; decide, fun q nq => q2 _ e0 q _ (s2.trans (same_upd nq)) (s2.free nq) (by rw [upd_same, ← ePut]; rfl)⟩
      · rw [if_neg h32, sEq, decide_eq_false (fun z => by cases z)]
        rw [if_neg (fun z => h32 z.2)] at e0
        exact iteF ⟨_, rfl, rfl, _, rfl, by
        rw [sEq, decide_eq_false (show ¬ wrd (lsp l) = cutW from fun z => by rw [hp] at z; cases z)]
        exact iteF ⟨0, rfl, by decide, by decide, fun dx ndx => q3 e0 _ EI.gC dx _ (s2.trans (same_upd ndx)) (s2.free ndx) upd_same⟩⟩
    · rw [decide_eq_false hk]
      rw [if_neg (fun z => hk z.1)] at e0
      exact iteF (iteF ⟨_, rfl, rfl, _, rfl, by
        rw [sEq, decide_eq_false (show ¬ wrd (lsp l) = cutW from fun z => by rw [hp] at z; cases z)]
        exact iteF ⟨0, rfl, by decide, by decide, fun dx ndx => q3 e0 _ EI.gC dx _ (s2.trans (same_upd ndx)) (s2.free ndx) upd_same⟩⟩)
  · rw [decide_eq_false hp]
    rw [if_neg hp] at e0
    refine iteF ⟨_, rfl, rfl, _, rfl, ?_⟩
    rw [sEq]
    by_cases hc : wrd (lsp l) = cutW
    · rw [decide_eq_true hc]
      rw [if_pos hc] at e0
      refine iteT ⟨_, rfl, rfl, _, _, rfl, rfl, by rw [S_len]; omega, ?_⟩
      rw [rstrip_S]
      refine ⟨_, rfl, rsp (rst (lsp l)), d, rfl, hAr.sub (fun c hc => rsp_mem hc), by omega, hd, ?_⟩
      refine ⟨_, rfl, _, _, rfl, rfl, _, rfl, ?_⟩
      by_cases hk : 0 ≤ keyL (rsp (rst (lsp l))) d
      · rw [decide_eq_true hk]
        rw [if_pos hk] at e0
        exact iteT ⟨_, rfl, by show 2 ≤ sizeLine; decide, fun q nq => q2 _ e0 q _ (s1.trans (same_upd nq)) (s1.free nq) (by rw [upd_same, ← eCut]; rfl)⟩
      · rw [decide_eq_false hk]
        rw [if_neg hk] at e0
        exact iteF ⟨0, rfl, by decide, by decide, fun dx ndx => q3 e0 _ EI.gC dx _ (s1.trans (same_upd ndx)) (s1.free ndx) upd_same⟩
    · rw [decide_eq_false hc]
      rw [if_neg hc] at e0
      exact iteF ⟨0, rfl, by decide, by decide, fun dx ndx => q3 e0 _ EI.gC dx _ (s1.trans (same_upd ndx)) (s1.free ndx) upd_same⟩
end

/-! ### isinstance of a caught error that has a dict -/
section
variable {prog : Program} {w : World} {A : Around} {E : Value → Shared → Prop} {s : Shared} {K : PySem.W.Frag} {x D : Addr} {ox : Obj} {od : Option Obj}
open PySem.W PySem.Calls in
theorem cls_of_exc {Q : Option Value → Shared → Prop} (C : ExcC K D) (inK : K.In s.heap) (at_ : InstAt s.heap x ox D od) (fin : Q (some (.ref D)) { s with toks := s.toks + 1 }) :
    wpAny (model prog w) A (getAttr? (.ref x) "__class__") Q E s := by
  obtain ⟨cd, clsD, _⟩ := any_some C.hd
  have there : findObj K D od "__class__" = some (.bind (.builtin "getset_descriptor.__get__") (.builtin "object.__class__")) := by
    unfold findObj
    rw [clsD, Option.bind_some, C.ha, Option.bind_some]
    simp [C.hn, C.ht]
  obtain ⟨hp, g, d, t, os⟩ := s
  have tyL := at_.type (M := model prog w)
  have gaL := looks_findIn (M := model prog w) inK C.hg
  have gtL := looks_findIn (M := model prog w) inK C.hk
  have clL := looks_find (M := model prog w) inK at_ there
  have exL : Looks (model prog w) hp (isInstance (.ref x) (.type "BaseException")) true := tyL.andThen (looks_subIn inK C.hs)
  have own : (Value.builtin "BaseException.__getattribute__" == Value.builtin "object.__getattribute__") = false := by decide +kernel
  unfold getAttr? getAttrBy? getAttrBy
  refine wpAny_bind (wpAny_mkText (wpAny_bind (wpAny_attempt (wpAny_holding (wpAny_bind (tyL.at (wpAny_bind (gaL.at ?_))))))))
  show wpAny _ _ (if (onTheHeap (Value.ref D) && Value.builtin "BaseException.__getattribute__" == Value.builtin "object.__getattribute__") = true then _ else _) _ _ _
  rw [own, Bool.and_false, if_neg Bool.false_ne_true]
  unfold getAttrByItsOwn hookBefore
  refine wpAny_bind ?_
  rw [if_pos (show onTheHeap (Value.ref D) = true from rfl)]
  refine gtL.at (wpAny_bind (wpAny_attempt (wpAny_holding ?_)))
  unfold callGetattribute
  rw [show (false && onTheHeap (Value.builtin "BaseException.__getattribute__")) = false from rfl, if_neg Bool.false_ne_true]
  unfold boundAndCalled
  rw [PySem.F.excAttr_ValueError.ga.bind (.ref x)]
  refine wpAny_bind (wpAny_pure ?_)
  show wpAny _ _ (call (.builtin "BaseException.__getattribute__") [.ref x, .str "__class__" t]) _ _ _
  refine wpAny_call (codeAny_call_builtin PySem.F.excAttr_ValueError.ga.plain PySem.F.entry_bexc_ga
    (@check_slot (model prog w) _ _ ⟨hp, g, d, t + 1, os⟩ "BaseException.__getattribute__" "BaseException" "__getattribute__" (.ref x) [.str "__class__" t] [] _
      (by decide +kernel) (by decide +kernel) exL (PySem.F.args_bexc_ga (.ref x) (.str "__class__" t)) ?_))
  unfold Builtin.«object.__getattribute__»
  refine wpAny_bind (wpAny_of_eq (a := ((Value.ref x : Value), [Value.str "__class__" t])) (by first | rfl | (simp only [slotArgs]; rfl)) (wpAny_bind (wpAny_pure (wpAny_bind (tyL.at (wpAny_bind (clL.at ?_)))))))
  show wpAny _ _ (holding [Value.builtin "object.__class__"] (call (.builtin "getset_descriptor.__get__") [.builtin "object.__class__", .ref x, .ref D]) >>= ret) _ _ _
  refine wpAny_bind (wpAny_holding (wpAny_call (class_get (s := ⟨hp, g, d, t + 1, os⟩) (ox := ox) (od := od) inK at_ C.hm (wpAny_pure ?_))))
  show wpAny _ _ (handedOut (.ref D)) _ _ _
  rw [handedOut_of (v := .ref D) rfl]
  first
    | exact wpAny_pure (wpAny_pure fin)
    | exact wpAny_pure fin
    | exact wpAny_pure (wpAny_bind (wpAny_pure (wpAny_pure fin)))
open PySem.W PySem.Calls in
theorem kit_exc (C : ExcC K D) : KitX K (.ref x) (.ref D) (fun h => InstAt h x ox D od) where
  ty := fun _ _ _ I => I.type
  it := fun _ _ inK _ => by
    obtain ⟨cd, clsD, _⟩ := any_some C.hd
    unfold clsIn at clsD
    split at clsD
    · rename_i ho
      exact fun _ _ _ _ keep q => by
        unfold isType loadHead
        exact wpAny_bind (wpAny_loadPart (keep _ _ (inK _ _ ho)) (wpAny_pure q))
    · cases clsD
  ne := fun h tp dd its n sl inK htp => by
    obtain ⟨cd, clsD, _⟩ := any_some C.hd
    refine Bool.eq_false_iff.mpr fun q => ?_
    obtain rfl : D = tp := Value.ref.inj (beq_iff_eq.mp q)
    unfold clsIn at clsD
    split at clsD
    · rename_i ho
      cases (inK _ _ ho).symm.trans htp
    · cases clsD
  ca := fun inK I k => cls_of_exc C inK I k
end
theorem call_isD {X : Cx} {a D : Addr} {oe : Obj} {d : Option Addr} {pn : List (Addr × Obj)} (C : ExcC X.K D) (hz : Zc (.ref D) d oe) (hf : ∃ vs, oe.data = .fields vs) :
    CallR (X.suite a ((a, oe) :: pn)) (.builtin "isinstance") (fun xs H Q => ∃ (c : V) (cv : Value) (b : Bool) (dd : Addr) (fs : List (Str × V)), d = some dd ∧ H dd = some (.xd fs) ∧ xs = [.ref a, c] ∧ (∀ u, RelV c u → u = cv) ∧ PySem.W.kitOne X.K (.ref D) cv = some b ∧ Q (.bl b) H) := by
  intro pins s σ H xs us Q I r h
  obtain ⟨c, cv, b, dd, fs, rfl, hdd, rfl, hcv, e, q⟩ := h
  rcases r with _ | ⟨rx, r⟩
  rcases r with _ | ⟨rt, r⟩
  rcases r with _ | _
  cases rx
  obtain rfl := hcv _ rt
  obtain ⟨hget, _⟩ := I.pin (a, oe) (List.mem_append.mpr (.inl List.mem_cons_self))
  obtain ⟨vs, hv⟩ := hf
  obtain ⟨mA, hns, _⟩ : ObjOk X.prog X.w H s.heap dd (.xd fs) := I.hok dd _ hdd
  obtain ⟨odv, ho, _⟩ := lookIn_ns hns
  have J : PySem.W.InstAt s.heap a oe D (some odv) := ⟨hget, hz.1, by unfold PySem.W.notCls; rw [hv] <;> rfl, by rw [hz.2]; exact ho⟩
  exact PySem.W.kia_one (kit_exc C) I.kIn J e (fun z => nomatch z) fun tk => ⟨.bl b, H, I.kept (t' := tk) fun _ _ z => z, rfl, q⟩
theorem zcd_of {cls : Value} {C : Addr} {d : Option Addr} {oe : Obj} (hz : Zc cls d oe) (h : cls = .ref C) : Zc (.ref C) d oe := h ▸ hz

section
variable {P : Program} {w : World} {K : PySem.W.Frag} {mg : Str → Option Value} {base : Heap} {C B : Addr}
def spPlaced (mg : Str → Option Value) : Sp := fun vs H Q E => ∃ (l : List Nat) (d : Nat) (pl : Int), vs = [.str (S l), .int pl, .int (d : Int)] ∧ AscL l ∧ l.length ≤ 100000 ∧ d ≤ 1000 ∧ 0 ≤ pl ∧ pl < 1000000 ∧
  (readL l d = some none → ∀ H', Same H H' → Q .non H') ∧ (∀ a, readL l d = some (some a) → ∀ q H', Same H H' → H q = none → H' q = some (.tup (actV a)) → Q (.ref q) H') ∧
  (readL l d = none → ∀ D, mg "BadRow" = some (.ref D) → ∀ dx H', Same H H' → H dx = none → H' dx = some (.xd [("row", .int pl)]) → E (.ref D) (some dx) H')
theorem ok_placed {cc : Addr} (T : Txt K mg cc) (EI : ExcI K mg "BadRow" "BookError" "row" "BadRow.__init__" s_BadRow___init__ ["self", "row"] C B) : CalX P w K mg base 4 "placed" (spPlaced mg) := by
  have Z := T.Z
  have C_read_row := ok_read_rowN (P := P) (w := w) (base := base) T EI
  have F_BadRowH := ok_brinitH (P := P) (w := w) (base := base) T EI
  refine calX_of T.d_placed sc_placed (fun vs H Q E h => ?_) (fun f cdv A' outer s H vs Q E hr h => ?_)
  · obtain ⟨l, d, pl, rfl, _⟩ := h
    rfl
  obtain ⟨l, d, pl, rfl, ha, hl, hd, hp0, hp1, q1, q2, q3⟩ := h
  refine ⟨_, (pss_one (ps_try_onlyXE (pss_one (ps_ret (pv 3))) rfl rfl ⟨rfl, by decide, .inl EI.gC⟩ (fun hd => L2H.passesAt_of rfl hd) (takes_of rfl rfl rfl rfl) (fun W pn xe tk po => (pss_one (ps_set (i := 3) sc_placed.nd rfl (Or.inl rfl) (pe_cn C_read_row tk hr (by omega) rfl (pa_cons (pv 0) (pa_cons (pv 2) pa_nil)))))) (fun a oe cls d pn hz hf tk hot => (pss_one (ps_raiseIH EI F_BadRowH (L2H.roomH_mark hr (some (.ref a))) (by omega) hot tk rfl (pv 1) te_var))))), ?_⟩
  refine ⟨_, rfl, _, rfl, l, d, rfl, ha, hl, hd, fun e H' s' => ⟨_, rfl, q1 e H' s'⟩, fun a e q H' s' nq hq => ⟨_, rfl, q2 a e q H' s' nq hq⟩, fun e D hD dx H' s' ndx hdx => ?_⟩
  rw [EI.gC] at hD
  cases hD
  exact ⟨true, EI.eP, fun _ a na => ⟨_, rfl, pl, rfl, hp0, hp1, fun dx2 n2 => q3 e _ EI.gC dx2 _ (s'.trans (same_upd n2)) (s'.free n2) upd_same⟩, fun z => nomatch z⟩
end

theorem spl_many : ∀ (l acc : List Nat), (TL.spl [10] 0 acc l).length ≤ l.length + 1
  | [], acc => by rw [TL.spl_nil]; exact Nat.le_refl _
  | c :: r, acc => by
    cases h : TL.pre [10] (c :: r) with
    | true =>
      rw [TL.spl_hit h]
      have := spl_many r []
      exact Nat.succ_le_succ this
    | false =>
      rw [TL.spl_miss h]
      have := spl_many r (acc ++ [c])
      show _ ≤ r.length + 1 + 1
      omega
theorem spl_rows : ∀ (l acc : List Nat), ∀ x ∈ TL.spl [10] 0 acc l, (∀ c ∈ x, c ∈ acc ∨ c ∈ l) ∧ x.length ≤ acc.length + l.length
  | [], acc => fun x hx => by
    rw [TL.spl_nil] at hx
    rw [List.mem_singleton.mp hx]
    exact ⟨fun c hc => .inl hc, Nat.le_refl _⟩
  | c :: r, acc => fun x hx => by
    cases h : TL.pre [10] (c :: r) with
    | true =>
      rw [TL.spl_hit h] at hx
      rcases List.mem_cons.mp hx with rfl | hx
      · exact ⟨fun c hc => .inl hc, Nat.le_add_right _ _⟩
      · obtain ⟨h1, h2⟩ := spl_rows r [] x hx
        refine ⟨fun b hb => .inr (List.mem_cons_of_mem _ ((h1 b hb).resolve_left (fun z => nomatch z))), ?_⟩
        show _ ≤ acc.length + (r.length + 1)
        have h2 : x.length ≤ 0 + r.length := h2
        omega
    | false =>
      rw [TL.spl_miss h] at hx
      obtain ⟨h1, h2⟩ := spl_rows r (acc ++ [c]) x hx
      refine ⟨fun b hb => ?_, ?_⟩
      · rcases h1 b hb with h | h
        · rcases List.mem_append.mp h with h | h
          · exact .inl h
          · rw [List.mem_singleton.mp h]
            exact .inr List.mem_cons_self
        · exact .inr (List.mem_cons_of_mem _ h)
      · rw [List.length_append] at h2
        show _ ≤ acc.length + (r.length + 1)
        have h2 : x.length ≤ acc.length + 1 + r.length := h2
        omega

section
variable {P : Program} {w : World} {K : PySem.W.Frag} {mg : Str → Option Value} {base : Heap}
def someL : List Nat := TL.tl (Str.ofString " !\"#$&'()*+,-./0123456789:;<=>?@ABCDEFGHIJKLMNOPQRSTUVWXYZ[\\]^_`abcdefghijklmnopqrstuvwxyz{|}~")
theorem someL_at : someL.length = 94 ∧ (someL.all fun c => decide (32 ≤ c) && decide (c ≤ 126)) = true := by decide +kernel
theorem someL_S : Str.ofString " !\"#$&'()*+,-./0123456789:;<=>?@ABCDEFGHIJKLMNOPQRSTUVWXYZ[\\]^_`abcdefghijklmnopqrstuvwxyz{|}~" = S someL := (SX.S_tl _).symm
/-- signs from the blank to ~ -/
def PrL (t : List Nat) : Prop := ∀ c ∈ t, 32 ≤ c ∧ c ≤ 126
theorem PrL.asc {t : List Nat} (h : PrL t) : AscL t := fun c hc => by have := (h c hc).2; omega
theorem some_get {z : Int} (h0 : 0 ≤ z) (h1 : z < 94) : ∃ c, atI someL z = some c ∧ 32 ≤ c ∧ c ≤ 126 := by
  obtain ⟨n, rfl⟩ := Int.eq_ofNat_of_zero_le h0
  have hl := someL_at.1
  have hn : n < someL.length := by omega
  have := List.all_eq_true.mp someL_at.2 _ (List.getElem_mem hn)
  rw [Bool.and_eq_true] at this
  exact ⟨_, atI_nat (List.getElem?_eq_getElem hn), of_decide_eq_true this.1, of_decide_eq_true this.2⟩
theorem joinL_ones : ∀ l : List Nat, TL.joinL [] (l.map fun c => [c]) = l
  | [] => rfl
  | [a] => rfl
  | a :: b :: l => by
    have := joinL_ones (b :: l)
    show [a] ++ [] ++ TL.joinL [] ((b :: l).map fun c => [c]) = _
    rw [this]
    rfl
theorem join_ones (l : List Nat) : Txt.join (S []) (l.map fun c => S [c]) = S l := by
  have h := SX.join_S [] (l.map fun c => [c])
  rw [List.map_map] at h
  rw [joinL_ones] at h
  exact h
end

/-! ### rows that are made -/
def readB (b : List Nat) (d : Nat) : Option (Option Act) :=
  if b = [] ∨ b.head? = some 35 then some none
  else if wrd b = putW then
    if 0 ≤ keyL (wrd (rst b)) d ∧ 32 ∈ rst b then some (some (.put (keyL (wrd (rst b)) d) (rst (rst b)))) else none
  else if wrd b = cutW then
    if 0 ≤ keyL (rsp (rst b)) d then some (some (.cut (keyL (rsp (rst b)) d))) else none
  else none
theorem lsp_sp (n : Nat) {l : List Nat} (h : l.head? ≠ some 32) : lsp (List.replicate n 32 ++ l) = l := by
  induction n with
  | zero =>
    cases l with
    | nil => rfl
    | cons a l =>
      have e : (a == 32) = false := beq_eq_false_iff_ne.mpr fun z => h (by rw [z]; rfl)
      show (a :: l).dropWhile (· == 32) = a :: l
      rw [List.dropWhile_cons, if_neg (by rw [e]; decide)]
  | succ n ih =>
    rw [List.replicate_succ]
    exact ih
theorem readL_sp (n d : Nat) {b : List Nat} (h : b.head? ≠ some 32) : readL (List.replicate n 32 ++ b) d = readB b d := by
  show readB (lsp (List.replicate n 32 ++ b)) d = _
  rw [lsp_sp n h]
theorem wrd_app {p : List Nat} (r : List Nat) (h : 32 ∉ p) : wrd (p ++ 32 :: r) = p ∧ rst (p ++ 32 :: r) = r := by
  induction p with
  | nil => exact ⟨rfl, rfl⟩
  | cons a p ih =>
    obtain ⟨h1, h2⟩ := ih fun z => h (List.mem_cons_of_mem _ z)
    have e : (a != 32) = true := bne_iff_ne.mpr fun z => h (by rw [z]; exact List.mem_cons_self)
    unfold wrd rst
    rw [List.cons_append, List.takeWhile_cons, List.dropWhile_cons, if_pos e, if_pos e]
    exact ⟨congrArg (a :: ·) h1, h2⟩
theorem readB_put (r : List Nat) (d : Nat) : readB (putW ++ 32 :: r) d = if 0 ≤ keyL (wrd r) d ∧ 32 ∈ r then some (some (.put (keyL (wrd r) d) (rst r))) else none := by
  obtain ⟨h1, h2⟩ := wrd_app (p := putW) r (by decide)
  unfold readB
  rw [if_neg (by intro z; rcases z with z | z <;> cases z), if_pos h1, h2]
theorem readB_cut (r : List Nat) (d : Nat) : readB (cutW ++ 32 :: r) d = if 0 ≤ keyL (rsp r) d then some (some (.cut (keyL (rsp r) d))) else none := by
  obtain ⟨h1, h2⟩ := wrd_app (p := cutW) r (by decide)
  unfold readB
  rw [if_neg (by intro z; rcases z with z | z <;> cases z), if_neg (by rw [h1]; decide), if_pos h1, h2]
theorem readB_none {b : List Nat} (d : Nat) (h0 : b ≠ []) (h1 : b.head? ≠ some 35) (h2 : wrd b ≠ putW) (h3 : wrd b ≠ cutW) : readB b d = none := by
  unfold readB
  rw [if_neg (by intro z; exact z.elim h0 h1), if_neg h2, if_neg h3]
theorem keyL_bad {l : List Nat} (d : Nat) (h : digs l = false ∨ 9 < l.length) : ¬ 0 ≤ keyL l d := by
  unfold keyL
  rw [if_neg]
  · decide
  · rintro ⟨h1, h2, _⟩
    rcases h with h | h
    · rw [h] at h1; cases h1
    · omega
theorem digs_no {l : List Nat} {c : Nat} (hc : c ∈ l) (h : c < 48 ∨ 57 < c) : digs l = false := by
  cases hd : digs l with
  | false => rfl
  | true =>
    unfold digs at hd
    rw [Bool.and_eq_true] at hd
    have := List.all_eq_true.mp hd.2 c hc
    rw [Bool.and_eq_true] at this
    have h1 := of_decide_eq_true this.1
    have h2 := of_decide_eq_true this.2
    omega
theorem rsp_tail (x : List Nat) {t : List Nat} (ht : t ≠ []) (hn : 32 ∉ t) : rsp (x ++ t) = x ++ t := by
  unfold rsp
  rw [List.reverse_append]
  cases hr : t.reverse with
  | nil => exact absurd (List.reverse_eq_nil_iff.mp hr) ht
  | cons a r =>
    have ha : a ∈ t := List.mem_reverse.mp (by rw [hr]; exact List.mem_cons_self)
    have e : (a == 32) = false := beq_eq_false_iff_ne.mpr fun z => hn (by rw [← z]; exact ha)
    rw [List.cons_append, List.dropWhile_cons, if_neg (by rw [e]; decide), ← List.cons_append, ← hr, ← List.reverse_append, List.reverse_reverse]
theorem rsp_sp {t : List Nat} (n : Nat) (ht : t ≠ []) (hn : 32 ∉ t) : rsp (t ++ List.replicate n 32) = t := by
  unfold rsp
  rw [List.reverse_append, List.reverse_replicate]
  have h : (List.replicate n 32 ++ t.reverse).dropWhile (· == 32) = t.reverse := by
    refine lsp_sp n ?_
    cases hr : t.reverse with
    | nil => exact absurd (List.reverse_eq_nil_iff.mp hr) ht
    | cons a r =>
      intro z
      have ha : a ∈ t := List.mem_reverse.mp (by rw [hr]; exact List.mem_cons_self)
      have z : a = 32 := Option.some.inj z
      exact hn (by rw [← z]; exact ha)
  rw [h, List.reverse_reverse]
/-- a key's figures -/
structure Fig (kd : List Nat) (n : Nat) : Prop where
  ne : kd ≠ []
  dg : ∀ c ∈ kd, 48 ≤ c ∧ c ≤ 57
  l9 : kd.length ≤ 9
  vl : NumText.digitsVal kd = n
theorem Fig.digs {kd : List Nat} {n : Nat} (h : Fig kd n) : digs kd = true := by
  unfold My.digs
  rw [Bool.and_eq_true]
  refine ⟨?_, List.all_eq_true.mpr fun c hc => ?_⟩
  · cases kd with
    | nil => exact absurd rfl h.ne
    | cons a l => rfl
  · rw [Bool.and_eq_true]
    exact ⟨decide_eq_true (h.dg c hc).1, decide_eq_true (h.dg c hc).2⟩
theorem Fig.no32 {kd : List Nat} {n : Nat} (h : Fig kd n) : 32 ∉ kd := fun z => by have := (h.dg 32 z).1; omega
theorem Fig.key {kd : List Nat} {n d : Nat} (h : Fig kd n) : keyL kd d = if n < 2 ^ d then (n : Int) else -1 := by
  unfold keyL
  by_cases c : n < 2 ^ d
  · rw [if_pos ⟨h.digs, h.l9, by rw [h.vl]; exact c⟩, if_pos c, h.vl]
  · rw [if_neg (fun z => c (by rw [← h.vl]; exact z.2.2)), if_neg c]
theorem Fig.pr {kd : List Nat} {n : Nat} (h : Fig kd n) : PrL kd := fun c hc => by have := h.dg c hc; omega
theorem val_zero (z : Nat) (l : List Nat) : NumText.digitsVal (List.replicate z 48 ++ l) = NumText.digitsVal l := by
  unfold NumText.digitsVal
  rw [List.foldl_append]
  congr 1
  induction z with
  | zero => rfl
  | succ z ih => rw [List.replicate_succ, List.foldl_cons]; exact ih
theorem fig_num {n z : Nat} (h : n < 100000) (hz : z + (TL.numL n).length ≤ 9) : Fig (List.replicate z 48 ++ TL.numL n) n := by
  refine ⟨?_, fun c hc => ?_, ?_, ?_⟩
  · intro e
    exact TL.numL_ne n (List.append_eq_nil_iff.mp e).2
  · rcases List.mem_append.mp hc with hc | hc
    · rw [(List.mem_replicate.mp hc).2]
      decide
    · exact TL.numL_digits n c hc
  · rw [List.length_append, List.length_replicate]
    exact hz
  · rw [val_zero, TL.numL_val]
inductive Due where
  | non
  | bad
  | act (a : Act)
def dueR : Due → Option (Option Act)
  | .non => some none
  | .bad => none
  | .act a => some (some a)
theorem row_put {kd t : List Nat} {n m d : Nat} (h : Fig kd n) : readL (List.replicate m 32 ++ (putW ++ 32 :: (kd ++ 32 :: t))) d = dueR (if n < 2 ^ d then .act (.put n t) else .bad) := by
  rw [readL_sp m d (by show some 112 ≠ some 32; decide), readB_put]
  obtain ⟨h1, h2⟩ := wrd_app (p := kd) t h.no32
  rw [h1, h2, h.key]
  by_cases c : n < 2 ^ d
  · rw [if_pos c, if_pos c, if_pos ⟨Int.natCast_nonneg _, List.mem_append.mpr (.inr List.mem_cons_self)⟩]
    rfl
  · rw [if_neg c, if_neg c, if_neg (fun z => by have := z.1; omega)]
    rfl
theorem row_cut {kd : List Nat} {n m j d : Nat} (h : Fig kd n) : readL (List.replicate m 32 ++ (cutW ++ 32 :: (kd ++ List.replicate j 32))) d = dueR (if n < 2 ^ d then .act (.cut n) else .bad) := by
  rw [readL_sp m d (by show some 99 ≠ some 32; decide), readB_cut, rsp_sp j h.ne h.no32, h.key]
  by_cases c : n < 2 ^ d
  · rw [if_pos c, if_pos c, if_pos (Int.natCast_nonneg _)]
    rfl
  · rw [if_neg c, if_neg c, if_neg (by decide)]
    rfl
theorem row_none (m d : Nat) : readL (List.replicate m 32) d = dueR .non := by
  have h := readL_sp m d (b := []) (by decide)
  rw [List.append_nil] at h
  rw [h]
  rfl
theorem row_hash (m d : Nat) (t : List Nat) : readL (List.replicate m 32 ++ 35 :: t) d = dueR .non := by
  rw [readL_sp m d (by show some 35 ≠ some 32; decide)]
  rfl
/-- a text that cannot be read -/
structure BadB (b : List Nat) : Prop where
  hd : b.head? ≠ some 32
  pr : PrL b
  ln : b.length ≤ 40
  rd : ∀ d, readB b d = none
theorem pr_app {a b : List Nat} (h : PrL a) (h' : PrL b) : PrL (a ++ b) := fun c hc => (List.mem_append.mp hc).elim (h c) (h' c)
theorem pr_cons {a : Nat} {b : List Nat} (h : 32 ≤ a ∧ a ≤ 126) (h' : PrL b) : PrL (a :: b) := fun c hc => (List.mem_cons.mp hc).elim (fun e => by rw [e]; exact h) (h' c)
theorem pr_nil : PrL [] := fun c hc => nomatch hc
theorem pr_rep {c : Nat} (n : Nat) (h : 32 ≤ c ∧ c ≤ 126) : PrL (List.replicate n c) := fun x hx => by rw [(List.mem_replicate.mp hx).2]; exact h
theorem bad_put {r : List Nat} (hp : PrL r) (hl : r.length ≤ 36) (h : digs (wrd r) = false ∨ 9 < (wrd r).length ∨ 32 ∉ r) : BadB (putW ++ 32 :: r) := by
  refine ⟨by show some 112 ≠ some 32; decide, pr_app (fun c hc => by simp [putW] at hc; omega) (pr_cons (by decide) hp), by simp [putW]; omega, fun d => ?_⟩
  rw [readB_put, if_neg]
  rintro ⟨h1, h2⟩
  rcases h with h | h | h
  · exact keyL_bad d (.inl h) h1
  · exact keyL_bad d (.inr h) h1
  · exact h h2
theorem bad_cut {r : List Nat} (hp : PrL r) (hl : r.length ≤ 36) (h : digs (rsp r) = false ∨ 9 < (rsp r).length) : BadB (cutW ++ 32 :: r) := by
  refine ⟨by show some 99 ≠ some 32; decide, pr_app (fun c hc => by simp [cutW] at hc; omega) (pr_cons (by decide) hp), by simp [cutW]; omega, fun d => ?_⟩
  rw [readB_cut, if_neg (keyL_bad d h)]
theorem bad_word {w r : List Nat} (hp : PrL (w ++ 32 :: r)) (hl : (w ++ 32 :: r).length ≤ 40) (h0 : (w ++ 32 :: r).head? ≠ some 32 ∧ (w ++ 32 :: r).head? ≠ some 35) (h1 : 32 ∉ w) (h2 : w ≠ putW) (h3 : w ≠ cutW) : BadB (w ++ 32 :: r) := by
  have hw := (wrd_app (p := w) r h1).1
  exact ⟨h0.1, hp, hl, fun d => readB_none d (by simp) h0.2 (by rw [hw]; exact h2) (by rw [hw]; exact h3)⟩
theorem bad_row {b : List Nat} (h : BadB b) (m d : Nat) : readL (List.replicate m 32 ++ b) d = dueR .bad := by
  rw [readL_sp m d h.hd, h.rd]
  rfl

/-- what takes any exception takes one without a context -/
theorem takesN {X : Cx} {W : WX} (tk : Takes X W) : L2N.Takes X W := by
  rintro u s' ⟨a, B, sI, pins, σ, H, cls, d, e, I, nb, up, sky, more⟩
  refine tk u s' ⟨a, B, sI, pins, σ, H, cls, d, e, I, nb, up, ?_, more⟩
  rcases sky with ⟨h1, h2, h3, oe, vs, h4, h5, h6⟩ | h | h
  · exact .inl ⟨h1, h2, h3, oe, vs, h4, h5.zc, h6⟩
  · exact .inr (.inl (L2H.flyingZ_imp (fun _ z => z.zc) h))
  · exact .inr (.inr ⟨h.1, h.2.1, h.2.2.1, L2H.tracedZ_imp (fun _ z => z.zc) h.2.2.2⟩)

/-! ### the rows of a text, done on pairs -/
def runL (d : Nat) : Nat → List (List Nat) → List (Int × Str) → Except Nat (List (Int × Str))
  | _, [], kv => .ok kv
  | i, r :: rs, kv => match readL r d with
    | none => .error i
    | some none => runL d (i + 1) rs kv
    | some (some (.put k t)) => runL d (i + 1) rs (putI kv k (S t))
    | some (some (.cut k)) => match getI kv k with
      | none => .error i
      | some _ => runL d (i + 1) rs (popI kv k)
def ActIn (l : Nat) (row : List Nat) : Act → Prop
  | .put k t => 0 ≤ k ∧ k < 2 ^ l ∧ ∀ c ∈ t, c ∈ row
  | .cut k => 0 ≤ k ∧ k < 2 ^ l
theorem keyL_lt {l : List Nat} {d : Nat} (h : 0 ≤ keyL l d) : keyL l d < 2 ^ d := by
  unfold keyL at h ⊢
  by_cases c : digs l = true ∧ l.length ≤ 9 ∧ NumText.digitsVal l < 2 ^ d
  · rw [if_pos c]
    have e : ((2 ^ d : Nat) : Int) = 2 ^ d := by rw [Int.natCast_pow]; rfl
    rw [← e]
    exact Int.ofNat_lt.mpr c.2.2
  · rw [if_neg c] at h
    exact absurd h (by decide)
theorem readL_in {row : List Nat} {d : Nat} {a : Act} (h : readL row d = some (some a)) : ActIn d row a := by
  unfold readL at h
  split at h
  · cases h
  · split at h
    · split at h
      · rename_i c
        cases h
        exact ⟨c.1, keyL_lt c.1, fun x hx => lsp_mem (rst_mem (rst_mem hx))⟩
      · cases h
    · split at h
      · split at h
        · rename_i c
          cases h
          exact ⟨c, keyL_lt c⟩
        · cases h
      · cases h
theorem putI_new {kvs : List (Int × Str)} {k : Int} (x : Str) (h : ∀ e ∈ kvs, e.1 ≠ k) : putI kvs k x = kvs ++ [(k, x)] := by
  unfold putI
  rw [if_neg]
  intro c
  obtain ⟨e, he, q⟩ := List.any_eq_true.mp c
  exact h e he (of_decide_eq_true q)
theorem put_take {rows : List (Int × Str)} {i : Nat} {e : Int × Str} (hn : (rows.map (·.1)).Nodup) (he : rows[i]? = some e) : putI (rows.take i) e.1 e.2 = rows.take (i + 1) := by
  have e1 : rows.take (i + 1) = rows.take i ++ [e] := by rw [List.take_succ, he]; rfl
  rw [e1, putI_new]
  intro y hy z
  have hi := (List.getElem?_eq_some_iff.mp he).1
  have h1 : ((rows.take (i + 1)).map (·.1)).Nodup := hn.sublist (List.Sublist.map _ (List.take_sublist _ _))
  rw [e1, List.map_append, List.nodup_append] at h1
  exact h1.2.2 y.1 (List.mem_map_of_mem hy) e.1 (by simp) z
theorem TbOk.perm {l : Nat} {a b : List (Int × Str)} (h : TbOk l a) (p : b.Perm a) : TbOk l b :=
  ⟨(p.map (·.1)).nodup_iff.mpr h.nd, fun e he => h.rg e (p.mem_iff.mp he), fun e he => h.tx e (p.mem_iff.mp he)⟩
theorem TbAt.upd {C f : Addr} {H : Hp} {p d : Addr} {l : Nat} {kvs kvs' : List (Int × Str)} (h : TbAt C f H p d l kvs) (hl : kvs'.length ≤ 1000) : TbAt C f (L2.upd H d (.dK (convT kvs'))) p d l kvs' := by
  obtain ⟨⟨dx, a⟩, b, c⟩ := h
  exact ⟨⟨dx, by rw [upd_ne (fun z => by rw [z, b] at a; cases a)]; exact a⟩, upd_same, hl, c.2⟩
theorem ne_dK {H : Hp} {d a : Addr} {kv : List (Key × V)} {xs : List V} (hd : H d = some (.dK kv)) (ha : H a = some (.lst xs)) : a ≠ d := fun z => by
  rw [z, hd] at ha
  cases ha
/-! ### pairs in another row -/
theorem any_key {a : List (Int × Str)} {k : Int} : ((a.any fun e => decide (e.1 = k)) = true) ↔ k ∈ a.map (·.1) := by
  rw [List.any_eq_true, List.mem_map]
  exact ⟨fun ⟨e, h, q⟩ => ⟨e, h, of_decide_eq_true q⟩, fun ⟨e, h, q⟩ => ⟨e, h, decide_eq_true q⟩⟩
theorem putI_perm {a b : List (Int × Str)} (p : a.Perm b) (k : Int) (x : Str) : (putI a k x).Perm (putI b k x) := by
  have h := (p.map (·.1)).mem_iff (a := k)
  unfold putI
  by_cases c : (a.any fun e => decide (e.1 = k)) = true
  · rw [if_pos c, if_pos (any_key.mpr (h.mp (any_key.mp c)))]
    exact p.map _
  · rw [if_neg c, if_neg (fun z => c (any_key.mpr (h.mpr (any_key.mp z))))]
    exact p.append_right _
theorem popI_perm {a b : List (Int × Str)} (p : a.Perm b) (k : Int) : (popI a k).Perm (popI b k) := p.filter _
theorem getI_none {a : List (Int × Str)} {k : Int} (h : k ∉ a.map (·.1)) : getI a k = none := by
  unfold getI
  rw [List.find?_eq_none.mpr]
  · rfl
  · intro e he z
    exact h (List.mem_map.mpr ⟨e, he, of_decide_eq_true z⟩)
theorem getI_perm {a b : List (Int × Str)} (hn : (a.map (·.1)).Nodup) (p : a.Perm b) (k : Int) : getI a k = getI b k := by
  by_cases c : k ∈ a.map (·.1)
  · obtain ⟨t, h1, h2⟩ := getI_mem c
    rw [h1]
    exact (getI_of (e := (k, t)) ((p.map (·.1)).nodup_iff.mp hn) (p.mem_iff.mp h2)).symm
  · rw [getI_none c, getI_none fun z => c ((p.map (·.1)).mem_iff.mpr z)]
theorem putI_nd {a : List (Int × Str)} (h : (a.map (·.1)).Nodup) (k : Int) (x : Str) : ((putI a k x).map (·.1)).Nodup := by
  unfold putI
  by_cases c : (a.any fun e => decide (e.1 = k)) = true
  · rw [if_pos c]
    have em : (a.map fun e => if e.1 = k then (e.1, x) else e).map (·.1) = a.map (·.1) := by
      rw [List.map_map]
      refine List.map_congr_left fun e _ => ?_
      show (if e.1 = k then (e.1, x) else e).1 = e.1
      by_cases q : e.1 = k
      · rw [if_pos q]
      · rw [if_neg q]
    rw [em]
    exact h
  · rw [if_neg c, List.map_append, List.nodup_append]
    refine ⟨h, List.pairwise_singleton _ _, fun y hy z hz => ?_⟩
    have hz' : z = k := List.mem_singleton.mp hz
    subst hz'
    exact fun q => c (any_key.mpr (q ▸ hy))
theorem popI_nd {a : List (Int × Str)} (h : (a.map (·.1)).Nodup) (k : Int) : ((popI a k).map (·.1)).Nodup := h.sublist (List.Sublist.map _ List.filter_sublist)
def SameR : Except Nat (List (Int × Str)) → Except Nat (List (Int × Str)) → Prop
  | .ok x, .ok y => x.Perm y
  | .error i, .error j => i = j
  | _, _ => False
theorem run_perm {d : Nat} : ∀ (rs : List (List Nat)) (i : Nat) (a b : List (Int × Str)), (a.map (·.1)).Nodup → a.Perm b → SameR (runL d i rs a) (runL d i rs b)
  | [], i, a, b, _, p => p
  | r :: rs, i, a, b, hn, p => by
    rw [runL, runL]
    cases readL r d with
    | none => exact (rfl : i = i)
    | some o =>
      cases o with
      | none => exact run_perm rs (i + 1) a b hn p
      | some act =>
        cases act with
        | put k t => exact run_perm rs (i + 1) _ _ (putI_nd hn k _) (putI_perm p k _)
        | cut k =>
          show SameR (match getI a k with | none => .error i | some _ => runL d (i + 1) rs (popI a k)) (match getI b k with | none => .error i | some _ => runL d (i + 1) rs (popI b k))
          rw [← getI_perm hn p k]
          cases getI a k with
          | none => exact (rfl : i = i)
          | some v => exact run_perm rs (i + 1) _ _ (popI_nd hn k) (popI_perm p k)
theorem SameR.ok {x : List (Int × Str)} {r : Except Nat (List (Int × Str))} (h : SameR (.ok x) r) : ∃ y, r = .ok y ∧ x.Perm y := by
  cases r with
  | ok y => exact ⟨y, rfl, h⟩
  | error j => exact h.elim
theorem SameR.error {i : Nat} {r : Except Nat (List (Int × Str))} (h : SameR (.error i) r) : r = .error i := by
  cases r with
  | ok y => exact h.elim
  | error j => exact congrArg Except.error (Eq.symm h)
theorem run_ok {d : Nat} : ∀ (rs : List (List Nat)) (i : Nat) (a b : List (Int × Str)), TbOk d a → (∀ r ∈ rs, AscL r) → runL d i rs a = .ok b → TbOk d b ∧ b.length ≤ a.length + rs.length
  | [], i, a, b, h, _, e => by
    cases e
    exact ⟨h, Nat.le_refl _⟩
  | r :: rs, i, a, b, h, hr, e => by
    have hr' := fun x hx => hr x (List.mem_cons_of_mem _ hx)
    rw [runL] at e
    cases q : readL r d with
    | none => rw [q] at e; cases e
    | some o =>
      rw [q] at e
      cases o with
      | none =>
        obtain ⟨h1, h2⟩ := run_ok rs (i + 1) a b h hr' e
        exact ⟨h1, by rw [List.length_cons]; omega⟩
      | some act =>
        have hin := readL_in q
        cases act with
        | put k t =>
          have tx : txtOk (S t) = true := txt_of_tl fun c hc => by
            have := hr r List.mem_cons_self c (hin.2.2 c hc)
            omega
          obtain ⟨h1, h2⟩ := run_ok rs (i + 1) _ b (tbok_put h hin.1 hin.2.1 tx) hr' e
          have := put_length a k (S t)
          exact ⟨h1, by rw [List.length_cons]; omega⟩
        | cut k =>
          have e : (match getI a k with | none => Except.error i | some _ => runL d (i + 1) rs (popI a k)) = .ok b := e
          cases g : getI a k with
          | none => rw [g] at e; cases e
          | some v =>
            rw [g] at e
            obtain ⟨h1, h2⟩ := run_ok rs (i + 1) _ b (tbok_pop h) hr' e
            have := pop_length a k
            exact ⟨h1, by rw [List.length_cons]; omega⟩

section
variable {P : Program} {w : World} {K : PySem.W.Frag} {mg : Str → Option Value} {base : Heap} {Fam : Sys → Prop} {C B CT : Addr}
def spChanged (mg : Str → Option Value) (CT : Addr) (Fam : Sys → Prop) : Sp := fun vs H Q E => ∃ (S0 : Sys) (p d : Addr) (l : Nat) (kvs : List (Int × Str)) (tx : List Nat) (r : Nat), Fam S0 ∧ vs = [.ref p, .str (S tx), .int (l : Int)] ∧ TbAt CT S0.f H p d l kvs ∧ TbOk l kvs ∧ AscL tx ∧ kvs.length + tx.length ≤ 900 ∧ S0.ok H r ∧
  (∀ rows kv o d' H', rows.Perm kvs → runL l 0 (TL.spl [10] 0 [] tx) rows = .ok kv → Ext H H' → H o = none → H d' = none → S0.ok H' r → TbAt CT S0.f H' o d' l kv → TbOk l kv → Q (.ref o) H') ∧
  (∀ rows i, rows.Perm kvs → runL l 0 (TL.spl [10] 0 [] tx) rows = .error i → ∀ D, mg "BadRow" = some (.ref D) → ∀ dx H', Ext H H' → S0.ok H' r → H dx = none → H' dx = some (.xd [("row", .int (i : Int))]) → E (.ref D) (some dx) H')
theorem ok_changed {cc : Addr} (T : Txt K mg cc) (A : SlA P w K mg base Fam) (KT : K_Table K mg CT) (EI : ExcI K mg "BadRow" "BookError" "row" "BadRow.__init__" s_BadRow___init__ ["self", "row"] C B) : CalX P w K mg base 8 "changed" (spChanged mg CT Fam) := by
  have Z := T.Z
  have C_placed := ok_placed (P := P) (w := w) (base := base) T EI
  have F_BadRow := ok_brinit (P := P) (w := w) (base := base) T EI
  have C_Table := ok_tinit A KT
  have M_rows := ok_rows (P := P) (w := w) (base := base) T KT
  have M_put := ok_put (P := P) (w := w) (base := base) T KT
  have M_value := ok_value (P := P) (w := w) (base := base) T KT
  have M_cut := ok_cut (P := P) (w := w) (base := base) T KT
  refine calX_of T.d_changed sc_changed (fun vs H Q E h => ?_) (fun f cdv A' outer s H vs Q E hr h => ?_)
  · obtain ⟨S0, p, d, l, kvs, tx, r, _, rfl, _⟩ := h
    rfl
  obtain ⟨S0, p, d, l, kvs, tx, r, hF, rfl, tb, hk, ha, hsz, hok, q1, q2⟩ := h
  have G := A.good hF
  have e16 : sizeLine = 16777216 := sizeLine_eq
  obtain ⟨⟨dx, hp⟩, hd, hz, hl'⟩ := id tb
  refine ⟨_, (pss_cons (ps_set (i := 3) sc_changed.nd rfl (Or.inl rfl) (pe_mk C_Table hr (by omega) rfl (pa_cons (pe_fld (pv 0) rfl) (pa_cons (pv 2) pa_nil))))
  (pss_cons (ps_for (passes_of rfl) rfl (pi_list (pe_mt0 M_rows hr (by omega) (pv 0))) (pg_tup rfl (pgs_cons (pg_name (i := 4) sc_changed.nd rfl (Or.inl rfl)) (pgs_cons (pg_name (i := 5) sc_changed.nd rfl (Or.inl rfl)) pgs_nil))) (pss_one (ps_expr (pe_mtx M_put (takes_of rfl rfl rfl rfl) hr (by omega) (pv 3) (pa_cons (pv 4) (pa_cons (pv 5) pa_nil))))))
  (pss_cons (ps_for (passes_of rfl) rfl (pi_enum (by rfl) Z.enumerate (pa_cons (pe_split (pv 1) pe_str) pa_nil)) (pg_tup rfl (pgs_cons (pg_name (i := 6) sc_changed.nd rfl (Or.inl rfl)) (pgs_cons (pg_name (i := 7) sc_changed.nd rfl (Or.inl rfl)) pgs_nil))) (pss_cons (ps_set (i := 8) sc_changed.nd rfl (Or.inl rfl) (pe_cx C_placed (takes_of rfl rfl rfl rfl) hr (by omega) rfl (pa_cons (pv 7) (pa_cons (pv 6) (pa_cons (pv 2) pa_nil)))))
  (pss_one (ps_if (PW.pt (pw_and (pt_cmpR op_notN (pv 8) pe_non (nomark _)) (pw_and1 (pt_cmpR op_eq (pe_ix ix_tup (pv 8) pe_int (fun _ _ => rfl)) pe_str (nomark _))))) (pss_one (ps_expr (pe_mtx M_put (takes_of rfl rfl rfl rfl) hr (by omega) (pv 3) (pa_cons (pe_ix ix_tup (pv 8) pe_int (fun _ _ => rfl)) (pa_cons (pe_ix ix_tup (pv 8) pe_int (fun _ _ => rfl)) pa_nil))))) (pss_one (ps_if (pt_cmpR op_notN (pv 8) pe_non (nomark _)) (pss_cons (ps_if (pt_cmpR op_isN (pe_mtx M_value (takes_of rfl rfl rfl rfl) hr (by omega) (pv 3) (pa_cons (pe_ix ix_tup (pv 8) pe_int (fun _ _ => rfl)) pa_nil)) pe_non (nomark _)) (pss_one (ps_raiseIN EI F_BadRow hr (by omega) rfl (takesN (takes_of rfl rfl rfl rfl)) rfl (pv 6) te_var)) pss_nil)
  (pss_one (ps_expr (pe_mtx M_cut (takes_of rfl rfl rfl rfl) hr (by omega) (pv 3) (pa_cons (pe_ix ix_tup (pv 8) pe_int (fun _ _ => rfl)) pa_nil))))) pss_nil))))))
  (pss_one (ps_ret (pv 3)))))), ?_⟩
  have eNl : Str.ofString "\n" = S [10] := TL.ext_tl (by decide +kernel)
  refine ⟨_, rfl, p, CT, dx, _, _, rfl, hp, KT.cl, KT.n_seal, tbF_seal _ _ _, _, rfl, fun o ox no nox nex => ?_⟩
  have y1 : Ext H (upd (upd H ox (.own o)) o (.ins CT ox [])) := (Ext.new nox).trans (Ext.new (by rw [upd_ne nex.symm]; exact no))
  have ky1 : Kp H (upd (upd H ox (.own o)) o (.ins CT ox [])) := (Kp.new nox).trans (Kp.new (by rw [upd_ne nex.symm]; exact no))
  refine ⟨S0, o, ox, l, r, hF, rfl, upd_same, hl', G.keep ky1 hok, fun H1 d1 xo1 kp1 nd1 ok1 tb1 => ⟨rfl, ?_⟩⟩
  have x1 : Ext H H1 := xo1.ext y1 no
  have nd1' := y1.free nd1
  -- the rows
  have tbp := tb.ext x1
  obtain ⟨⟨dx', hp'⟩, _, _⟩ := id tbp
  refine ⟨_, rfl, p, dx', _, rfl, hp', (tbF_no _ _ _).2.2.2.2.1, S0.f, p, d, l, kvs, rfl, tbp, hk.nd, hk.tx, fun qr ys rows H2 x2 k2 nqr hqr hrows perm pw => ?_⟩
  have hk2 := hk.perm perm
  have tb2 := tb1.ext x2
  have hyl := hrows.len
  have rl := perm.length_eq
  refine ⟨qr, rfl, ⟨_, SqL.of hqr⟩, for_list (K := K) (a := qr) (xs := ys) (fun i σ H' => ∃ (y4 y5 : Option V), σ = [some (.ref p), some (.str (S tx)), some (.int (l : Int)), some (.ref o), y4, y5, none, none, none] ∧ Ext H H' ∧ S0.ok H' r ∧ TbAt CT S0.f H' o d1 l (rows.take i) ∧ H' qr = some (.lst ys) ∧ KvL H' ys rows)
    ⟨none, none, rfl, x1.trans x2, G.keep k2 ok1, tb2, hqr, hrows⟩ (fun i σ H' _ ⟨_, _, _, _, _, _, h, _⟩ => SqL.of h) ?_ ?_⟩
  · rintro i x σ H' hi ⟨y4, y5, rfl, xi, oki, tbi, hqi, hri⟩
    have hil := (List.getElem?_eq_some_iff.mp hi).1
    have he : rows[i]? = some (rows[i]'(by omega)) := List.getElem?_eq_getElem _
    obtain ⟨qe, rfl, hqe, hqx⟩ := hri.at_ i x _ hi he
    have hrg := hk2.rg _ (List.getElem_mem (show i < rows.length by omega))
    generalize rows[i]'(by omega) = e at he hqe hqx hrg
    obtain ⟨⟨dxo, hpo⟩, hdo, _⟩ := id tbi
    refine ⟨qe, _, rfl, SqT.of hqe, rfl, _, _, rfl, _, _, rfl, rfl, _, rfl, o, dxo, _, rfl, hpo, (tbF_no _ _ _).2.1, _, rfl, _, rfl, S0.f, o, d1, l, _, e.1, e.2, rfl, tbi, fun _ => ?_, fun h => absurd hrg h⟩
    rw [put_take hk2.nd he]
    refine ⟨_, _, rfl, xi.mut nd1', G.keep (Kp.dK hdo) oki, tbi.upd (by rw [List.length_take]; omega), by rw [upd_ne (ne_dK hdo hqi)]; exact hqi, hri.gr (Kp.dK hdo).gr⟩
  rintro σ H3 ⟨y4, y5, rfl, x3, ok3, tb3, _, _⟩
  rw [hyl, List.take_length] at tb3
  -- the text's rows
  refine ⟨_, rfl, ⟨_, rfl⟩, _, _, rfl, rfl, by decide +kernel, by rw [S_len]; omega, fun sp nsp => ?_⟩
  rw [eNl, SX.split_S (by simp) (by decide)]
  have rlm := spl_many tx []
  have rm := spl_rows tx []
  generalize TL.spl [10] 0 [] tx = trs at rlm rm q1 q2 ⊢
  have u4 := Ext.new (o := .lst ((trs.map S).map V.str)) nsp
  have hsp : upd H3 sp (.lst ((trs.map S).map V.str)) sp = some (.lst ((trs.map S).map V.str)) := upd_same
  have x4 := x3.trans u4
  have ok4 := G.keep (Kp.new (o := .lst ((trs.map S).map V.str)) nsp) ok3
  have tb4 := tb3.ext u4
  generalize upd H3 sp (.lst ((trs.map S).map V.str)) = H4 at hsp x4 ok4 tb4 ⊢
  refine ⟨sp, _, rfl, SqL.of hsp, for_it (walk_enum (K := K) (a := sp) (xs := (trs.map S).map V.str)) (fun i σ H' => ∃ (y4 y5 y6 y7 y8 : Option V) (kv : List (Int × Str)), σ = [some (.ref p), some (.str (S tx)), some (.int (l : Int)), some (.ref o), y4, y5, y6, y7, y8] ∧ Ext H H' ∧ S0.ok H' r ∧ TbAt CT S0.f H' o d1 l kv ∧ TbOk l kv ∧ kv.length ≤ rows.length + i ∧ H' sp = some (.lst ((trs.map S).map V.str)) ∧ runL l 0 trs rows = runL l i (trs.drop i) kv)
    ⟨_, _, none, none, none, rows, rfl, x4, ok4, tb4, hk2, by omega, hsp, by rw [List.drop_zero]⟩ (fun i σ H' _ ⟨_, _, _, _, _, _, _, _, _, _, _, _, h, _⟩ => SqL.of h) ?_ ?_⟩
  · rintro i x σ H5 H6 hi ⟨y4, y5, y6, y7, y8, kv, rfl, xi, oki, tbi, hki, hlen, hspi, hrun⟩ ⟨t, kx, vx, rfl, nt, rfl, e1, e2⟩
    rw [List.length_map, List.length_map] at hi
    have hr' : trs[i]? = some trs[i] := List.getElem?_eq_getElem hi
    have hmem := List.getElem_mem hi
    have hdr : trs.drop i = trs[i] :: trs.drop (i + 1) := List.drop_eq_getElem_cons hi
    rw [hdr] at hrun
    generalize trs[i] = row at hr' hmem hdr hrun
    have e1' : V.int (i : Int) = kx := Option.some.inj e1
    have e2' : V.str (S row) = vx := by
      have e2 : ((trs.map S).map V.str)[i]? = some vx := e2
      rw [List.getElem?_map, List.getElem?_map, hr'] at e2
      exact Option.some.inj e2
    subst e1' e2'
    have ut := Ext.new (o := .tup [.int (i : Int), .str (S row)]) nt
    refine ⟨t, _, rfl, SqT.of upd_same, rfl, _, _, rfl, _, _, rfl, rfl, ?_⟩
    have x6 := xi.trans ut
    have ok6 := G.keep (Kp.new (o := .tup [.int (i : Int), .str (S row)]) nt) oki
    have tb6 := tbi.ext ut
    have hsp6 := ut.lst hspi
    generalize upd H5 t (.tup [.int (i : Int), .str (S row)]) = H6 at x6 ok6 tb6 hsp6 ⊢
    obtain ⟨rc, rle⟩ := rm row hmem
    have rle : row.length ≤ 0 + tx.length := rle
    refine ⟨_, rfl, _, rfl, _, rfl, row, l, (i : Int), rfl, ha.sub (fun c hc => (rc c hc).resolve_left (fun z => nomatch z)), by omega, hl', by omega, by omega, fun e H7 s7 => ?_, fun a e q4 H7 s7 nq4 hq4 => ?_, fun e D hD dx7 H7 s7 ndx hdx => ?_⟩
    · refine ⟨_, rfl, rfl, _, rfl, iteF ?_⟩
      refine iteF ?_
      refine ⟨_, rfl, rfl, _, rfl, iteF ?_⟩
      refine ⟨_, _, _, _, _, kv, rfl, x6.trans (Ext.of_same s7), G.keep (kp_same s7) ok6, tb6.ext (Ext.of_same s7), hki, by omega, (Ext.of_same s7).lst hsp6, ?_⟩
      rw [hrun, runL, e]
    · have x7 := x6.trans (Ext.of_same s7)
      have tb7 := tb6.ext (Ext.of_same s7)
      have ok7 := G.keep (kp_same s7) ok6
      have hsp7 := (Ext.of_same s7).lst hsp6
      have hin := readL_in e
      obtain ⟨⟨dxo, hpo⟩, hdo, _⟩ := id tb7
      refine ⟨_, rfl, rfl, _, rfl, iteT ?_⟩
      cases a with
      | put k tt =>
        refine ⟨_, rfl, q4, _, 0, _, rfl, rfl, SqT.of hq4, rfl, rfl, _, rfl, ?_⟩
        refine iteT ?_
        refine ⟨_, rfl, o, dxo, _, rfl, hpo, (tbF_no _ _ _).2.1, _, rfl, q4, _, 1, _, rfl, rfl, SqT.of hq4, rfl, _, rfl, q4, _, 2, _, rfl, rfl, SqT.of hq4, rfl, S0.f, o, d1, l, _, k, S tt, rfl, tb7, fun _ => ?_, fun h => absurd ⟨hin.1, hin.2.1⟩ h⟩
        have pl := put_length kv k (S tt)
        have htt : txtOk (S tt) = true := txt_of_tl fun c hc => by
          have := ha c ((rc c (hin.2.2 c hc)).resolve_left (fun z => nomatch z))
          omega
        refine ⟨_, _, _, _, _, putI kv k (S tt), rfl, x7.mut nd1', G.keep (Kp.dK hdo) ok7, tb7.upd (by omega), tbok_put hki hin.1 hin.2.1 htt, by omega, by rw [upd_ne (ne_dK hdo hsp7)]; exact hsp7, ?_⟩
        rw [hrun, runL, e]
      | cut k =>
        refine ⟨_, rfl, q4, _, 0, _, rfl, rfl, SqT.of hq4, rfl, rfl, _, rfl, ?_⟩
        refine iteF ?_
        refine ⟨_, rfl, rfl, _, rfl, iteT ?_⟩
        refine ⟨_, rfl, o, dxo, _, rfl, hpo, (tbF_no _ _ _).2.2.2.1, _, rfl, q4, _, 1, _, rfl, rfl, SqT.of hq4, rfl, S0.f, o, d1, l, _, k, rfl, tb7, fun _ => ?_, fun h => absurd ⟨hin.1, hin.2⟩ h⟩
        cases hg : getI kv k with
        | none =>
          refine ⟨rfl, _, rfl, iteT ?_⟩
          refine ⟨_, rfl, _, rfl, by omega, by omega, fun dx8 n8 => ?_⟩
          refine q2 rows i perm ?_ _ EI.gC dx8 _ (x7.mut (x7.free n8)) (G.keep (Kp.new n8) ok7) (x7.free n8) upd_same
          rw [hrun, runL, e]
          show (match getI kv k with | none => Except.error i | some _ => _) = _
          rw [hg]
        | some v =>
          refine ⟨rfl, _, rfl, iteF ?_⟩
          refine ⟨_, rfl, o, dxo, _, rfl, hpo, (tbF_no _ _ _).2.2.1, _, rfl, q4, _, 1, _, rfl, rfl, SqT.of hq4, rfl, S0.f, o, d1, l, _, k, rfl, tb7, fun _ => ?_, fun h => absurd ⟨hin.1, hin.2, by rw [hg]; rfl⟩ h⟩
          have pl := pop_length kv k
          refine ⟨_, _, _, _, _, popI kv k, rfl, x7.mut nd1', G.keep (Kp.dK hdo) ok7, tb7.upd (by omega), tbok_pop hki, by omega, by rw [upd_ne (ne_dK hdo hsp7)]; exact hsp7, ?_⟩
          rw [hrun, runL, e]
          show (match getI kv k with | none => Except.error i | some _ => _) = _
          rw [hg]
    · rw [EI.gC] at hD
      cases hD
      refine q2 rows i perm ?_ _ EI.gC dx7 H7 (x6.trans (Ext.of_same s7)) (G.keep (kp_same s7) ok6) (x6.free ndx) hdx
      rw [hrun, runL, e]
  · rintro σ H5 ⟨y4, y5, y6, y7, y8, kv, rfl, x5, ok5, tb5, hk5, hlen, hsp5, hrun⟩
    rw [List.length_map, List.length_map, List.drop_length] at hrun
    exact ⟨_, rfl, q1 rows kv o d1 H5 perm hrun x5 no nd1' ok5 tb5 hk5⟩
end

/-! ### the way of a key -/
def wayT : Nat → List (Int × Str) → Int → List Tm × List (Int × Str)
  | 0, rows, _ => ([], rows)
  | l + 1, rows, k => if rows.length ≤ 1 then ([], rows) else
    (partT l (rows.filter (bitK l (1 - k / 2 ^ l % 2))) :: (wayT l (rows.filter (bitK l (k / 2 ^ l % 2))) k).1, (wayT l (rows.filter (bitK l (k / 2 ^ l % 2))) k).2)
theorem wayT_few {l : Nat} {rows : List (Int × Str)} {k : Int} (h : rows.length ≤ 1) : wayT l rows k = ([], rows) := by
  cases l with
  | zero => rfl
  | succ l => exact if_pos h
theorem wayT_more {l : Nat} {rows : List (Int × Str)} {k : Int} (h : 2 ≤ rows.length) : wayT (l + 1) rows k =
    (partT l (rows.filter (bitK l (1 - k / 2 ^ l % 2))) :: (wayT l (rows.filter (bitK l (k / 2 ^ l % 2))) k).1, (wayT l (rows.filter (bitK l (k / 2 ^ l % 2))) k).2) := if_neg (by omega)
theorem bit01 (k : Int) (l : Nat) : k / 2 ^ l % 2 = 0 ∨ k / 2 ^ l % 2 = 1 := by
  have h1 := Int.emod_nonneg (k / 2 ^ l) (show (2 : Int) ≠ 0 by decide)
  have h2 := Int.emod_lt_of_pos (k / 2 ^ l) (show (0 : Int) < 2 by decide)
  omega
theorem wayT_len : ∀ (l : Nat) (rows : List (Int × Str)) (k : Int), (wayT l rows k).1.length ≤ l
  | 0, _, _ => Nat.le_refl _
  | l + 1, rows, k => by
    by_cases h : rows.length ≤ 1
    · rw [wayT_few h]
      exact Nat.zero_le _
    · rw [wayT_more (by omega)]
      have := wayT_len l (rows.filter (bitK l (k / 2 ^ l % 2))) k
      show _ + 1 ≤ _
      omega
theorem wayT_dep : ∀ (l : Nat) (rows : List (Int × Str)) (k : Int), ∀ t ∈ (wayT l rows k).1, t.dep ≤ l + 1
  | 0, _, _ => fun t h => nomatch h
  | l + 1, rows, k => by
    by_cases h : rows.length ≤ 1
    · rw [wayT_few h]
      exact fun t h => nomatch h
    · rw [wayT_more (by omega)]
      intro t ht
      rcases List.mem_cons.mp ht with rfl | ht
      · exact Nat.le_succ_of_le (partT_dep l _)
      · exact Nat.le_succ_of_le (wayT_dep l _ k t ht)
theorem wayT_end : ∀ (l : Nat) (rows : List (Int × Str)) (k : Int), RowsOk l rows → (wayT l rows k).2.length ≤ 1 ∧ ∀ e ∈ (wayT l rows k).2, e ∈ rows
  | 0, rows, k, h => ⟨h.zero, fun e he => he⟩
  | l + 1, rows, k, h => by
    by_cases c : rows.length ≤ 1
    · rw [wayT_few c]
      exact ⟨c, fun e he => he⟩
    · rw [wayT_more (by omega)]
      obtain ⟨a, b⟩ := wayT_end l (rows.filter (bitK l (k / 2 ^ l % 2))) k h.part
      exact ⟨a, fun e he => (List.mem_filter.mp (b e he)).1⟩
theorem costP_way {l n a b : Nat} (h : a + b = n) (hn : 2 ≤ n) : costP l a + costP l b ≤ costP (l + 1) n := by
  have := costP_split (l := l) h hn
  omega

section
variable {P : Program} {w : World} {K : PySem.W.Frag} {mg : Str → Option Value} {base : Heap} {Fam : Sys → Prop} {C : Addr}
def EndV (H : Hp) (e : V) (rows : List (Int × Str)) : Prop := (rows = [] ∧ e = .non) ∨ ∃ (x : Int × Str) (qe : Addr), rows = [x] ∧ e = .ref qe ∧ H qe = some (.tup [.int x.1, .str x.2]) ∧ txtOk x.2 = true
structure WayV (S : Sys) (H H' : Hp) (v : V) (w : List Tm × List (Int × Str)) : Prop where
  ex : ∃ (q o : Addr) (e : V) (ys : List V), v = .ref q ∧ H' q = some (.tup [.ref o, e]) ∧ H o = none ∧ H q = none ∧ H' o = some (.lst ys) ∧ DenL S H' ys w.1 ∧ EndV H' e w.2
def spWay (mg : Str → Option Value) (C : Addr) (Fam : Sys → Prop) : Sp := fun vs H Q E => ∃ (S : Sys) (p d : Addr) (l : Nat) (kvs : List (Int × Str)) (k : Int) (r : Nat), Fam S ∧ vs = [.ref p, .int k] ∧ TbAt C S.f H p d l kvs ∧ TbOk l kvs ∧ l ≤ 20 ∧ S.ok H (r + costP l kvs.length) ∧
  (0 ≤ k ∧ k < 2 ^ l → ∀ v rows H', Ext H H' → S.ok H' r → rows.Perm kvs → rows.Pairwise (fun a b => a.1 ≤ b.1) → WayV S H H' v (wayT l rows k) → Q v H') ∧ (¬ (0 ≤ k ∧ k < 2 ^ l) → ∀ D, mg "NoPlace" = some (.ref D) → E (.ref D) none H)
theorem ok_wayN {cc : Addr} (T : Txt K mg cc) (A : SlA P w K mg base Fam) (KT : K_Table K mg C) : MetN P w K mg base 25 C "way" (spWay mg C Fam) := by
  have Z := T.Z
  have M_asked := ok_askedN (P := P) (w := w) (base := base) T KT
  have M_rows := ok_rows (P := P) (w := w) (base := base) T KT
  have C_parted := ok_parted (P := P) (w := w) (base := base) T
  have C_part_top := ok_part T A (ok_none_seal T A) (ok_parted T) 21
  refine metN_of KT.cl KT.m_way sc_Table_way (fun vs H Q E h => ?_) (fun f cdv A' outer s H vs Q E hr h => ?_)
  · obtain ⟨S, p, d, l, kvs, k, r, _, rfl, _⟩ := h
    rfl
  obtain ⟨S, p, d, l, kvs, k, r, hF, rfl, ht, hk, hl, hok, q1, q2⟩ := h
  have hu := hu_of hr
  have G := A.good hF
  have e16 : sizeLine = 16777216 := sizeLine_eq
  obtain ⟨⟨dx, hp⟩, hd, hz, hl'⟩ := id ht
  refine ⟨_, (pss_cons (ps_expr (pe_mtn M_asked (L2N.takes_of rfl rfl rfl rfl) hr (by omega) (pv 0) (pa_cons (pv 1) pa_nil)))
  (pss_cons (ps_set (i := 2) sc_Table_way.nd rfl (Or.inl rfl) (pe_mt0 M_rows hr (by omega) (pv 0)))
  (pss_cons (ps_set (i := 3) sc_Table_way.nd rfl (Or.inl rfl) (pe_fld (pv 0) rfl))
  (pss_cons (ps_set (i := 4) sc_Table_way.nd rfl (Or.inl rfl) (pe_lst pa_nil))
  (pss_cons (ps_while (passes_of rfl) (pt_cmpR op_gt (pe_callB call_len_seq rfl Z.len PySem.boot_len (pa_cons (pv 2) pa_nil)) pe_int (nomark _)) (pss_cons (ps_set (i := 3) sc_Table_way.nd rfl (Or.inl rfl) (pe_op op_sub (pv 3) pe_int))
  (pss_cons (ps_set (i := 5) sc_Table_way.nd rfl (Or.inl rfl) (pe_c C_parted hr (by omega) rfl (pa_cons (pv 2) (pa_cons (pv 3) pa_nil))))
  (pss_cons (ps_set (i := 6) sc_Table_way.nd rfl (Or.inl rfl) (pe_op op_odd (pe_op op_shrN (pv 1) (pv 3)) pe_int))
  (pss_cons (ps_expr (pe_bm PySem.F.plainAttrs_list PySem.F.slot_list_append PySem.F.type_list_append mt_append (pv 4) (pa_cons (pe_c C_part_top hr (by omega) rfl (pa_cons (pe_fld (pv 0) rfl) (pa_cons (pe_ix ix_tup (pv 5) (pe_op op_sub pe_int (pv 6)) (fun _ _ => rfl)) (pa_cons (pv 3) pa_nil)))) pa_nil)))
  (pss_one (ps_set (i := 2) sc_Table_way.nd rfl (Or.inl rfl) (pe_ix ix_tup (pv 5) (pv 6) (fun _ _ => rfl)))))))))
  (pss_cons (ps_if (pt_cmpR op_eq (pe_callB call_len_seq rfl Z.len PySem.boot_len (pa_cons (pv 2) pa_nil)) pe_int (nomark _)) (pss_one (ps_ret (pe_tup (pa_cons (pv 4) (pa_cons pe_non pa_nil))))) pss_nil)
  (pss_one (ps_ret (pe_tup (pa_cons (pv 4) (pa_cons (pe_ix ix_list (pv 2) pe_int (fun _ _ => rfl)) pa_nil))))))))))), ?_⟩
  refine ⟨_, rfl, p, dx, _, rfl, hp, (tbF_no _ _ _).1, _, rfl, S.f, p, dx, d, l, k, rfl, hp, hl', fun hin => ?_, fun hout D hD => q2 hout D hD⟩
  refine ⟨_, rfl, p, dx, _, rfl, hp, (tbF_no _ _ _).2.2.2.2.1, S.f, p, d, l, kvs, rfl, ht, hk.nd, hk.tx, fun qr ys rows H1 x1 k1 nq hqr hrows perm pw => ?_⟩
  refine ⟨_, rfl, p, C, dx, _, _, rfl, x1.ins hp, KT.cl, KT.n_depth, tbF_depth _ _ _, by show 0 ≤ sizeLine; decide, fun o no => ?_⟩
  have hro := rows_ok hk perm
  have hrl := perm.length_eq
  have noH := x1.free no
  have hin0 := hin.1
  obtain ⟨W, hW⟩ : ∃ W, wayT l rows k = W := ⟨_, rfl⟩
  have q3 := fun v H' x ok => q1 hin v rows H' x ok perm pw
  rw [hW] at q3
  have u1 := Ext.new (o := .lst []) no
  refine ⟨fun m σ H' => ∃ (q : Addr) (xs : List V) (rws : List (Int × Str)) (vs : List V) (ts : List Tm) (y5 y6 : Option V), σ = [some (.ref p), some (.int k), some (.ref q), some (.int (m : Int)), some (.ref o), y5, y6] ∧ Ext H H' ∧ H' o = some (.lst vs) ∧ H' q = some (.lst xs) ∧ q ≠ o ∧ KvL H' xs rws ∧ RowsOk m rws ∧ m ≤ 20 ∧ rws.length ≤ 1000 ∧ DenL S H' vs ts ∧ ts.length + m = l ∧ S.ok H' (r + costP m rws.length) ∧ ts ++ (wayT m rws k).1 = W.1 ∧ (wayT m rws k).2 = W.2,
    ⟨l, qr, ys, rows, [], [], none, none, rfl, x1.trans u1, upd_same, u1.lst hqr, (fun z => by rw [z, no] at hqr; cases hqr), hrows.gr u1.gr, hro, hl, by omega, DenL.nil, by show 0 + l = l; omega, by rw [hrl]; exact G.keep (k1.trans (Kp.new no)) hok, by rw [hW]; rfl, by rw [hW]⟩, ?_⟩
  rintro m σ H2 ⟨q, xs, rws, vs, ts, y5, y6, rfl, x2, ho, hq, nqo, hxs, hr2, hm20, hrz, hden, htm, ok2, e1, e2⟩
  have hxl := hxs.len
  refine ⟨_, rfl, q, xs, rfl, .inl (SqL.of hq), _, _, rfl, rfl, _, rfl, ?_⟩
  by_cases c : rws.length ≤ 1
  · rw [decide_eq_false (show ¬ (1 : Int) < (xs.length : Int) by omega)]
    refine iteF ?_
    rw [wayT_few c] at e1 e2
    rw [List.append_nil] at e1
    have e2 : rws = W.2 := e2
    refine ⟨_, rfl, q, xs, rfl, .inl (SqL.of hq), rfl, _, rfl, ite2 (fun c2 => ?_) (fun c2 => ?_)⟩
    · have c2' : (xs.length : Int) = 0 := V.int.inj (of_decide_eq_true c2)
      refine ⟨_, rfl, by show 2 ≤ sizeLine; decide, fun t nt => ?_⟩
      have u := Ext.new (o := .tup [.ref o, .non]) nt
      refine q3 _ _ (x2.trans u) (G.less (G.keep (Kp.new nt) ok2) (by omega)) ⟨t, o, .non, vs, rfl, upd_same, noH, x2.free nt, u.lst ho, by rw [← e1]; exact hden.mono G u.gr, .inl ⟨?_, rfl⟩⟩
      rw [← e2]
      exact List.eq_nil_of_length_eq_zero (by omega)
    · have n0 : xs.length ≠ 0 := fun z => c2 (decide_eq_true (by rw [z] <;> rfl))
      obtain ⟨x, hx⟩ : ∃ x, rws = [x] := List.length_eq_one_iff.mp (by omega)
      obtain ⟨v0, hv0⟩ : ∃ v0, xs[0]? = some v0 := ⟨xs[0]'(by omega), List.getElem?_eq_getElem _⟩
      obtain ⟨qe, rfl, hqe, hqx⟩ := hxs.at_ 0 v0 x hv0 (by rw [hx]; rfl)
      refine ⟨_, rfl, _, rfl, q, xs, 0, _, rfl, rfl, SqL.of hq, atI_nat hv0, by show 2 ≤ sizeLine; decide, fun t nt => ?_⟩
      have u := Ext.new (o := .tup [.ref o, .ref qe]) nt
      exact q3 _ _ (x2.trans u) (G.less (G.keep (Kp.new nt) ok2) (by omega)) ⟨t, o, .ref qe, vs, rfl, upd_same, noH, x2.free nt, u.lst ho, by rw [← e1]; exact hden.mono G u.gr, .inr ⟨x, qe, by rw [← e2]; exact hx, rfl, u.tup hqe, hqx⟩⟩
  rw [decide_eq_true (show (1 : Int) < (xs.length : Int) by omega)]
  refine iteT ?_
  obtain ⟨m, rfl⟩ : ∃ j, m = j + 1 := by
    cases m with
    | zero => have := hr2.zero; omega
    | succ j => exact ⟨j, rfl⟩
  rw [wayT_more (by omega)] at e1 e2
  refine ⟨fun σ' H' => ∃ m', m' < m + 1 ∧ _, fun _ _ h => h, ?_⟩
  refine ⟨_, rfl, _, _, rfl, rfl, ?_⟩
  show gName 3 (V.int (((m + 1 : Nat) : Int) - 1)) _ _ _
  rw [show (((m + 1 : Nat) : Int) - 1) = (m : Int) by omega]
  refine ⟨_, rfl, _, rfl, q, xs, rws, m, rfl, SqL.of hq, hxs, hr2.1, hrz, fun tq p1 p2 as bs H3 x3 k3 n31 n32 htq hp1 hp2 ha hb => ?_⟩
  obtain ⟨n, hn⟩ := Int.eq_ofNat_of_zero_le (Int.ediv_nonneg hin0 (Int.le_of_lt (show (0 : Int) < 2 ^ m from Int.pow_pos (by decide))))
  refine ⟨_, rfl, _, rfl, _, m, rfl, rfl, n, by rw [hn], rfl, ?_⟩
  have hbit : k / 2 ^ m % 2 = ((n % 2 : Nat) : Int) := by rw [hn]; omega
  have hsp := filter_split (rows := rws) m
  have hcw : costP m (rws.filter (bitK m (k / 2 ^ m % 2))).length + costP m (rws.filter (bitK m (1 - k / 2 ^ m % 2))).length ≤ costP (m + 1) rws.length := by
    rcases bit01 k m with h | h
    · rw [h]
      exact costP_way (a := (rws.filter (bitK m 0)).length) (b := (rws.filter (bitK m 1)).length) hsp (by omega)
    · rw [h]
      exact costP_way (a := (rws.filter (bitK m 1)).length) (b := (rws.filter (bitK m 0)).length) (by omega) (by omega)
  -- the part that is gone into, and the other one
  obtain ⟨pb, po, yb, yo, npb, ib, io, hpb, hpo, hyb, hyo⟩ : ∃ (pb po : Addr) (yb yo : List V), H2 pb = none ∧ atI [V.ref p1, V.ref p2] ((n % 2 : Nat) : Int) = some (.ref pb) ∧ atI [V.ref p1, V.ref p2] (1 - ((n % 2 : Nat) : Int)) = some (.ref po) ∧ H3 pb = some (.lst yb) ∧ H3 po = some (.lst yo) ∧
      KvL H3 yb (rws.filter (bitK m (k / 2 ^ m % 2))) ∧ KvL H3 yo (rws.filter (bitK m (1 - k / 2 ^ m % 2))) := by
    rw [hbit]
    rcases Nat.mod_two_eq_zero_or_one n with h | h
    · rw [h]
      exact ⟨p1, p2, as, bs, n31, rfl, rfl, hp1, hp2, ha, hb⟩
    · rw [h]
      exact ⟨p2, p1, bs, as, n32, rfl, rfl, hp2, hp1, hb, ha⟩
  have hp3 := (x2.trans x3).ins hp
  have ho3 := x3.lst ho
  have lb := List.length_filter_le (bitK m (k / 2 ^ m % 2)) rws
  have lo := List.length_filter_le (bitK m (1 - k / 2 ^ m % 2)) rws
  refine ⟨_, rfl, .inl ⟨rfl, _, SqL.of ho3⟩, ?_⟩
  refine ⟨_, rfl, p, C, dx, _, _, rfl, hp3, KT.cl, KT.n_seal, tbF_seal _ _ _, _, rfl, _, rfl, _, _, rfl, rfl, tq, _, _, _, rfl, rfl, SqT.of htq, io, _, rfl, ?_⟩
  refine ⟨S, po, yo, _, m, r + costP m (rws.filter (bitK m (k / 2 ^ m % 2))).length, hF, rfl, SqL.of hpo, hyo, hr2.part, by omega, by omega, G.less (G.keep k3 ok2) (by omega), fun v H4 x4 ok4 d4 => ?_⟩
  have ho4 := x4.lst ho3
  have hvl := hden.len
  refine ⟨o, vs, v, rfl, rfl, ho4, by omega, ?_⟩
  have x5 := (x2.trans x3).trans x4
  have k5 := Kp.lst (o := .lst (vs ++ [v])) ho4
  have npo : pb ≠ o := fun z => by rw [z, ho] at npb; cases npb
  refine ⟨_, rfl, _, rfl, tq, _, _, _, rfl, rfl, SqT.of (by rw [upd_ne (fun z => by rw [← z, x4.tup htq] at ho4; cases ho4)]; exact x4.tup htq), ib, ?_⟩
  refine ⟨m, Nat.lt_succ_self _, pb, yb, _, vs ++ [v], ts ++ [partT m (rws.filter (bitK m (1 - k / 2 ^ m % 2)))], _, _, rfl, x5.mut noH, upd_same, by rw [upd_ne npo]; exact x4.lst hpb, npo, (hyb.gr x4.gr).gr k5.gr, hr2.part, by omega, by omega,
    ((hden.mono G (x3.trans x4).gr).mono G k5.gr).append (DenL.one (G.mono k5.gr d4)), by rw [List.length_append]; show ts.length + 1 + m = l; omega, G.keep k5 ok4, by rw [← e1]; simp, e2⟩
end

/-! ### rows of a key and a text as data -/
theorem kv_dps {K : PySem.W.Frag} {H : Hp} : ∀ {rows : List (Int × Str)} {vs us : List V}, KvL H vs rows → KvL H us rows → ∃ ds, DpAll K H vs ds ∧ DpAll K H us ds ∧ PyData.canLayAll0 ds = true ∧ PyData.depthAll ds ≤ 1
  | [], vs, us, h, h' => by
    obtain rfl : vs = [] := List.length_eq_zero_iff.mp h.len
    obtain rfl : us = [] := List.length_eq_zero_iff.mp h'.len
    exact ⟨[], .nil, .nil, rfl, Nat.zero_le _⟩
  | e :: rows, [], us, h, h' => absurd h.len (by simp)
  | e :: rows, v :: vs, [], h, h' => absurd h'.len (by simp)
  | e :: rows, v :: vs, u :: us, h, h' => by
    obtain ⟨q, rfl, hq, hx⟩ := h.at_ 0 v e rfl rfl
    obtain ⟨q', rfl, hq', _⟩ := h'.at_ 0 u e rfl rfl
    obtain ⟨ds, a1, a2, c, d⟩ := kv_dps (K := K) (rows := rows) (vs := vs) (us := us) ⟨by have := h.len; simpa using this, fun j v' e' p1 p2 => h.at_ (j + 1) v' e' p1 p2⟩ ⟨by have := h'.len; simpa using this, fun j v' e' p1 p2 => h'.at_ (j + 1) v' e' p1 p2⟩
    refine ⟨.tuple [.int e.1, .str e.2] :: ds, .cons (.tup (SqT.of hq) (.cons (.int _) (.cons (.str _) .nil))) a1, .cons (.tup (SqT.of hq') (.cons (.int _) (.cons (.str _) .nil))) a2, ?_, ?_⟩
    · show (PyData.canLay0 (.tuple [.int e.1, .str e.2]) && PyData.canLayAll0 ds) = true
      rw [c, Bool.and_true]
      show (true && (txtOk e.2 && true)) = true
      rw [hx]
      rfl
    · show max (max 0 (max 0 0) + 1) (PyData.depthAll ds) ≤ 1
      omega
theorem kv_eqd {K : PySem.W.Frag} {H : Hp} {a b : Addr} {rows : List (Int × Str)} {vs us : List V} (ha : SqL K H a vs) (hb : SqL K H b us) (h : KvL H vs rows) (h' : KvL H us rows) :
    ∃ d, Dp K H (.ref a) d ∧ Dp K H (.ref b) d ∧ SeqAt.shaped d = true ∧ PyData.eqv d d = true := by
  obtain ⟨ds, a1, a2, c, d⟩ := kv_dps (K := K) h h'
  have c' : (PyData.list ds).canLay0 = true := c
  exact ⟨.list ds, .lst ha a1, .lst hb a2, shaped_of c' (by show PyData.depthAll ds + 1 ≤ 64; omega), eqv_self c'⟩

section
variable {P : Program} {w : World} {K : PySem.W.Frag} {mg : Str → Option Value} {base : Heap} {Fam : Sys → Prop}
def spLawWay (K : PySem.W.Frag) (Fam : Sys → Prop) : Sp := fun vs H Q _ => ∃ (S : Sys) (a : Addr) (xs : List V) (rows : List (Int × Str)) (l : Nat) (k : Int) (r : Nat), Fam S ∧ vs = [.ref S.f, .ref a, .int (l : Int), .int k] ∧ H a = some (.lst xs) ∧ KvL H xs rows ∧ RowsOk l rows ∧ l ≤ 20 ∧ rows.length ≤ 1000 ∧ 0 ≤ k ∧ S.ok H (r + costP l rows.length) ∧
  ∀ v H', Ext H H' → S.ok H' r → WayV S H H' v (wayT l rows k) → Q v H'
theorem bitK_ne (m : Nat) (k : Int) (e : Int × Str) : bitK m (1 - k / 2 ^ m % 2) e = decide (e.1 / 2 ^ m % 2 ≠ k / 2 ^ m % 2) := by
  unfold bitK
  have h1 := bit01 k m
  have h2 := bit01 e.1 m
  rw [decide_eq_decide]
  omega
theorem neI_of {a b : Int} (c : (!decide (V.int a = V.int b)) = true) : a ≠ b := fun z => by
  rw [decide_eq_true (congrArg V.int z)] at c
  cases c
theorem neI_to {a b : Int} (c : a ≠ b) : (!decide (V.int a = V.int b)) = true := by
  rw [decide_eq_false (fun z => c (V.int.inj z))]
  rfl
theorem ok_lawway {cc : Addr} (T : Txt K mg cc) (A : SlA P w K mg base Fam) : Cal P w K mg base 24 "_law_way" (spLawWay K Fam) [] := by
  have Z := T.Z
  have C__law_part := ok_lawpart (P := P) (w := w) (base := base) T A 21
  refine cal_of T.d__law_way sc__law_way (fun vs H Q E h => ?_) (fun f cdv A' outer s H vs Q E hr h => ?_)
  · obtain ⟨S, a, xs, rows, l, k, r, _, rfl, _⟩ := h
    rfl
  obtain ⟨S, a, xs, rows, l, k, r, hF, rfl, hS, hxs, hro, hl, hrz, hk0, hok, q⟩ := h
  have hu := hu_of hr
  have G := A.good hF
  have e16 : sizeLine = 16777216 := sizeLine_eq
  refine ⟨_, (pss_cons (ps_set (i := 4) sc__law_way.nd rfl (Or.inl rfl) (pe_lst pa_nil))
  (pss_cons (ps_set (i := 5) sc__law_way.nd rfl (Or.inl rfl) (pv 2))
  (pss_cons (ps_while PassesOwn.never (pt_cmpR op_gt (pe_callB call_len_seq rfl Z.len PySem.boot_len (pa_cons (pv 1) pa_nil)) pe_int (nomark _)) (pss_cons (ps_set (i := 5) sc__law_way.nd rfl (Or.inl rfl) (pe_op op_sub (pv 5) pe_int))
  (pss_cons (ps_set (i := 6) sc__law_way.nd rfl (Or.inr rfl) (pe_op op_oneShl pe_int (pv 5)))
  (pss_cons (ps_expr (pe_bm PySem.F.plainAttrs_list PySem.F.slot_list_append PySem.F.type_list_append mt_append (pv 4) (pa_cons (pe_c C__law_part hr (by omega) rfl (pa_cons (pv 0) (pa_cons (pe_lc (own := [("_law_row", 7)]) (g := gName 7) (tt := _) rfl sc__law_way.nd (pi_list (pv 1)) (blkOk_by (N := N__law_way) (sc := defScope s__law_way) (by decide +kernel)) (fun _ _ _ _ _ => (pg_name (i := 7) sc__law_way.nd rfl (Or.inl rfl))) (fun _ _ _ _ _ => (pts_one (pt_cmpR op_ne (pe_op op_mod (pe_op op_fdiv (pe_ix (r := rIxT K) ix_tup (pv 7) pe_int (fun _ _ => rfl)) (pv 6)) pe_int) (pe_op op_mod (pe_op op_fdiv (pv 3) (pv 6)) pe_int) (nomark _)))) (fun _ _ _ _ _ => (pv 7))) (pa_cons (pv 5) pa_nil)))) pa_nil)))
  (pss_one (ps_setLc (i := 1) (own := [("_law_row", 7)]) (g := gName 7) (tt := _) rfl sc__law_way.nd rfl rfl (sw_true rfl rfl rfl (by decide +kernel)) (pi_list (pv 1)) (blkOk_by (N := N__law_way) (sc := defScope s__law_way) (by decide +kernel)) (fun _ _ _ _ _ => (pg_name (i := 7) sc__law_way.nd rfl (Or.inl rfl))) (fun _ _ _ _ _ => (pts_one (pt_cmpR op_eq (pe_op op_mod (pe_op op_fdiv (pe_ix (r := rIxT K) ix_tup (pv 7) pe_int (fun _ _ => rfl)) (pv 6)) pe_int) (pe_op op_mod (pe_op op_fdiv (pv 3) (pv 6)) pe_int) (nomark _)))) (fun _ _ _ _ _ => (pv 7))))))))
  (pss_cons (ps_if (pt_cmpR (op_eqD hr.units) (pv 1) (pe_lst pa_nil) (nomark _)) (pss_one (ps_ret (pe_tup (pa_cons (pv 4) (pa_cons pe_non pa_nil))))) pss_nil)
  (pss_one (ps_ret (pe_tup (pa_cons (pv 4) (pa_cons (pe_ix ix_list (pv 1) pe_int (fun _ _ => rfl)) pa_nil))))))))), ?_⟩
  refine ⟨by show 0 ≤ sizeLine; decide, fun o no => ?_⟩
  refine ⟨_, rfl, ?_⟩
  obtain ⟨W, hW⟩ : ∃ W, wayT l rows k = W := ⟨_, rfl⟩
  rw [hW] at q
  have u1 := Ext.new (o := .lst []) no
  refine ⟨fun m σ H' => ∃ (b : Addr) (xs : List V) (rws : List (Int × Str)) (vs : List V) (ts : List Tm) (y6 y7 : Option V), σ = [some (.ref S.f), some (.ref b), some (.int (l : Int)), some (.int k), some (.ref o), some (.int (m : Int)), y6, y7] ∧ Ext H H' ∧ H' o = some (.lst vs) ∧ H' b = some (.lst xs) ∧ b ≠ o ∧ KvL H' xs rws ∧ RowsOk m rws ∧ m ≤ 20 ∧ rws.length ≤ 1000 ∧ DenL S H' vs ts ∧ ts.length + m = l ∧ S.ok H' (r + costP m rws.length) ∧ ts ++ (wayT m rws k).1 = W.1 ∧ (wayT m rws k).2 = W.2,
    ⟨l, a, xs, rows, [], [], none, none, rfl, u1, upd_same, u1.lst hS, (fun z => by rw [z, no] at hS; cases hS), hxs.gr u1.gr, hro, hl, hrz, DenL.nil, by show 0 + l = l; omega, G.keep (Kp.new no) hok, by rw [hW]; rfl, by rw [hW]⟩, ?_⟩
  rintro m σ H2 ⟨b, xs, rws, vs, ts, y6, y7, rfl, x2, ho, hq, nbo, hxs, hr2, hm20, hrz, hden, htm, ok2, e1, e2⟩
  have hxl := hxs.len
  refine ⟨_, rfl, b, xs, rfl, .inl (SqL.of hq), _, _, rfl, rfl, _, rfl, ?_⟩
  by_cases c : rws.length ≤ 1
  · rw [decide_eq_false (show ¬ (1 : Int) < (xs.length : Int) by omega)]
    refine iteF ?_
    rw [wayT_few c] at e1 e2
    rw [List.append_nil] at e1
    have e2 : rws = W.2 := e2
    refine ⟨_, rfl, by show 0 ≤ sizeLine; decide, fun e ne => ?_⟩
    have ue := Ext.new (o := .lst []) ne
    have ke := Kp.new (o := .lst []) ne
    obtain ⟨ds, dp, _, cl, dpt⟩ := kv_dps (K := K) (hxs.gr ue.gr) (hxs.gr ue.gr)
    have sh : SeqAt.shaped (.list ds) = true := shaped_of (d := .list ds) cl (by show PyData.depthAll ds + 1 ≤ 64; omega)
    refine ⟨.list ds, .list [], .lst (SqL.of (ue.lst hq)) dp, .lst (SqL.of upd_same) .nil, sh, by decide +kernel, _, rfl, ?_⟩
    have hq3 := ue.lst hq
    have ho3 := ue.lst ho
    have hxs3 := hxs.gr ue.gr
    have x3 := x2.trans ue
    have ok3 := G.less (G.keep ke ok2) (show r ≤ r + costP m rws.length by omega)
    have hden3 := hden.mono G ue.gr
    generalize upd H2 e (.lst []) = H3 at hq3 ho3 hxs3 x3 ok3 hden3 dp ⊢
    match rws, hxl, e2, hxs3, dp with
    | [], hxl, e2, hxs3, dp =>
      have hx0 : xs = [] := List.eq_nil_of_length_eq_zero hxl
      subst hx0
      cases dp
      rw [eqv_self (d := .list []) rfl]
      refine iteT ⟨_, rfl, by show 2 ≤ sizeLine; decide, fun t nt => ?_⟩
      have u := Ext.new (o := .tup [.ref o, .non]) nt
      exact q _ _ (x3.trans u) (G.keep (Kp.new nt) ok3) ⟨t, o, .non, vs, rfl, upd_same, no, x3.free nt, u.lst ho3, by rw [← e1]; exact hden3.mono G u.gr, .inl ⟨e2.symm, rfl⟩⟩
    | [x], hxl, e2, hxs3, dp =>
      obtain ⟨v0, rfl⟩ : ∃ v0, xs = [v0] := List.length_eq_one_iff.mp hxl
      obtain ⟨qe, rfl, hqe, hqx⟩ := hxs3.at_ 0 v0 x rfl rfl
      cases dp with
      | cons dp1 dp2 =>
        rw [PyData.eqv, PyData.eqvAll]
        refine iteF ⟨_, rfl, _, rfl, b, _, 0, _, rfl, rfl, SqL.of hq3, rfl, by show 2 ≤ sizeLine; decide, fun t nt => ?_⟩
        have u := Ext.new (o := .tup [.ref o, .ref qe]) nt
        exact q _ _ (x3.trans u) (G.keep (Kp.new nt) ok3) ⟨t, o, .ref qe, vs, rfl, upd_same, no, x3.free nt, u.lst ho3, by rw [← e1]; exact hden3.mono G u.gr, .inr ⟨x, qe, e2.symm, rfl, u.tup hqe, hqx⟩⟩
    | _ :: _ :: _, hxl, e2, hxs3, dp => exact absurd c (by simp)
  rw [decide_eq_true (show (1 : Int) < (xs.length : Int) by omega)]
  refine iteT ?_
  obtain ⟨m, rfl⟩ : ∃ j, m = j + 1 := by
    cases m with
    | zero => have := hr2.zero; omega
    | succ j => exact ⟨j, rfl⟩
  rw [wayT_more (by omega)] at e1 e2
  refine ⟨fun σ' H' => ∃ m', m' < m + 1 ∧ _, fun _ _ h => h, ?_⟩
  refine ⟨_, rfl, _, _, rfl, rfl, ?_⟩
  show gName 5 (V.int (((m + 1 : Nat) : Int) - 1)) _ _ _
  rw [show (((m + 1 : Nat) : Int) - 1) = (m : Int) by omega]
  refine ⟨_, rfl, m, rfl, rfl, by omega, ?_⟩
  have hM : (0 : Int) < 2 ^ m := Int.pow_pos (by decide)
  have hM2 : (2 : Int) ^ m < 1073741824 := by
    have h1 : 2 ^ m ≤ 2 ^ 20 := Nat.pow_le_pow_right (by decide) (by omega)
    have h2 : ((2 ^ m : Nat) : Int) = 2 ^ m := by rw [Int.natCast_pow]; rfl
    have h3 : (2 : Nat) ^ 20 = 1048576 := rfl
    omega
  have hsp := filter_split (rows := rws) m
  have hcw : costP m (rws.filter (bitK m (k / 2 ^ m % 2))).length + costP m (rws.filter (bitK m (1 - k / 2 ^ m % 2))).length ≤ costP (m + 1) rws.length := by
    rcases bit01 k m with h | h
    · rw [h]
      exact costP_way (a := (rws.filter (bitK m 0)).length) (b := (rws.filter (bitK m 1)).length) hsp (by omega)
    · rw [h]
      exact costP_way (a := (rws.filter (bitK m 1)).length) (b := (rws.filter (bitK m 0)).length) (by omega) (by omega)
  have lb := List.length_filter_le (bitK m (k / 2 ^ m % 2)) rws
  have lo := List.length_filter_le (bitK m (1 - k / 2 ^ m % 2)) rws
  refine ⟨_, rfl, .inl ⟨rfl, _, SqL.of ho⟩, _, rfl, _, rfl, b, rfl, ⟨_, SqL.of hq⟩, fun D nD => ?_⟩
  refine lc_list (K := K) (a := b) (xs := xs) (fun i H' => ∃ ys, Ext H2 H' ∧ Kp H2 H' ∧ H' D = some (.lst ys) ∧ KvL H' ys ((rws.take i).filter (bitK m (1 - k / 2 ^ m % 2)))) ⟨[], Ext.new nD, Kp.new nD, upd_same, KvL.nil⟩ (fun i H' _ ⟨_, x, _⟩ => SqL.of (x.lst hq)) ?_ ?_
  · rintro i y H' hi ⟨ys, x, kk, hD, hy⟩
    have hlt := (List.getElem?_eq_some_iff.mp hi).1
    have hri : rws[i]? = some (rws[i]'(by omega)) := List.getElem?_eq_getElem _
    obtain ⟨qe, rfl, hqe, hqx⟩ := (hxs.gr x.gr).at_ i y _ hi hri
    generalize rws[i]'(by omega) = e at hri hqe hqx
    refine ⟨rfl, _, rfl, qe, _, 0, _, rfl, rfl, SqT.of hqe, rfl, _, rfl, _, _, rfl, rfl, ⟨hM, hM2⟩, _, 2, rfl, rfl, by show (0 : Int) < 2; decide, _, rfl, _, rfl, _, _, rfl, rfl, ⟨hM, hM2⟩, _, 2, rfl, rfl, by show (0 : Int) < 2; decide, rfl, _, rfl, ite2 (fun c => ?_) (fun c => ?_)⟩
    · have hb : bitK m (1 - k / 2 ^ m % 2) e = true := by
        rw [bitK_ne]
        exact decide_eq_true fun z => neI_of c z
      refine ⟨_, rfl, ys, hD, ?_, ys ++ [.ref qe], x.mut nD, kk.trans (Kp.lst hD), upd_same, ?_⟩
      · have := hy.len
        have := List.length_filter_le (bitK m (1 - k / 2 ^ m % 2)) (rws.take i)
        rw [List.length_take] at this
        omega
      · rw [take_filter _ _ hri, hb]
        exact (hy.gr (Kp.lst hD).gr).snoc ((Kp.lst hD) _ _ hqe True.intro) hqx
    · have hb : bitK m (1 - k / 2 ^ m % 2) e = false := by
        rw [bitK_ne]
        exact decide_eq_false fun z => c (neI_to z)
      refine ⟨ys, x, kk, hD, ?_⟩
      rw [take_filter _ _ hri, hb]
      simpa using hy
  rintro H3 ⟨yo, x3, k3, hD3, hyo⟩
  rw [hxl, List.take_length] at hyo
  have ho3 := x3.lst ho
  have nDo : D ≠ o := fun z => by rw [z, ho] at nD; cases nD
  refine ⟨_, rfl, S, D, yo, _, m, r + costP m (rws.filter (bitK m (k / 2 ^ m % 2))).length, hF, rfl, SqL.of hD3, hyo, hr2.part, by omega, by omega, G.less (G.keep k3 ok2) (by omega), fun v H4 x4 ok4 d4 => ?_⟩
  have ho4 := x4.lst ho3
  have hvl := hden.len
  refine ⟨o, vs, v, rfl, rfl, ho4, by omega, ?_⟩
  have x5 := ((x2.trans x3).trans x4).mut no (o := .lst (vs ++ [v]))
  have k5 := Kp.lst (o := .lst (vs ++ [v])) ho4
  have ho5 : upd H4 o (.lst (vs ++ [v])) o = some (.lst (vs ++ [v])) := upd_same
  have hb5 : upd H4 o (.lst (vs ++ [v])) b = some (.lst xs) := by rw [upd_ne nbo]; exact (x3.trans x4).lst hq
  have ok5 := G.keep k5 ok4
  have hden5 := (((hden.mono G (x3.trans x4).gr).mono G k5.gr).append (DenL.one (G.mono k5.gr d4)))
  have hxs5 := (hxs.gr (x3.trans x4).gr).gr k5.gr
  generalize upd H4 o (.lst (vs ++ [v])) = H5 at x5 ho5 hb5 ok5 hden5 hxs5 ⊢
  refine ⟨_, rfl, b, rfl, ⟨_, SqL.of hb5⟩, fun D2 nD2 => ?_⟩
  refine lc_list (K := K) (a := b) (xs := xs) (fun i H' => ∃ ys, Ext H5 H' ∧ Kp H5 H' ∧ H' D2 = some (.lst ys) ∧ KvL H' ys ((rws.take i).filter (bitK m (k / 2 ^ m % 2)))) ⟨[], Ext.new nD2, Kp.new nD2, upd_same, KvL.nil⟩ (fun i H' _ ⟨_, x, _⟩ => SqL.of (x.lst hb5)) ?_ ?_
  · rintro i y H' hi ⟨ys, x, kk, hD, hy⟩
    have hlt := (List.getElem?_eq_some_iff.mp hi).1
    have hri : rws[i]? = some (rws[i]'(by omega)) := List.getElem?_eq_getElem _
    obtain ⟨qe, rfl, hqe, hqx⟩ := (hxs5.gr x.gr).at_ i y _ hi hri
    generalize rws[i]'(by omega) = e at hri hqe hqx
    refine ⟨rfl, _, rfl, qe, _, 0, _, rfl, rfl, SqT.of hqe, rfl, _, rfl, _, _, rfl, rfl, ⟨hM, hM2⟩, _, 2, rfl, rfl, by show (0 : Int) < 2; decide, _, rfl, _, rfl, _, _, rfl, rfl, ⟨hM, hM2⟩, _, 2, rfl, rfl, by show (0 : Int) < 2; decide, rfl, _, rfl, ite2 (fun c => ?_) (fun c => ?_)⟩
    · have c' : e.1 / 2 ^ m % 2 = k / 2 ^ m % 2 := V.int.inj (of_decide_eq_true c)
      have hb : bitK m (k / 2 ^ m % 2) e = true := decide_eq_true c'
      refine ⟨_, rfl, ys, hD, ?_, ys ++ [.ref qe], x.mut nD2, kk.trans (Kp.lst hD), upd_same, ?_⟩
      · have := hy.len
        have := List.length_filter_le (bitK m (k / 2 ^ m % 2)) (rws.take i)
        rw [List.length_take] at this
        omega
      · rw [take_filter _ _ hri, hb]
        exact (hy.gr (Kp.lst hD).gr).snoc ((Kp.lst hD) _ _ hqe True.intro) hqx
    · have hb : bitK m (k / 2 ^ m % 2) e = false := decide_eq_false fun z => c (decide_eq_true (congrArg V.int z))
      refine ⟨ys, x, kk, hD, ?_⟩
      rw [take_filter _ _ hri, hb]
      simpa using hy
  rintro H6 ⟨yb, x6, k6, hD6, hyb⟩
  rw [hxl, List.take_length] at hyb
  have nDo2 : D2 ≠ o := fun z => by rw [z, ho5] at nD2; cases nD2
  exact ⟨m, Nat.lt_succ_self _, D2, yb, _, vs ++ [v], ts ++ [partT m (rws.filter (bitK m (1 - k / 2 ^ m % 2)))], _, _, rfl, x5.trans x6, x6.lst ho5, hD6, nDo2, hyb, hr2.part, by omega, by omega,
    hden5.mono G x6.gr, by rw [List.length_append]; show ts.length + 1 + m = l; omega, G.keep k6 ok5, by rw [← e1]; simp, e2⟩
end

theorem getI_put (kvs : List (Int × Str)) (k : Int) (x : Str) : getI (putI kvs k x) k = some x := by
  have h := valV_put (convT kvs) (Sum.inl k) (Sum.inl k) (V.str x)
  rw [if_pos rfl, conv_put, conv_get] at h
  cases e : getI (putI kvs k x) k with
  | none => rw [e] at h; cases h
  | some y => rw [e] at h; cases h; rfl
theorem getI_pop (kvs : List (Int × Str)) (k : Int) : getI (popI kvs k) k = none := by
  unfold getI popI
  rw [List.find?_eq_none.mpr]
  · rfl
  · intro e he
    have := (List.mem_filter.mp he).2
    simpa using this

/-! ### heaps where some lists may change -/
structure ExtM (M : List Addr) (H H' : Hp) : Prop where
  keep : ∀ a o, a ∉ M → H a = some o → (∀ kvs, o ≠ .dT kvs) → H' a = some o
  grow : ∀ a kvs, H a = some (.dT kvs) → ∃ more, H' a = some (.dT (kvs ++ more))
  was : ∀ a ∈ M, ∃ xs, H a = some (.lst xs)
section
variable {M : List Addr} {H H' H2 : Hp}
theorem ExtM.off (h : ExtM M H H') {a : Addr} {o : HO} (e : H a = some o) (n : ∀ xs, o ≠ .lst xs) : a ∉ M := fun hm => by
  obtain ⟨xs, z⟩ := h.was a hm
  rw [e] at z
  exact n xs (Option.some.inj z)
theorem ExtM.gr (h : ExtM M H H') : Gr H H' := ⟨fun a o e s n => h.keep a o (h.off e fun xs z => by subst z; exact s.elim) e n, h.grow⟩
theorem ExtM.lst (h : ExtM M H H') {a : Addr} {xs : List V} (hm : a ∉ M) (e : H a = some (.lst xs)) : H' a = some (.lst xs) := h.keep _ _ hm e fun _ z => nomatch z
theorem ExtM.ins (h : ExtM M H H') {a C dx : Addr} {fs : List (Str × V)} (e : H a = some (.ins C dx fs)) : H' a = some (.ins C dx fs) := h.keep _ _ (h.off e fun _ z => nomatch z) e fun _ z => nomatch z
theorem ExtM.dK (h : ExtM M H H') {a : Addr} {ks : List (Key × V)} (e : H a = some (.dK ks)) : H' a = some (.dK ks) := h.keep _ _ (h.off e fun _ z => nomatch z) e fun _ z => nomatch z
theorem ExtM.tup (h : ExtM M H H') {a : Addr} {xs : List V} (e : H a = some (.tup xs)) : H' a = some (.tup xs) := h.keep _ _ (h.off e fun _ z => nomatch z) e fun _ z => nomatch z
theorem Ext.m (x : Ext H H') (M : List Addr) (hw : ∀ a ∈ M, ∃ xs, H a = some (.lst xs)) : ExtM M H H' := ⟨fun a o _ e n => x.keep a o e n, x.grow, hw⟩
theorem ExtM.then (h : ExtM M H H') (x : Ext H' H2) : ExtM M H H2 := by
  refine ⟨fun a o hm e n => x.keep a o (h.keep a o hm e n) n, fun a ks e => ?_, h.was⟩
  obtain ⟨m1, e1⟩ := h.grow a ks e
  obtain ⟨m2, e2⟩ := x.grow a _ e1
  exact ⟨m1 ++ m2, by rw [e2, List.append_assoc]⟩
/-- a list of M is set -/
theorem ExtM.set (h : ExtM M H H') {a : Addr} {o : HO} (ha : a ∈ M) : ExtM M H (upd H' a o) := by
  refine ⟨fun b u hm e n => ?_, fun b ks e => ?_, h.was⟩
  · rw [upd_ne (fun z => hm (by rw [z]; exact ha))]
    exact h.keep b u hm e n
  · obtain ⟨m1, e1⟩ := h.grow b ks e
    refine ⟨m1, ?_⟩
    rw [upd_ne]
    · exact e1
    · rintro rfl
      obtain ⟨xs, z⟩ := h.was _ ha
      rw [e] at z
      cases z
theorem ExtM.free (h : ExtM M H H') {a : Addr} (n : H' a = none) (hm : a ∉ M) : H a = none := by
  cases q : H a with
  | none => rfl
  | some o =>
    by_cases c : ∃ kvs, o = .dT kvs
    · obtain ⟨kvs, rfl⟩ := c
      obtain ⟨m, e1⟩ := h.grow a kvs q
      rw [e1] at n
      cases n
    · rw [h.keep a o hm q fun kvs z => c ⟨kvs, z⟩] at n
      cases n
theorem ExtM.wide {M' : List Addr} (h : ExtM M H H') (hs : ∀ a ∈ M, a ∈ M') (hw : ∀ a ∈ M', ∃ xs, H a = some (.lst xs)) : ExtM M' H H' := ⟨fun a o hm e n => h.keep a o (fun z => hm (hs a z)) e n, h.grow, hw⟩
theorem TbAt.extM {C f p d : Addr} {l : Nat} {kvs : List (Int × Str)} (h : TbAt C f H p d l kvs) (x : ExtM M H H') : TbAt C f H' p d l kvs := by
  obtain ⟨⟨dx, a⟩, b, c⟩ := h
  exact ⟨⟨dx, x.ins a⟩, x.dK b, c⟩
end

/-! ### pairs by rising keys -/
def srtI (kv : List (Int × Str)) : List (Int × Str) := kv.mergeSort fun a b => decide (a.1 ≤ b.1)
theorem srt_perm (kv : List (Int × Str)) : (srtI kv).Perm kv := List.mergeSort_perm _ _
theorem srt_pw (kv : List (Int × Str)) : (srtI kv).Pairwise fun a b => a.1 ≤ b.1 := by
  have h := List.pairwise_mergeSort (le := fun a b : Int × Str => decide (a.1 ≤ b.1)) (fun a b c h1 h2 => by
    have h1 := of_decide_eq_true h1
    have h2 := of_decide_eq_true h2
    exact decide_eq_true (by omega)) (fun a b => by
    rcases Int.le_total a.1 b.1 with h | h
    · rw [decide_eq_true h]; rfl
    · rw [decide_eq_true h, Bool.or_true]) kv
  exact h.imp fun h => of_decide_eq_true h
theorem srt_eq {l : Nat} {kv kv' rows : List (Int × Str)} (h : TbOk l kv) (q : kv'.Perm kv) (p : rows.Perm kv') (pw : rows.Pairwise fun a b => a.1 ≤ b.1) : rows = srtI kv :=
  kv_same h.nd (p.trans q) (srt_perm kv) pw (srt_pw kv)
/-! ### entries -/
abbrev En := List Nat × List (Int × Str)
def headT (l : Nat) (kv : List (Int × Str)) : Tm := .sl "table" (.int (l : Int)) (partT l (srtI kv))
def leafT (l : Nat) (e : En) : Tm := .sl "leaf" (.str (S e.1)) (headT l e.2)
def kpF (f : Addr) (l : Int) (t b v : Addr) : List (Str × V) := [("seal", .ref f), ("depth", .int l), ("texts", .ref t), ("tables", .ref b), ("leaves", .ref v)]
theorem kpF_at (f : Addr) (l : Int) (t b v : Addr) : (kpF f l t b v).lookup ("seal" : Str) = some (.ref f) ∧ (kpF f l t b v).lookup ("depth" : Str) = some (.int l) ∧ (kpF f l t b v).lookup ("texts" : Str) = some (.ref t) ∧ (kpF f l t b v).lookup ("tables" : Str) = some (.ref b) ∧ (kpF f l t b v).lookup ("leaves" : Str) = some (.ref v) :=
  ⟨by kernel_rfl, by kernel_rfl, by kernel_rfl, by kernel_rfl, by kernel_rfl⟩
theorem kpF_no (f : Addr) (l : Int) (t b v : Addr) : ∀ m ∈ (["add", "size", "first", "within", "text", "table_head", "head", "path", "growth", "way", "paper"] : List Str), (kpF f l t b v).lookup m = none := by
  intro m hm
  rcases List.mem_cons.mp hm with rfl | hm
  · kernel_rfl
  rcases List.mem_cons.mp hm with rfl | hm
  · kernel_rfl
  rcases List.mem_cons.mp hm with rfl | hm
  · kernel_rfl
  rcases List.mem_cons.mp hm with rfl | hm
  · kernel_rfl
  rcases List.mem_cons.mp hm with rfl | hm
  · kernel_rfl
  rcases List.mem_cons.mp hm with rfl | hm
  · kernel_rfl
  rcases List.mem_cons.mp hm with rfl | hm
  · kernel_rfl
  rcases List.mem_cons.mp hm with rfl | hm
  · kernel_rfl
  rcases List.mem_cons.mp hm with rfl | hm
  · kernel_rfl
  rcases List.mem_cons.mp hm with rfl | hm
  · kernel_rfl
  rcases List.mem_cons.mp hm with rfl | hm
  · kernel_rfl
  cases hm
theorem kpF_mk (f : Addr) (l : Int) (t b v : Addr) : putF "leaves" (.ref v) (putF "tables" (.ref b) (putF "texts" (.ref t) (putF "depth" (.int l) (putF "seal" (.ref f) [])))) = kpF f l t b v := by kernel_rfl
/-- a keeper, its three lists, its tables -/
structure KpAt (CK CT : Addr) (S0 : Sys) (H : Hp) (p : Addr) (l : Nat) (t b v : Addr) (es : List En) : Prop where
  at_ : ∃ dx, H p = some (.ins CK dx (kpF S0.f (l : Int) t b v))
  tx : H t = some (.lst (es.map fun e => V.str (S e.1)))
  tb : ∃ qs : List Addr, H b = some (.lst (qs.map V.ref)) ∧ qs.length = es.length ∧ ∀ (i : Nat) (q : Addr) (e : En), qs[i]? = some q → es[i]? = some e → ∃ d kv, kv.Perm e.2 ∧ TbAt CT S0.f H q d l kv
  lv : ∃ ls, H v = some (.lst ls) ∧ DenL S0 H ls (es.map (leafT l))
  ok : ∀ e ∈ es, TbOk l e.2 ∧ e.2.length ≤ 119 ∧ txtOk (S e.1) = true
  sz : l ≤ 16 ∧ es.length ≤ 300
  ne : t ≠ b ∧ t ≠ v ∧ b ≠ v
section
variable {K : PySem.W.Frag} {CK CT : Addr} {S0 : Sys} {H H' : Hp} {p : Addr} {l : Nat} {t b v : Addr} {es : List En}
theorem KpAt.ext (G : S0.Good K) (h : KpAt CK CT S0 H p l t b v es) (x : Ext H H') : KpAt CK CT S0 H' p l t b v es := by
  obtain ⟨⟨dx, h1⟩, h2, ⟨qs, h3, h4, h5⟩, ⟨ls, h6, h7⟩, h8, h9, h10⟩ := h
  refine ⟨⟨dx, x.ins h1⟩, x.lst h2, ⟨qs, x.lst h3, h4, fun i q e a c => ?_⟩, ⟨ls, x.lst h6, h7.mono G x.gr⟩, h8, h9, h10⟩
  obtain ⟨d, kv, g1, g2⟩ := h5 i q e a c
  exact ⟨d, kv, g1, g2.ext x⟩
theorem KpAt.extM {M : List Addr} (G : S0.Good K) (h : KpAt CK CT S0 H p l t b v es) (x : ExtM M H H') (ht : t ∉ M) (hb : b ∉ M) (hv : v ∉ M) : KpAt CK CT S0 H' p l t b v es := by
  obtain ⟨⟨dx, h1⟩, h2, ⟨qs, h3, h4, h5⟩, ⟨ls, h6, h7⟩, h8, h9, h10⟩ := h
  refine ⟨⟨dx, x.ins h1⟩, x.lst ht h2, ⟨qs, x.lst hb h3, h4, fun i q e a c => ?_⟩, ⟨ls, x.lst hv h6, h7.mono G x.gr⟩, h8, h9, h10⟩
  obtain ⟨d, kv, g1, g2⟩ := h5 i q e a c
  exact ⟨d, kv, g1, g2.extM x⟩
end
/-- a size asked: left out, or a number -/
def szV : Option Int → V
  | none => .non
  | some i => .int i
def cntOf (n : Nat) : Option Int → Option Nat
  | none => some n
  | some i => if 0 ≤ i ∧ i ≤ (n : Int) then some i.toNat else none
theorem cnt_le {n k : Nat} {sz : Option Int} (h : cntOf n sz = some k) : k ≤ n := by
  cases sz with
  | none => cases h; exact Nat.le_refl _
  | some i =>
    have h : (if 0 ≤ i ∧ i ≤ (n : Int) then some i.toNat else none) = some k := h
    by_cases c : 0 ≤ i ∧ i ≤ (n : Int)
    · rw [if_pos c] at h
      cases h
      omega
    · rw [if_neg c] at h
      cases h

section
variable {P : Program} {w : World} {K : PySem.W.Frag} {mg : Str → Option Value} {base : Heap} {Fam : Sys → Prop} {CK CT : Addr}
theorem kno {f : Addr} {l : Int} {t b v : Addr} (m : Str) (h : m ∈ (["add", "size", "first", "within", "text", "table_head", "head", "path", "growth", "way", "paper"] : List Str) := by decide +kernel) : (kpF f l t b v).lookup m = none := kpF_no f l t b v m h
/-- the count of entries -/
def spKSize (CK CT : Addr) (Fam : Sys → Prop) : Sp := fun vs H Q _ => ∃ (S0 : Sys) (p : Addr) (l : Nat) (t b v : Addr) (es : List En), Fam S0 ∧ vs = [.ref p] ∧ KpAt CK CT S0 H p l t b v es ∧ Q (.int (es.length : Int)) H
theorem ok_ksize {cc : Addr} (T : Txt K mg cc) (KK : K_Keeper K mg CK) : Met P w K mg base 1 CK "size" (spKSize CK CT Fam) [] := by
  have Z := T.Z
  refine met_of KK.cl KK.m_size sc_Keeper_size (fun vs H Q E h => ?_) (fun f cdv A' outer s H vs Q E hr h => ?_)
  · obtain ⟨S0, p, l, t, b, v, es, _, rfl, _⟩ := h
    rfl
  obtain ⟨S0, p, l, t, b, v, es, hF, rfl, hk, q⟩ := h
  obtain ⟨dx, hp⟩ := hk.at_
  refine ⟨_, (pss_one (ps_ret (pe_callB call_len_seq rfl Z.len PySem.boot_len (pa_cons (pe_fld (pv 0) rfl) pa_nil)))), ?_⟩
  refine ⟨_, rfl, p, CK, dx, _, _, rfl, hp, KK.cl, KK.n_texts, (kpF_at _ _ _ _ _).2.2.1, t, _, rfl, .inl (SqL.of hk.tx), ?_⟩
  rw [List.length_map]
  exact q
def spFirst (mg : Str → Option Value) (CK CT : Addr) (Fam : Sys → Prop) : Sp := fun vs H Q E => ∃ (S0 : Sys) (p : Addr) (l : Nat) (t b v : Addr) (es : List En) (sz : Option Int) (r : Nat), Fam S0 ∧ vs = [.ref p, szV sz] ∧ KpAt CK CT S0 H p l t b v es ∧ S0.ok H r ∧
  (∀ k, cntOf es.length sz = some k → ∀ q ys H', Ext H H' → Kp H H' → H q = none → H' q = some (.lst ys) → DenL S0 H' ys ((es.map (leafT l)).take k) → Q (.ref q) H') ∧
  (cntOf es.length sz = none → ∀ D, mg "NoPlace" = some (.ref D) → E (.ref D) none H)
theorem ok_first {cc : Addr} (T : Txt K mg cc) (A : SlA P w K mg base Fam) (KK : K_Keeper K mg CK) : MetR P w K mg base 1 CK "first" (spFirst mg CK CT Fam) := by
  have Z := T.Z
  obtain ⟨C_NoPlace, g_NoPlace, F_NoPlace⟩ := T.x_NoPlace.ex
  refine metR_of KK.cl KK.m_first sc_Keeper_first (fun vs H Q E h => ?_) (fun f cdv A' outer s H vs Q E hr h => ?_)
  · obtain ⟨S0, p, l, t, b, v, es, sz, r, _, rfl, _⟩ := h
    rfl
  obtain ⟨S0, p, l, t, b, v, es, sz, r, hF, rfl, hk, hok, q1, q2⟩ := h
  have G := A.good hF
  obtain ⟨dx, hp⟩ := hk.at_
  obtain ⟨ls, hv, hls⟩ := hk.lv
  have hll := hls.len
  rw [List.length_map] at hll
  refine ⟨_, (pss_cons (ps_if (pt_cmpR op_isN (pv 1) pe_non (nomark _)) (pss_one (ps_ret (pe_callTy call_list_of rfl Z.list (by decide +kernel) (pa_cons (pe_fld (pv 0) rfl) pa_nil)))) pss_nil)
  (pss_cons (ps_if (pt_not (pt_chain op_le op_le pe_int (pv 1) (pe_callB call_len_seq rfl Z.len PySem.boot_len (pa_cons (pe_fld (pv 0) rfl) pa_nil)))) (pss_one (ps_raiseX F_NoPlace g_NoPlace rfl (takes_of rfl rfl rfl rfl) rfl)) pss_nil)
  (pss_one (ps_ret (pe_slice sl_list (pe_fld (pv 0) rfl) po_none (po_some (pv 1))))))), ?_⟩
  have kf := kpF_at S0.f (l : Int) t b v
  cases sz with
  | none =>
    refine ⟨_, rfl, rfl, _, rfl, iteT ?_⟩
    refine ⟨_, rfl, p, CK, dx, _, _, rfl, hp, KK.cl, KK.n_leaves, kf.2.2.2.2, v, ls, rfl, .inl (SqL.of hv), fun q nq => ?_⟩
    refine q1 _ rfl q ls _ (Ext.new nq) (Kp.new nq) nq upd_same ?_
    rw [List.take_of_length_le (by rw [List.length_map]; exact Nat.le_refl _)]
    exact hls.mono G (Kp.new nq).gr
  | some i =>
    refine ⟨_, rfl, rfl, _, rfl, iteF ?_⟩
    have bad : ¬ (0 ≤ i ∧ i ≤ (es.length : Int)) → cntOf es.length (some i) = none := fun h => if_neg h
    refine ⟨_, rfl, _, _, rfl, rfl, _, rfl, ite2 (fun c => ?_) (fun c => ?_)⟩
    · have c' : (0 : Int) ≤ i := of_decide_eq_true c
      refine ⟨_, rfl, p, CK, dx, _, _, rfl, hp, KK.cl, KK.n_leaves, kf.2.2.2.2, v, ls, rfl, .inl (SqL.of hv), _, _, rfl, rfl, _, rfl, ?_⟩
      rw [hll]
      by_cases c2 : i ≤ (es.length : Int)
      · rw [decide_eq_true c2]
        refine iteF ?_
        refine ⟨_, rfl, p, CK, dx, _, _, rfl, hp, KK.cl, KK.n_leaves, kf.2.2.2.2, _, rfl, i, rfl, v, ls, rfl, SqL.of hv, fun q nq => ?_⟩
        obtain ⟨n, rfl⟩ := Int.eq_ofNat_of_zero_le c'
        rw [cut_to]
        refine q1 n ?_ q _ _ (Ext.new nq) (Kp.new nq) nq upd_same ((hls.take n).mono G (Kp.new nq).gr)
        show (if 0 ≤ (n : Int) ∧ (n : Int) ≤ (es.length : Int) then some ((n : Int)).toNat else none) = some n
        rw [if_pos ⟨c', c2⟩, Int.toNat_natCast]
      · rw [decide_eq_false c2]
        exact iteT (q2 (bad fun z => c2 z.2) _ g_NoPlace)
    · have c' : ¬ (0 : Int) ≤ i := of_decide_eq_false (Bool.eq_false_iff.mpr c)
      exact ⟨_, rfl, iteT (q2 (bad fun z => c' z.1) _ g_NoPlace)⟩
def spWithin (mg : Str → Option Value) : Sp := fun vs H Q E => ∃ (x : V) (i n : Int), vs = [x, .int i, .int n] ∧ (0 ≤ i ∧ i < n → Q .non H) ∧ (¬ (0 ≤ i ∧ i < n) → ∀ D, mg "NoPlace" = some (.ref D) → E (.ref D) none H)
theorem ok_within {cc : Addr} (T : Txt K mg cc) (KK : K_Keeper K mg CK) : MetR P w K mg base 1 CK "within" (spWithin mg) := by
  have Z := T.Z
  obtain ⟨C_NoPlace, g_NoPlace, F_NoPlace⟩ := T.x_NoPlace.ex
  refine metR_of KK.cl KK.m_within sc_Keeper_within (fun vs H Q E h => ?_) (fun f cdv A' outer s H vs Q E hr h => ?_)
  · obtain ⟨x, i, n, rfl, _⟩ := h
    rfl
  obtain ⟨x, i, n, rfl, q1, q2⟩ := h
  refine ⟨_, (pss_one (ps_if (pt_not (pt_chain op_le op_lt pe_int (pv 1) (pv 2))) (pss_one (ps_raiseX F_NoPlace g_NoPlace rfl (takes_of rfl rfl rfl rfl) rfl)) pss_nil)), ?_⟩
  refine ⟨_, rfl, _, _, rfl, rfl, _, rfl, ite2 (fun c => ?_) (fun c => ?_)⟩
  · have c' : (0 : Int) ≤ i := of_decide_eq_true c
    refine ⟨_, rfl, _, _, rfl, rfl, _, rfl, ?_⟩
    by_cases c2 : i < n
    · rw [decide_eq_true c2]
      exact iteF (q1 ⟨c', c2⟩)
    · rw [decide_eq_false c2]
      exact iteT (q2 (fun z => c2 z.2) _ g_NoPlace)
  · have c' : ¬ (0 : Int) ≤ i := of_decide_eq_false (Bool.eq_false_iff.mpr c)
    exact ⟨_, rfl, iteT (q2 (fun z => c' z.1) _ g_NoPlace)⟩
end

section
variable {P : Program} {w : World} {K : PySem.W.Frag} {mg : Str → Option Value} {base : Heap} {Fam : Sys → Prop} {CK CT : Addr}
def spKText (mg : Str → Option Value) (CK CT : Addr) (Fam : Sys → Prop) : Sp := fun vs H Q E => ∃ (S0 : Sys) (p : Addr) (l : Nat) (t b v : Addr) (es : List En) (i : Int), Fam S0 ∧ vs = [.ref p, .int i] ∧ KpAt CK CT S0 H p l t b v es ∧
  (∀ (n : Nat) e, i = (n : Int) → es[n]? = some e → Q (.str (S e.1)) H) ∧ (¬ (0 ≤ i ∧ i < (es.length : Int)) → ∀ D, mg "NoPlace" = some (.ref D) → E (.ref D) none H)
theorem get_in {α : Type} {es : List α} {i : Int} (h : 0 ≤ i ∧ i < (es.length : Int)) : ∃ (n : Nat) (e : α), i = (n : Int) ∧ es[n]? = some e := by
  obtain ⟨n, rfl⟩ := Int.eq_ofNat_of_zero_le h.1
  exact ⟨n, es[n]'(by omega), rfl, List.getElem?_eq_getElem _⟩
theorem ok_ktext {cc : Addr} (T : Txt K mg cc) (KK : K_Keeper K mg CK) : MetR P w K mg base 2 CK "text" (spKText mg CK CT Fam) := by
  have Z := T.Z
  have M_within := ok_within (P := P) (w := w) (base := base) T KK
  refine metR_of KK.cl KK.m_text sc_Keeper_text (fun vs H Q E h => ?_) (fun f cdv A' outer s H vs Q E hr h => ?_)
  · obtain ⟨S0, p, l, t, b, v, es, i, _, rfl, _⟩ := h
    rfl
  obtain ⟨S0, p, l, t, b, v, es, i, hF, rfl, hk, q1, q2⟩ := h
  obtain ⟨dx, hp⟩ := hk.at_
  have kf := kpF_at S0.f (l : Int) t b v
  refine ⟨_, (pss_cons (ps_expr (pe_mtx M_within (takes_of rfl rfl rfl rfl) hr (by omega) (pv 0) (pa_cons (pv 1) (pa_cons (pe_callB call_len_seq rfl Z.len PySem.boot_len (pa_cons (pe_fld (pv 0) rfl) pa_nil)) pa_nil))))
  (pss_one (ps_ret (pe_ix ix_list (pe_fld (pv 0) rfl) (pv 1) (fun _ _ => rfl))))), ?_⟩
  refine ⟨_, rfl, p, dx, _, rfl, hp, kno "within", _, rfl, _, rfl, p, CK, dx, _, _, rfl, hp, KK.cl, KK.n_texts, kf.2.2.1, t, _, rfl, .inl (SqL.of hk.tx), .ref p, i, _, rfl, fun hin => ?_, fun hout D hD => q2 (by rw [List.length_map] at hout; exact hout) D hD⟩
  rw [List.length_map] at hin
  obtain ⟨n, e, rfl, he⟩ := get_in hin
  exact ⟨_, rfl, p, CK, dx, _, _, rfl, hp, KK.cl, KK.n_texts, kf.2.2.1, _, rfl, t, _, _, _, rfl, rfl, SqL.of hk.tx, atI_nat (by rw [List.getElem?_map, he]; rfl), q1 n e rfl he⟩
def spKTHead (mg : Str → Option Value) (CK CT : Addr) (Fam : Sys → Prop) : Sp := fun vs H Q E => ∃ (S0 : Sys) (p : Addr) (l : Nat) (t b v : Addr) (es : List En) (i : Int) (r : Nat), Fam S0 ∧ vs = [.ref p, .int i] ∧ KpAt CK CT S0 H p l t b v es ∧ S0.ok H (r + 4000) ∧
  (∀ (n : Nat) e, i = (n : Int) → es[n]? = some e → ∀ u H', Ext H H' → S0.ok H' r → S0.den H' u (headT l e.2) → Q u H') ∧ (¬ (0 ≤ i ∧ i < (es.length : Int)) → ∀ D, mg "NoPlace" = some (.ref D) → E (.ref D) none H)
theorem ok_kthead {cc : Addr} (T : Txt K mg cc) (A : SlA P w K mg base Fam) (KT : K_Table K mg CT) (KK : K_Keeper K mg CK) : MetR P w K mg base 26 CK "table_head" (spKTHead mg CK CT Fam) := by
  have Z := T.Z
  have M_within := ok_within (P := P) (w := w) (base := base) T KK
  have M_head := ok_thead T A KT
  refine metR_of KK.cl KK.m_table_head sc_Keeper_table_head (fun vs H Q E h => ?_) (fun f cdv A' outer s H vs Q E hr h => ?_)
  · obtain ⟨S0, p, l, t, b, v, es, i, r, _, rfl, _⟩ := h
    rfl
  obtain ⟨S0, p, l, t, b, v, es, i, r, hF, rfl, hk, hok, q1, q2⟩ := h
  have G := A.good hF
  obtain ⟨dx, hp⟩ := hk.at_
  obtain ⟨qs, hb, hql, hq⟩ := hk.tb
  have kf := kpF_at S0.f (l : Int) t b v
  refine ⟨_, (pss_cons (ps_expr (pe_mtx M_within (takes_of rfl rfl rfl rfl) hr (by omega) (pv 0) (pa_cons (pv 1) (pa_cons (pe_callB call_len_seq rfl Z.len PySem.boot_len (pa_cons (pe_fld (pv 0) rfl) pa_nil)) pa_nil))))
  (pss_one (ps_ret (pe_mt0 M_head hr (by omega) (pe_ix ix_list (pe_fld (pv 0) rfl) (pv 1) (fun _ _ => rfl)))))), ?_⟩
  refine ⟨_, rfl, p, dx, _, rfl, hp, kno "within", _, rfl, _, rfl, p, CK, dx, _, _, rfl, hp, KK.cl, KK.n_texts, kf.2.2.1, t, _, rfl, .inl (SqL.of hk.tx), .ref p, i, _, rfl, fun hin => ?_, fun hout D hD => q2 (by rw [List.length_map] at hout; exact hout) D hD⟩
  rw [List.length_map] at hin
  obtain ⟨n, e, rfl, he⟩ := get_in hin
  have hn := (List.getElem?_eq_some_iff.mp he).1
  have hqn : qs[n]? = some (qs[n]'(by omega)) := List.getElem?_eq_getElem _
  generalize qs[n]'(by omega) = qn at hqn
  obtain ⟨d, kv, pm, tb⟩ := hq n qn e hqn he
  obtain ⟨⟨dx', hp'⟩, _, _⟩ := id tb
  obtain ⟨hke, hkl, _⟩ := hk.ok e (List.mem_of_getElem? he)
  have cp := costP_le hk.sz.1 (show kv.length ≤ 120 by rw [pm.length_eq]; omega)
  refine ⟨_, rfl, p, CK, dx, _, _, rfl, hp, KK.cl, KK.n_tables, kf.2.2.2.1, _, rfl, b, _, _, _, rfl, rfl, SqL.of hb, atI_nat (by rw [List.getElem?_map, hqn]; rfl), qn, dx', _, rfl, hp', (tbF_no _ _ _).2.2.2.2.2.1, S0, qn, d, l, kv, r, hF, rfl, tb, hke.perm pm, by have := hk.sz.1; omega, G.less hok (by omega), fun u rows H' x ok pr pw du => ?_⟩
  rw [srt_eq hke pm pr pw] at du
  exact q1 n e rfl he u H' x ok du
def spKHead (mg : Str → Option Value) (CK CT : Addr) (Fam : Sys → Prop) : Sp := fun vs H Q E => ∃ (S0 : Sys) (p : Addr) (l : Nat) (t b v : Addr) (es : List En) (sz : Option Int) (r : Nat), Fam S0 ∧ vs = [.ref p, szV sz] ∧ KpAt CK CT S0 H p l t b v es ∧ S0.ok H (r + 320) ∧
  (∀ k, cntOf es.length sz = some k → ∀ u H', Ext H H' → S0.ok H' r → S0.den H' u (.sl "book" (.int (k : Int)) (topT ((es.map (leafT l)).take k))) → Q u H') ∧
  (cntOf es.length sz = none → ∀ D, mg "NoPlace" = some (.ref D) → E (.ref D) none H)
theorem khead_body {cc : Addr} (T : Txt K mg cc) (A : SlA P w K mg base Fam) (KK : K_Keeper K mg CK) : ∀ (f : Addr) (cdv : Value) (A' : Around) (outer : List Env) (s : Shared) (H : Hp) (vs : List V) (Q : VK) (E : XK), Room 16 (A'.deeper (envOfC "Keeper.head" (defScope s_Keeper_head) s.heap.objs.size f cdv)) → spKHead mg CK CT Fam vs H Q E →
      ∃ t, PSs (cxOf (L2.CX P w) P w K mg base N_Keeper_head "Keeper.head" (defScope s_Keeper_head) f cdv A' outer s H E) (defBody s_Keeper_head) t ∧ t { nx := fun _ H' => Q .non H', rt := Q } (start N_Keeper_head vs) H := by
  intro f cdv A' outer s H vs Q E hr h
  have Z := T.Z
  have M_first := ok_first (CT := CT) T A KK
  have C_top_of := ok_top_of T A 10
  have C_book_seal := ok_book_seal T A
  obtain ⟨S0, p, l, t, b, v, es, sz, r, hF, rfl, hk, hok, q1, q2⟩ := h
  have G := A.good hF
  obtain ⟨dx, hp⟩ := hk.at_
  have kf := kpF_at S0.f (l : Int) t b v
  refine ⟨_, (pss_cons (ps_set (i := 2) sc_Keeper_head.nd rfl (Or.inl rfl) (pe_mtx M_first (takes_of rfl rfl rfl rfl) hr (by omega) (pv 0) (pa_cons (pv 1) pa_nil)))
  (pss_one (ps_ret (pe_c C_book_seal hr (by omega) rfl (pa_cons (pe_fld (pv 0) rfl) (pa_cons (pe_callB call_len_seq rfl Z.len PySem.boot_len (pa_cons (pv 2) pa_nil)) (pa_cons (pe_c C_top_of hr (by omega) rfl (pa_cons (pe_fld (pv 0) rfl) (pa_cons (pv 2) pa_nil))) pa_nil))))))), ?_⟩
  refine ⟨_, rfl, p, dx, _, rfl, hp, kno "first", _, rfl, S0, p, l, t, b, v, es, sz, _, hF, rfl, hk, hok, fun k hc q ys H1 x1 k1 nq hq hd => ?_, q2⟩
  have hle := cnt_le hc
  have hl := hd.len
  rw [List.length_take, List.length_map] at hl
  have h20 := hk.sz.2
  have hp1 := x1.ins hp
  have ct := costT_le k
  refine ⟨_, rfl, p, CK, dx, _, _, rfl, hp1, KK.cl, KK.n_seal, kf.1, _, rfl, q, ys, rfl, .inl (SqL.of hq), _, rfl, p, CK, dx, _, _, rfl, hp1, KK.cl, KK.n_seal, kf.1, _, rfl, S0, q, ys, _, r + 1, hF, rfl, SqL.of hq, hd, by decide, by rw [List.length_take, List.length_map]; show _ ≤ 512; omega, by rw [List.length_take, List.length_map]; omega, ?_, fun u H2 x2 ok2 d2 => ?_⟩
  · rw [List.length_take, List.length_map, Nat.min_eq_left hle]
    exact G.less (G.keep k1 hok) (by omega)
  · refine ⟨S0, .int (ys.length : Int), u, .int (ys.length : Int), _, r, hF, rfl, ok2, G.int _ ok2, d2, fun u2 H3 x3 ok3 d3 => q1 k hc u2 H3 ((x1.trans x2).trans x3) ok3 ?_⟩
    rw [hl, Nat.min_eq_left hle] at d3
    exact d3
theorem ok_khead {cc : Addr} (T : Txt K mg cc) (A : SlA P w K mg base Fam) (KK : K_Keeper K mg CK) : MetRD P w K mg base 17 CK "head" (spKHead mg CK CT Fam) [] :=
  metRD_of 2 1 KK.cl KK.m_head (by simp) rfl (fun T kV doc pm an cdv ct us its hu hi => match us, its, hu, hi with | [_, _], [_], _, _ => ⟨_, rfl, rfl⟩) sc_Keeper_head (fun vs H Q E h => by obtain ⟨S0, p, l, t, b, v, es, sz, r, _, rfl, _⟩ := h; rfl) (khead_body T A KK)
theorem ok_khead0 {cc : Addr} (T : Txt K mg cc) (A : SlA P w K mg base Fam) (KK : K_Keeper K mg CK) : MetRD P w K mg base 17 CK "head" (spKHead mg CK CT Fam) [.non] :=
  metRD_of 1 0 KK.cl KK.m_head (by simp) rfl (fun T kV doc pm an cdv ct us its hu hi => match us, its, hu, hi with | [_], [_], _, _ => ⟨_, rfl, rfl⟩) sc_Keeper_head (fun vs H Q E h => by obtain ⟨S0, p, l, t, b, v, es, sz, r, _, rfl, _⟩ := h; rfl) (khead_body T A KK)
end

/-! ### paths -/
def plen (place n : Nat) : Nat :=
  if h : n < 2 then 0 else if place < splitN n then plen place (splitN n) + 1 else plen (place - splitN n) (n - splitN n) + 1
termination_by n
decreasing_by
  · exact splitN_lt (by omega)
  · have := splitN_pos n
    omega
theorem plen_one {place n : Nat} (h : n < 2) : plen place n = 0 := by rw [plen, dif_pos h]
theorem plen_low {place n : Nat} (h : 2 ≤ n) (hp : place < splitN n) : plen place n = plen place (splitN n) + 1 := by rw [plen, dif_neg (by omega), if_pos hp]
theorem plen_high {place n : Nat} (h : 2 ≤ n) (hp : ¬ place < splitN n) : plen place n = plen (place - splitN n) (n - splitN n) + 1 := by rw [plen, dif_neg (by omega), if_neg hp]
theorem plen_le : ∀ (k place n : Nat), n ≤ 2 ^ k → plen place n ≤ k
  | k, place, n, h => by
    by_cases h2 : n < 2
    · rw [plen_one h2]
      exact Nat.zero_le _
    · cases k with
      | zero => simp at h; omega
      | succ k =>
        obtain ⟨a, b⟩ := splitN_le_pow (show 2 ≤ n by omega) h
        by_cases hp : place < splitN n
        · rw [plen_low (by omega) hp]
          have := plen_le k place (splitN n) a
          omega
        · rw [plen_high (by omega) hp]
          have := plen_le k (place - splitN n) (n - splitN n) b
          omega
def pathT (ts : List Tm) (place : Nat) : List Tm :=
  if h : ts.length < 2 then [] else
    if place < splitN ts.length then pathT (ts.take (splitN ts.length)) place ++ [topT (ts.drop (splitN ts.length))]
    else pathT (ts.drop (splitN ts.length)) (place - splitN ts.length) ++ [topT (ts.take (splitN ts.length))]
termination_by ts.length
decreasing_by
  · rw [List.length_take]
    have := splitN_lt (n := ts.length) (by omega)
    omega
  · rw [List.length_drop]
    have := splitN_pos ts.length
    omega
theorem pathT_one {ts : List Tm} {place : Nat} (h : ts.length < 2) : pathT ts place = [] := by rw [pathT, dif_pos h]
theorem pathT_low {ts : List Tm} {place : Nat} (h : 2 ≤ ts.length) (hp : place < splitN ts.length) : pathT ts place = pathT (ts.take (splitN ts.length)) place ++ [topT (ts.drop (splitN ts.length))] := by
  rw [pathT, dif_neg (by omega), if_pos hp]
theorem pathT_high {ts : List Tm} {place : Nat} (h : 2 ≤ ts.length) (hp : ¬ place < splitN ts.length) : pathT ts place = pathT (ts.drop (splitN ts.length)) (place - splitN ts.length) ++ [topT (ts.take (splitN ts.length))] := by
  rw [pathT, dif_neg (by omega), if_neg hp]
theorem pathT_len (ts : List Tm) (place : Nat) : (pathT ts place).length = plen place ts.length := by
  by_cases h : ts.length < 2
  · rw [pathT_one h, plen_one h]
    rfl
  · have hs := splitN_lt (n := ts.length) (by omega)
    have hs0 := splitN_pos ts.length
    have e1 : (ts.take (splitN ts.length)).length = splitN ts.length := by
      rw [List.length_take]
      omega
    have e2 : (ts.drop (splitN ts.length)).length = ts.length - splitN ts.length := List.length_drop
    by_cases hp : place < splitN ts.length
    · rw [pathT_low (by omega) hp, plen_low (by omega) hp, List.length_append, pathT_len, e1]
      rfl
    · rw [pathT_high (by omega) hp, plen_high (by omega) hp, List.length_append, pathT_len, e2]
      rfl
termination_by ts.length
decreasing_by
  · rw [List.length_take]; omega
  · rw [List.length_drop]; omega
theorem pathT_mem {ts : List Tm} {place : Nat} {P : Tm → Prop} (hp : ∀ us : List Tm, (∀ t ∈ us, t ∈ ts) → us.length ≤ ts.length → P (topT us)) : ∀ t ∈ pathT ts place, P t := by
  intro t ht
  rw [pathT] at ht
  split at ht
  · cases ht
  · rename_i h
    have hs := splitN_lt (n := ts.length) (by omega)
    have hs0 := splitN_pos ts.length
    split at ht
    · rcases List.mem_append.mp ht with h1 | h1
      · exact pathT_mem (fun us hu hl => hp us (fun t h => List.mem_of_mem_take (hu t h)) (by rw [List.length_take] at hl; omega)) t h1
      · rw [List.mem_singleton.mp h1]
        exact hp _ (fun t h => List.mem_of_mem_drop h) (by rw [List.length_drop]; omega)
    · rcases List.mem_append.mp ht with h1 | h1
      · exact pathT_mem (fun us hu hl => hp us (fun t h => List.mem_of_mem_drop (hu t h)) (by rw [List.length_drop] at hl; omega)) t h1
      · rw [List.mem_singleton.mp h1]
        exact hp _ (fun t h => List.mem_of_mem_take h) (by rw [List.length_take]; omega)
termination_by ts.length
decreasing_by
  · rw [List.length_drop]; omega
  · rw [List.length_take]; omega
/-- a path is asked -/
def spPath (K : PySem.W.Frag) (Fam : Sys → Prop) (k : Nat) : Sp := fun vs H Q _ => ∃ (S : Sys) (a : Addr) (xs : List V) (ts : List Tm) (place r : Nat), Fam S ∧ vs = [.ref S.f, .ref a, .int (place : Int)] ∧ SqL K H a xs ∧ DenL S H xs ts ∧ k ≠ 0 ∧ ts.length ≤ 2 ^ (k - 1) ∧ ts.length ≤ 1000 ∧ place < ts.length ∧ S.ok H (r + costT ts.length) ∧
  ∀ p ys H', Ext H H' → H p = none → H' p = some (.lst ys) → S.ok H' r → DenL S H' ys (pathT ts place) → Q (.ref p) H'
/-! ### what a leaf and a path come to -/
/-- the tops by the way from above, and whether the place lies in the first part -/
def sidesT (place n : Nat) (path : List Tm) : List (Tm × Bool) :=
  if h : n < 2 then [] else
    if place < splitN n then (path.getLastD nonT, true) :: sidesT place (splitN n) path.dropLast
    else (path.getLastD nonT, false) :: sidesT (place - splitN n) (n - splitN n) path.dropLast
termination_by n
decreasing_by
  · exact splitN_lt (by omega)
  · have := splitN_pos n
    omega
theorem sidesT_one {place n : Nat} {path : List Tm} (h : n < 2) : sidesT place n path = [] := by rw [sidesT, dif_pos h]
theorem sidesT_low {place n : Nat} {path : List Tm} (h : 2 ≤ n) (hp : place < splitN n) : sidesT place n path = (path.getLastD nonT, true) :: sidesT place (splitN n) path.dropLast := by rw [sidesT, dif_neg (by omega), if_pos hp]
theorem sidesT_high {place n : Nat} {path : List Tm} (h : 2 ≤ n) (hp : ¬ place < splitN n) : sidesT place n path = (path.getLastD nonT, false) :: sidesT (place - splitN n) (n - splitN n) path.dropLast := by rw [sidesT, dif_neg (by omega), if_neg hp]
def stepT (s : Tm × Bool) (t : Tm) : Tm := if s.2 = true then pairT t s.1 else pairT s.1 t
def riseT (leaf : Tm) (ss : List (Tm × Bool)) : Tm := ss.foldr stepT leaf
theorem riseT_cons (leaf : Tm) (s : Tm × Bool) (ss : List (Tm × Bool)) : riseT leaf (s :: ss) = stepT s (riseT leaf ss) := rfl
theorem sidesT_len (place n : Nat) (path : List Tm) : (sidesT place n path).length = plen place n := by
  by_cases h : n < 2
  · rw [sidesT_one h, plen_one h]
    rfl
  · have hs := splitN_lt (n := n) (by omega)
    have hs0 := splitN_pos n
    by_cases hp : place < splitN n
    · rw [sidesT_low (by omega) hp, plen_low (by omega) hp, List.length_cons, sidesT_len]
    · rw [sidesT_high (by omega) hp, plen_high (by omega) hp, List.length_cons, sidesT_len]
termination_by n
theorem getLastD_concat {α : Type} (l : List α) (x d : α) : (l ++ [x]).getLastD d = x := by
  rw [List.getLastD_eq_getLast?, List.getLast?_concat]
  rfl
/-- the way of a leaf of a row, by its own path, comes to the row's top -/
theorem rise_path (ts : List Tm) (place : Nat) (h : place < ts.length) : riseT (ts.getD place nonT) (sidesT place ts.length (pathT ts place)) = topT ts := by
  by_cases h2 : ts.length < 2
  · rw [sidesT_one h2, topT_single (by omega), show place = 0 by omega]
    rfl
  · have hs := splitN_lt (n := ts.length) (by omega)
    have hs0 := splitN_pos ts.length
    have e1 : (ts.take (splitN ts.length)).length = splitN ts.length := by
      rw [List.length_take]
      omega
    have e2 : (ts.drop (splitN ts.length)).length = ts.length - splitN ts.length := List.length_drop
    by_cases hp : place < splitN ts.length
    · rw [pathT_low (by omega) hp, sidesT_low (by omega) hp, getLastD_concat, List.dropLast_concat, topT_more (ts := ts) (by omega)]
      rw [riseT_cons]
      have ih := rise_path (ts.take (splitN ts.length)) place (by omega)
      rw [e1] at ih
      have eg : (ts.take (splitN ts.length)).getD place nonT = ts.getD place nonT := by
        rw [List.getD_eq_getElem?_getD, List.getD_eq_getElem?_getD, List.getElem?_take_of_lt hp]
      rw [eg] at ih
      rw [ih]
      rfl
    · rw [pathT_high (by omega) hp, sidesT_high (by omega) hp, getLastD_concat, List.dropLast_concat, topT_more (ts := ts) (by omega)]
      rw [riseT_cons]
      have ih := rise_path (ts.drop (splitN ts.length)) (place - splitN ts.length) (by omega)
      rw [e2] at ih
      have eg : (ts.drop (splitN ts.length)).getD (place - splitN ts.length) nonT = ts.getD place nonT := by
        rw [List.getD_eq_getElem?_getD, List.getD_eq_getElem?_getD, List.getElem?_drop, show splitN ts.length + (place - splitN ts.length) = place by omega]
      rw [eg] at ih
      rw [ih]
      rfl
termination_by ts.length

section
variable {P : Program} {w : World} {K : PySem.W.Frag} {mg : Str → Option Value} {base : Heap} {Fam : Sys → Prop}
theorem ok_path_of1 {cc : Addr} {k j : Nat} (T : Txt K mg cc) (A : SlA P w K mg base Fam) (C_split : Cal P w K mg base 1 "split" spSplit []) (C_top_of : ∀ k, Cal P w K mg base (k + j) "top_of" (spTop K Fam k) []) (C_path_of : Cal P w K mg base (k + j + 1) "path_of" (spPath K Fam k) []) : Cal P w K mg base (k + j + 2) "path_of" (spPath K Fam (k + 1)) [] := by
  have Z := T.Z
  have C_top_of := C_top_of (k + 1)
  refine cal_of T.d_path_of sc_path_of (fun vs H Q E h => ?_) (fun f cdv A' outer s H vs Q E hr h => ?_)
  · obtain ⟨S, a, xs, ts, old, r, _, rfl, _⟩ := h
    rfl
  obtain ⟨S, a, xs, ts, place, r, hF, rfl, hS, hD, _, hk, hl, ho, hok, q⟩ := h
  have hlen := hD.len
  have G := A.good hF
  refine ⟨_, (pss_cons (ps_if (pt_cmpR op_eq (pe_callB call_len_seq rfl Z.len PySem.boot_len (pa_cons (pv 1) pa_nil)) pe_int (nomark _)) (pss_one (ps_ret (pe_lst pa_nil))) pss_nil)
  (pss_cons (ps_set (i := 3) sc_path_of.nd rfl (Or.inl rfl) (pe_c C_split hr (by omega) rfl (pa_cons (pe_callB call_len_seq rfl Z.len PySem.boot_len (pa_cons (pv 1) pa_nil)) pa_nil)))
  (pss_cons (ps_if (pt_cmpR op_lt (pv 2) (pv 3) (nomark _)) (pss_one (ps_ret (pe_op op_cat (pe_c C_path_of hr (by omega) rfl (pa_cons (pv 0) (pa_cons (pe_slice sl_list (pv 1) po_none (po_some (pv 3))) (pa_cons (pv 2) pa_nil)))) (pe_lst (pa_cons (pe_c C_top_of hr (by omega) rfl (pa_cons (pv 0) (pa_cons (pe_slice sl_list (pv 1) (po_some (pv 3)) po_none) pa_nil))) pa_nil))))) pss_nil)
  (pss_one (ps_ret (pe_op op_cat (pe_c C_path_of hr (by omega) rfl (pa_cons (pv 0) (pa_cons (pe_slice sl_list (pv 1) (po_some (pv 3)) po_none) (pa_cons (pe_op op_sub (pv 2) (pv 3)) pa_nil)))) (pe_lst (pa_cons (pe_c C_top_of hr (by omega) rfl (pa_cons (pv 0) (pa_cons (pe_slice sl_list (pv 1) po_none (po_some (pv 3))) pa_nil))) pa_nil)))))))), ?_⟩
  -- one leaf
  refine ⟨_, rfl, a, _, rfl, .inl hS, rfl, _, rfl, ite2 (fun c => ?_) (fun c => ?_)⟩
  · have c' : (xs.length : Int) = 1 := V.int.inj (of_decide_eq_true c)
    refine ⟨Nat.zero_le _, fun p hp => ?_⟩
    refine q p [] _ (Ext.new hp) hp upd_same (G.less (G.keep (Kp.new hp) hok) (by omega)) ?_
    rw [pathT_one (by omega)]
    exact DenL.nil
  have n1 : xs.length ≠ 1 := fun z => c (decide_eq_true (by rw [z] <;> rfl))
  have h2 : 2 ≤ ts.length := by omega
  have hsl := splitN_lt h2
  have hsp := splitN_pos ts.length
  have hk1 : ts.length ≤ 2 ^ k := hk
  obtain ⟨k', rfl⟩ : ∃ k', k = k' + 1 := by
    cases k with
    | zero => simp at hk1; omega
    | succ k' => exact ⟨k', rfl⟩
  obtain ⟨b1, b2⟩ := splitN_le_pow h2 hk1
  have hcs := costT_split h2
  have lg := Nat.log2_le_self ts.length
  refine ⟨_, rfl, a, _, rfl, .inl hS, ts.length, by rw [hlen] <;> rfl, h2, by omega, ?_⟩
  have lt1 : (ts.take (splitN ts.length)).length = splitN ts.length := by
    rw [List.length_take]
    omega
  have ld1 : (ts.drop (splitN ts.length)).length = ts.length - splitN ts.length := List.length_drop
  refine ⟨_, rfl, _, rfl, _, _, rfl, rfl, _, rfl, ite2 (fun c => ?_) (fun c => ?_)⟩
  · -- in the first part
    have c' : (place : Int) < ((splitN ts.length : Nat) : Int) := of_decide_eq_true c
    refine ⟨_, rfl, _, rfl, _, rfl, ((splitN ts.length : Nat) : Int), rfl, a, _, rfl, hS, fun p hp => ?_⟩
    rw [cut_to]
    have x1 := Ext.new (o := .lst (xs.take (splitN ts.length))) hp
    have k1 := Kp.new (o := .lst (xs.take (splitN ts.length))) hp
    refine ⟨_, rfl, S, p, _, ts.take (splitN ts.length), place, r + costT (ts.length - splitN ts.length), hF, rfl, SqL.of upd_same, (hD.take _).mono G k1.gr, by omega, ?_, ?_, ?_, ?_, fun p1 ys H1 x2 np1 hp1 ok1 d1 => ?_⟩
    · rw [lt1]
      exact b1
    · omega
    · omega
    · rw [lt1]
      exact G.less (G.keep k1 hok) (by omega)
    have xx := x1.trans x2
    refine ⟨_, rfl, _, rfl, _, rfl, ((splitN ts.length : Nat) : Int), rfl, a, _, rfl, xx.seq hS, fun p2 hp2 => ?_⟩
    rw [cut_from]
    have x3 := Ext.new (o := .lst (xs.drop (splitN ts.length))) hp2
    have k3 := Kp.new (o := .lst (xs.drop (splitN ts.length))) hp2
    refine ⟨S, p2, _, ts.drop (splitN ts.length), r, hF, rfl, SqL.of upd_same, ((hD.drop _).mono G xx.gr).mono G k3.gr, by omega, ?_, ?_, ?_, fun v2 H2 x4 ok2 d2 => ?_⟩
    · rw [ld1]
      exact Nat.le_trans b2 (Nat.pow_le_pow_right (by decide) (by omega))
    · omega
    · rw [ld1]
      exact G.keep k3 ok1
    refine ⟨by show 1 ≤ sizeLine; decide, fun p3 hp3 => ?_⟩
    have e1 : H2 p1 = some (.lst ys) := x4.lst (x3.lst hp1)
    have l1 := d1.len
    rw [pathT_len, lt1] at l1
    have gl := plen_le k' place (splitN ts.length) b1
    have kk : k' ≤ 1000 := by
      have := hr.dp
      have e0 : recursionLimit = 1000 := rfl
      omega
    refine ⟨p1, p3, ys, [v2], rfl, rfl, by rw [upd_ne (ne_of_none e1 hp3)]; exact e1, upd_same, ?_, fun p4 hp4 => ?_⟩
    · rw [l1]
      show _ + 1 ≤ _
      rw [sizeLine_eq]
      omega
    have x5 := (Ext.new (o := .lst [v2]) hp3).trans (Ext.new (o := .lst (ys ++ [v2])) hp4)
    have np4 := (((xx.trans x3).trans x4).free ((Ext.new (o := .lst [v2]) hp3).free hp4))
    refine q p4 _ _ (((xx.trans x3).trans x4).trans x5) np4 upd_same (G.keep ((Kp.new hp3).trans (Kp.new hp4)) ok2) ?_
    rw [pathT_low (by omega) (by omega)]
    exact (d1.mono G ((x3.trans x4).trans x5).gr).append (DenL.one (G.mono x5.gr d2))
  · -- in the rest
    have c' : ¬ (place : Int) < ((splitN ts.length : Nat) : Int) := of_decide_eq_false (Bool.eq_false_iff.mpr c)
    refine ⟨_, rfl, _, rfl, _, rfl, ((splitN ts.length : Nat) : Int), rfl, a, _, rfl, hS, fun p hp => ?_⟩
    rw [cut_from]
    have x1 := Ext.new (o := .lst (xs.drop (splitN ts.length))) hp
    have k1 := Kp.new (o := .lst (xs.drop (splitN ts.length))) hp
    refine ⟨_, rfl, _, rfl, _, _, rfl, rfl, S, p, _, ts.drop (splitN ts.length), place - splitN ts.length, r + costT (splitN ts.length), hF, ?_, SqL.of upd_same, (hD.drop _).mono G k1.gr, by omega, ?_, ?_, ?_, ?_, fun p1 ys H1 x2 np1 hp1 ok1 d1 => ?_⟩
    · rw [show ((place - splitN ts.length : Nat) : Int) = (place : Int) - ((splitN ts.length : Nat) : Int) by omega]
      rfl
    · rw [ld1]
      exact b2
    · omega
    · omega
    · rw [ld1]
      exact G.less (G.keep k1 hok) (by omega)
    have xx := x1.trans x2
    refine ⟨_, rfl, _, rfl, _, rfl, ((splitN ts.length : Nat) : Int), rfl, a, _, rfl, xx.seq hS, fun p2 hp2 => ?_⟩
    rw [cut_to]
    have x3 := Ext.new (o := .lst (xs.take (splitN ts.length))) hp2
    have k3 := Kp.new (o := .lst (xs.take (splitN ts.length))) hp2
    refine ⟨S, p2, _, ts.take (splitN ts.length), r, hF, rfl, SqL.of upd_same, ((hD.take _).mono G xx.gr).mono G k3.gr, by omega, ?_, ?_, ?_, fun v2 H2 x4 ok2 d2 => ?_⟩
    · rw [lt1]
      exact Nat.le_trans b1 (Nat.pow_le_pow_right (by decide) (by omega))
    · omega
    · rw [lt1]
      exact G.keep k3 ok1
    refine ⟨by show 1 ≤ sizeLine; decide, fun p3 hp3 => ?_⟩
    have e1 : H2 p1 = some (.lst ys) := x4.lst (x3.lst hp1)
    have l1 := d1.len
    rw [pathT_len, ld1] at l1
    have gl := plen_le k' (place - splitN ts.length) (ts.length - splitN ts.length) b2
    have kk : k' ≤ 1000 := by
      have := hr.dp
      have e0 : recursionLimit = 1000 := rfl
      omega
    refine ⟨p1, p3, ys, [v2], rfl, rfl, by rw [upd_ne (ne_of_none e1 hp3)]; exact e1, upd_same, ?_, fun p4 hp4 => ?_⟩
    · rw [l1]
      show _ + 1 ≤ _
      rw [sizeLine_eq]
      omega
    have x5 := (Ext.new (o := .lst [v2]) hp3).trans (Ext.new (o := .lst (ys ++ [v2])) hp4)
    have np4 := (((xx.trans x3).trans x4).free ((Ext.new (o := .lst [v2]) hp3).free hp4))
    refine q p4 _ _ (((xx.trans x3).trans x4).trans x5) np4 upd_same (G.keep ((Kp.new hp3).trans (Kp.new hp4)) ok2) ?_
    rw [pathT_high (by omega) (by omega)]
    exact (d1.mono G ((x3.trans x4).trans x5).gr).append (DenL.one (G.mono x5.gr d2))
theorem ok_path_of {cc : Addr} {j : Nat} (T : Txt K mg cc) (A : SlA P w K mg base Fam) (C_split : Cal P w K mg base 1 "split" spSplit []) (C_top_of : ∀ k, Cal P w K mg base (k + j) "top_of" (spTop K Fam k) []) : ∀ k : Nat, Cal P w K mg base (k + j + 1) "path_of" (spPath K Fam k) []
  | 0 => by
    obtain ⟨f, fd, ps, ds, F, m, kp, b, v⟩ := (cal_no (P := P) (w := w) (base := base) T.d_path_of (0 + j + 1)).ex
    exact ⟨f, fd, ps, ds, F.imp fun vs H Q E h => by obtain ⟨_, _, _, _, _, _, _, _, _, _, z, _⟩ := h; exact absurd rfl z, m, kp, b, v⟩
  | k + 1 => cal_mono (ok_path_of1 T A C_split C_top_of (ok_path_of T A C_split C_top_of k)) (by omega)
end

section
variable {P : Program} {w : World} {K : PySem.W.Frag} {mg : Str → Option Value} {base : Heap} {Fam : Sys → Prop}
theorem ok__law_path1 {cc : Addr} {k j : Nat} (T : Txt K mg cc) (A : SlA P w K mg base Fam) (C__law_split : Cal P w K mg base 1 "_law_split" spSplit []) (C__law_top : ∀ k, Cal P w K mg base (k + j) "_law_top" (spTop K Fam k) []) (C__law_path : Cal P w K mg base (k + j + 1) "_law_path" (spPath K Fam k) []) : Cal P w K mg base (k + j + 2) "_law_path" (spPath K Fam (k + 1)) [] := by
  have Z := T.Z
  have C__law_top := C__law_top (k + 1)
  refine cal_of T.d__law_path sc__law_path (fun vs H Q E h => ?_) (fun f cdv A' outer s H vs Q E hr h => ?_)
  · obtain ⟨S, a, xs, ts, old, r, _, rfl, _⟩ := h
    rfl
  obtain ⟨S, a, xs, ts, place, r, hF, rfl, hS, hD, _, hk, hl, ho, hok, q⟩ := h
  have hlen := hD.len
  have G := A.good hF
  refine ⟨_, (pss_cons (ps_if (pt_cmpR op_eq (pe_callB call_len_seq rfl Z.len PySem.boot_len (pa_cons (pv 1) pa_nil)) pe_int (nomark _)) (pss_one (ps_ret (pe_lst pa_nil))) pss_nil)
  (pss_cons (ps_set (i := 3) sc__law_path.nd rfl (Or.inl rfl) (pe_c C__law_split hr (by omega) rfl (pa_cons (pe_callB call_len_seq rfl Z.len PySem.boot_len (pa_cons (pv 1) pa_nil)) pa_nil)))
  (pss_cons (ps_if (pt_cmpR op_lt (pv 2) (pv 3) (nomark _)) (pss_one (ps_ret (pe_op op_cat (pe_c C__law_path hr (by omega) rfl (pa_cons (pv 0) (pa_cons (pe_slice sl_list (pv 1) po_none (po_some (pv 3))) (pa_cons (pv 2) pa_nil)))) (pe_lst (pa_cons (pe_c C__law_top hr (by omega) rfl (pa_cons (pv 0) (pa_cons (pe_slice sl_list (pv 1) (po_some (pv 3)) po_none) pa_nil))) pa_nil))))) pss_nil)
  (pss_one (ps_ret (pe_op op_cat (pe_c C__law_path hr (by omega) rfl (pa_cons (pv 0) (pa_cons (pe_slice sl_list (pv 1) (po_some (pv 3)) po_none) (pa_cons (pe_op op_sub (pv 2) (pv 3)) pa_nil)))) (pe_lst (pa_cons (pe_c C__law_top hr (by omega) rfl (pa_cons (pv 0) (pa_cons (pe_slice sl_list (pv 1) po_none (po_some (pv 3))) pa_nil))) pa_nil)))))))), ?_⟩
  -- one leaf
  refine ⟨_, rfl, a, _, rfl, .inl hS, rfl, _, rfl, ite2 (fun c => ?_) (fun c => ?_)⟩
  · have c' : (xs.length : Int) = 1 := V.int.inj (of_decide_eq_true c)
    refine ⟨Nat.zero_le _, fun p hp => ?_⟩
    refine q p [] _ (Ext.new hp) hp upd_same (G.less (G.keep (Kp.new hp) hok) (by omega)) ?_
    rw [pathT_one (by omega)]
    exact DenL.nil
  have n1 : xs.length ≠ 1 := fun z => c (decide_eq_true (by rw [z] <;> rfl))
  have h2 : 2 ≤ ts.length := by omega
  have hsl := splitN_lt h2
  have hsp := splitN_pos ts.length
  have hk1 : ts.length ≤ 2 ^ k := hk
  obtain ⟨k', rfl⟩ : ∃ k', k = k' + 1 := by
    cases k with
    | zero => simp at hk1; omega
    | succ k' => exact ⟨k', rfl⟩
  obtain ⟨b1, b2⟩ := splitN_le_pow h2 hk1
  have hcs := costT_split h2
  have lg := Nat.log2_le_self ts.length
  refine ⟨_, rfl, a, _, rfl, .inl hS, ts.length, by rw [hlen] <;> rfl, h2, by omega, ?_⟩
  have lt1 : (ts.take (splitN ts.length)).length = splitN ts.length := by
    rw [List.length_take]
    omega
  have ld1 : (ts.drop (splitN ts.length)).length = ts.length - splitN ts.length := List.length_drop
  refine ⟨_, rfl, _, rfl, _, _, rfl, rfl, _, rfl, ite2 (fun c => ?_) (fun c => ?_)⟩
  · -- in the first part
    have c' : (place : Int) < ((splitN ts.length : Nat) : Int) := of_decide_eq_true c
    refine ⟨_, rfl, _, rfl, _, rfl, ((splitN ts.length : Nat) : Int), rfl, a, _, rfl, hS, fun p hp => ?_⟩
    rw [cut_to]
    have x1 := Ext.new (o := .lst (xs.take (splitN ts.length))) hp
    have k1 := Kp.new (o := .lst (xs.take (splitN ts.length))) hp
    refine ⟨_, rfl, S, p, _, ts.take (splitN ts.length), place, r + costT (ts.length - splitN ts.length), hF, rfl, SqL.of upd_same, (hD.take _).mono G k1.gr, by omega, ?_, ?_, ?_, ?_, fun p1 ys H1 x2 np1 hp1 ok1 d1 => ?_⟩
    · rw [lt1]
      exact b1
    · omega
    · omega
    · rw [lt1]
      exact G.less (G.keep k1 hok) (by omega)
    have xx := x1.trans x2
    refine ⟨_, rfl, _, rfl, _, rfl, ((splitN ts.length : Nat) : Int), rfl, a, _, rfl, xx.seq hS, fun p2 hp2 => ?_⟩
    rw [cut_from]
    have x3 := Ext.new (o := .lst (xs.drop (splitN ts.length))) hp2
    have k3 := Kp.new (o := .lst (xs.drop (splitN ts.length))) hp2
    refine ⟨S, p2, _, ts.drop (splitN ts.length), r, hF, rfl, SqL.of upd_same, ((hD.drop _).mono G xx.gr).mono G k3.gr, by omega, ?_, ?_, ?_, fun v2 H2 x4 ok2 d2 => ?_⟩
    · rw [ld1]
      exact Nat.le_trans b2 (Nat.pow_le_pow_right (by decide) (by omega))
    · omega
    · rw [ld1]
      exact G.keep k3 ok1
    refine ⟨by show 1 ≤ sizeLine; decide, fun p3 hp3 => ?_⟩
    have e1 : H2 p1 = some (.lst ys) := x4.lst (x3.lst hp1)
    have l1 := d1.len
    rw [pathT_len, lt1] at l1
    have gl := plen_le k' place (splitN ts.length) b1
    have kk : k' ≤ 1000 := by
      have := hr.dp
      have e0 : recursionLimit = 1000 := rfl
      omega
    refine ⟨p1, p3, ys, [v2], rfl, rfl, by rw [upd_ne (ne_of_none e1 hp3)]; exact e1, upd_same, ?_, fun p4 hp4 => ?_⟩
    · rw [l1]
      show _ + 1 ≤ _
      rw [sizeLine_eq]
      omega
    have x5 := (Ext.new (o := .lst [v2]) hp3).trans (Ext.new (o := .lst (ys ++ [v2])) hp4)
    have np4 := (((xx.trans x3).trans x4).free ((Ext.new (o := .lst [v2]) hp3).free hp4))
    refine q p4 _ _ (((xx.trans x3).trans x4).trans x5) np4 upd_same (G.keep ((Kp.new hp3).trans (Kp.new hp4)) ok2) ?_
    rw [pathT_low (by omega) (by omega)]
    exact (d1.mono G ((x3.trans x4).trans x5).gr).append (DenL.one (G.mono x5.gr d2))
  · -- in the rest
    have c' : ¬ (place : Int) < ((splitN ts.length : Nat) : Int) := of_decide_eq_false (Bool.eq_false_iff.mpr c)
    refine ⟨_, rfl, _, rfl, _, rfl, ((splitN ts.length : Nat) : Int), rfl, a, _, rfl, hS, fun p hp => ?_⟩
    rw [cut_from]
    have x1 := Ext.new (o := .lst (xs.drop (splitN ts.length))) hp
    have k1 := Kp.new (o := .lst (xs.drop (splitN ts.length))) hp
    refine ⟨_, rfl, _, rfl, _, _, rfl, rfl, S, p, _, ts.drop (splitN ts.length), place - splitN ts.length, r + costT (splitN ts.length), hF, ?_, SqL.of upd_same, (hD.drop _).mono G k1.gr, by omega, ?_, ?_, ?_, ?_, fun p1 ys H1 x2 np1 hp1 ok1 d1 => ?_⟩
    · rw [show ((place - splitN ts.length : Nat) : Int) = (place : Int) - ((splitN ts.length : Nat) : Int) by omega]
      rfl
    · rw [ld1]
      exact b2
    · omega
    · omega
    · rw [ld1]
      exact G.less (G.keep k1 hok) (by omega)
    have xx := x1.trans x2
    refine ⟨_, rfl, _, rfl, _, rfl, ((splitN ts.length : Nat) : Int), rfl, a, _, rfl, xx.seq hS, fun p2 hp2 => ?_⟩
    rw [cut_to]
    have x3 := Ext.new (o := .lst (xs.take (splitN ts.length))) hp2
    have k3 := Kp.new (o := .lst (xs.take (splitN ts.length))) hp2
    refine ⟨S, p2, _, ts.take (splitN ts.length), r, hF, rfl, SqL.of upd_same, ((hD.take _).mono G xx.gr).mono G k3.gr, by omega, ?_, ?_, ?_, fun v2 H2 x4 ok2 d2 => ?_⟩
    · rw [lt1]
      exact Nat.le_trans b1 (Nat.pow_le_pow_right (by decide) (by omega))
    · omega
    · rw [lt1]
      exact G.keep k3 ok1
    refine ⟨by show 1 ≤ sizeLine; decide, fun p3 hp3 => ?_⟩
    have e1 : H2 p1 = some (.lst ys) := x4.lst (x3.lst hp1)
    have l1 := d1.len
    rw [pathT_len, ld1] at l1
    have gl := plen_le k' (place - splitN ts.length) (ts.length - splitN ts.length) b2
    have kk : k' ≤ 1000 := by
      have := hr.dp
      have e0 : recursionLimit = 1000 := rfl
      omega
    refine ⟨p1, p3, ys, [v2], rfl, rfl, by rw [upd_ne (ne_of_none e1 hp3)]; exact e1, upd_same, ?_, fun p4 hp4 => ?_⟩
    · rw [l1]
      show _ + 1 ≤ _
      rw [sizeLine_eq]
      omega
    have x5 := (Ext.new (o := .lst [v2]) hp3).trans (Ext.new (o := .lst (ys ++ [v2])) hp4)
    have np4 := (((xx.trans x3).trans x4).free ((Ext.new (o := .lst [v2]) hp3).free hp4))
    refine q p4 _ _ (((xx.trans x3).trans x4).trans x5) np4 upd_same (G.keep ((Kp.new hp3).trans (Kp.new hp4)) ok2) ?_
    rw [pathT_high (by omega) (by omega)]
    exact (d1.mono G ((x3.trans x4).trans x5).gr).append (DenL.one (G.mono x5.gr d2))
theorem ok__law_path {cc : Addr} {j : Nat} (T : Txt K mg cc) (A : SlA P w K mg base Fam) (C__law_split : Cal P w K mg base 1 "_law_split" spSplit []) (C__law_top : ∀ k, Cal P w K mg base (k + j) "_law_top" (spTop K Fam k) []) : ∀ k : Nat, Cal P w K mg base (k + j + 1) "_law_path" (spPath K Fam k) []
  | 0 => by
    obtain ⟨f, fd, ps, ds, F, m, kp, b, v⟩ := (cal_no (P := P) (w := w) (base := base) T.d__law_path (0 + j + 1)).ex
    exact ⟨f, fd, ps, ds, F.imp fun vs H Q E h => by obtain ⟨_, _, _, _, _, _, _, _, _, _, z, _⟩ := h; exact absurd rfl z, m, kp, b, v⟩
  | k + 1 => cal_mono (ok__law_path1 T A C__law_split C__law_top (ok__law_path T A C__law_split C__law_top k)) (by omega)
end

/-! ### growths -/
def growT (ts : List Tm) (old : Nat) : List Tm :=
  if h : 0 < old ∧ old < ts.length then
    if old ≤ splitN ts.length then growT (ts.take (splitN ts.length)) old ++ [topT (ts.drop (splitN ts.length))]
    else growT (ts.drop (splitN ts.length)) (old - splitN ts.length) ++ [topT (ts.take (splitN ts.length))]
  else if old = 0 then [] else [topT ts]
termination_by ts.length
decreasing_by
  · rw [List.length_take]
    have := splitN_lt (n := ts.length) (by omega)
    omega
  · rw [List.length_drop]
    have := splitN_pos ts.length
    omega
theorem growT_zero (ts : List Tm) : growT ts 0 = [] := by rw [growT, dif_neg (by omega), if_pos rfl]
theorem growT_all {ts : List Tm} (h : ts.length ≠ 0) : growT ts ts.length = [topT ts] := by rw [growT, dif_neg (by omega), if_neg h]
theorem growT_low {ts : List Tm} {old : Nat} (h0 : 0 < old) (h1 : old < ts.length) (h : old ≤ splitN ts.length) : growT ts old = growT (ts.take (splitN ts.length)) old ++ [topT (ts.drop (splitN ts.length))] := by
  rw [growT, dif_pos ⟨h0, h1⟩, if_pos h]
theorem growT_high {ts : List Tm} {old : Nat} (h0 : 0 < old) (h1 : old < ts.length) (h : ¬ old ≤ splitN ts.length) : growT ts old = growT (ts.drop (splitN ts.length)) (old - splitN ts.length) ++ [topT (ts.take (splitN ts.length))] := by
  rw [growT, dif_pos ⟨h0, h1⟩, if_neg h]
/-- two to the k leaves: at most k + 1 tops -/
theorem growT_len : ∀ (k : Nat) (ts : List Tm) (old : Nat), ts.length ≤ 2 ^ k → (growT ts old).length ≤ k + 1
  | k, ts, old, hl => by
    by_cases h : 0 < old ∧ old < ts.length
    · obtain ⟨h0, h1⟩ := h
      have h2 : 2 ≤ ts.length := by omega
      cases k with
      | zero => simp at hl; omega
      | succ k =>
        obtain ⟨a, b⟩ := splitN_le_pow h2 hl
        by_cases q : old ≤ splitN ts.length
        · rw [growT_low h0 h1 q, List.length_append]
          have := growT_len k (ts.take (splitN ts.length)) old (by rw [List.length_take]; omega)
          simp
          omega
        · rw [growT_high h0 h1 q, List.length_append]
          have := growT_len k (ts.drop (splitN ts.length)) (old - splitN ts.length) (by rw [List.length_drop]; omega)
          simp
          omega
    · rw [growT, dif_neg h]
      split <;> simp
theorem growT_mem {ts : List Tm} {old : Nat} {P : Tm → Prop} (hp : ∀ us : List Tm, (∀ t ∈ us, t ∈ ts) → us.length ≤ ts.length → P (topT us)) : ∀ t ∈ growT ts old, P t := by
  intro t ht
  rw [growT] at ht
  split at ht
  · rename_i h
    have hs := splitN_lt (n := ts.length) (by omega)
    have hs0 := splitN_pos ts.length
    split at ht
    · rcases List.mem_append.mp ht with h1 | h1
      · exact growT_mem (fun us hu hl => hp us (fun t h => List.mem_of_mem_take (hu t h)) (by rw [List.length_take] at hl; omega)) t h1
      · rw [List.mem_singleton.mp h1]
        exact hp _ (fun t h => List.mem_of_mem_drop h) (by rw [List.length_drop]; omega)
    · rcases List.mem_append.mp ht with h1 | h1
      · exact growT_mem (fun us hu hl => hp us (fun t h => List.mem_of_mem_drop (hu t h)) (by rw [List.length_drop] at hl; omega)) t h1
      · rw [List.mem_singleton.mp h1]
        exact hp _ (fun t h => List.mem_of_mem_take h) (by rw [List.length_take]; omega)
  · split at ht
    · cases ht
    · rw [List.mem_singleton.mp ht]
      exact hp ts (fun _ h => h) (Nat.le_refl _)
termination_by ts.length
decreasing_by
  · rw [List.length_drop]; omega
  · rw [List.length_take]; omega
/-- a growth is asked: two to the k leaves at most -/
def spGrow (K : PySem.W.Frag) (Fam : Sys → Prop) (k : Nat) : Sp := fun vs H Q _ => ∃ (S : Sys) (a : Addr) (xs : List V) (ts : List Tm) (old r : Nat), Fam S ∧ vs = [.ref S.f, .ref a, .int (old : Int)] ∧ SqL K H a xs ∧ DenL S H xs ts ∧ k ≠ 0 ∧ ts.length ≤ 2 ^ (k - 1) ∧ ts.length ≤ 1000 ∧ old ≤ ts.length ∧ S.ok H (r + costT ts.length) ∧
  ∀ p ys H', Ext H H' → H p = none → H' p = some (.lst ys) → S.ok H' r → DenL S H' ys (growT ts old) → Q (.ref p) H'

section
variable {P : Program} {w : World} {K : PySem.W.Frag} {mg : Str → Option Value} {base : Heap} {Fam : Sys → Prop}
theorem ok_growth_of1 {cc : Addr} {k j : Nat} (T : Txt K mg cc) (A : SlA P w K mg base Fam) (C_split : Cal P w K mg base 1 "split" spSplit []) (C_top_of : ∀ k, Cal P w K mg base (k + j) "top_of" (spTop K Fam k) []) (C_growth_of : Cal P w K mg base (k + j + 1) "growth_of" (spGrow K Fam k) []) : Cal P w K mg base (k + j + 2) "growth_of" (spGrow K Fam (k + 1)) [] := by
  have Z := T.Z
  have C_top_of := C_top_of (k + 1)
  refine cal_of T.d_growth_of sc_growth_of (fun vs H Q E h => ?_) (fun f cdv A' outer s H vs Q E hr h => ?_)
  · obtain ⟨S, a, xs, ts, old, r, _, rfl, _⟩ := h
    rfl
  obtain ⟨S, a, xs, ts, old, r, hF, rfl, hS, hD, _, hk, hl, ho, hok, q⟩ := h
  have hlen := hD.len
  have G := A.good hF
  refine ⟨_, (pss_cons (ps_if (pt_cmpR op_eq (pv 2) pe_int (nomark _)) (pss_one (ps_ret (pe_lst pa_nil))) pss_nil)
  (pss_cons (ps_if (pt_cmpR op_eq (pv 2) (pe_callB call_len_seq rfl Z.len PySem.boot_len (pa_cons (pv 1) pa_nil)) (nomark _)) (pss_one (ps_ret (pe_lst (pa_cons (pe_c C_top_of hr (by omega) rfl (pa_cons (pv 0) (pa_cons (pv 1) pa_nil))) pa_nil)))) pss_nil)
  (pss_cons (ps_set (i := 3) sc_growth_of.nd rfl (Or.inl rfl) (pe_c C_split hr (by omega) rfl (pa_cons (pe_callB call_len_seq rfl Z.len PySem.boot_len (pa_cons (pv 1) pa_nil)) pa_nil)))
  (pss_cons (ps_if (pt_cmpR op_le (pv 2) (pv 3) (nomark _)) (pss_one (ps_ret (pe_op op_cat (pe_c C_growth_of hr (by omega) rfl (pa_cons (pv 0) (pa_cons (pe_slice sl_list (pv 1) po_none (po_some (pv 3))) (pa_cons (pv 2) pa_nil)))) (pe_lst (pa_cons (pe_c C_top_of hr (by omega) rfl (pa_cons (pv 0) (pa_cons (pe_slice sl_list (pv 1) (po_some (pv 3)) po_none) pa_nil))) pa_nil))))) pss_nil)
  (pss_one (ps_ret (pe_op op_cat (pe_c C_growth_of hr (by omega) rfl (pa_cons (pv 0) (pa_cons (pe_slice sl_list (pv 1) (po_some (pv 3)) po_none) (pa_cons (pe_op op_sub (pv 2) (pv 3)) pa_nil)))) (pe_lst (pa_cons (pe_c C_top_of hr (by omega) rfl (pa_cons (pv 0) (pa_cons (pe_slice sl_list (pv 1) po_none (po_some (pv 3))) pa_nil))) pa_nil))))))))), ?_⟩
  -- from nothing
  refine ⟨_, rfl, rfl, _, rfl, ite2 (fun c => ?_) (fun c => ?_)⟩
  · have c' : (old : Int) = 0 := V.int.inj (of_decide_eq_true c)
    have e : old = 0 := by omega
    subst e
    refine ⟨Nat.zero_le _, fun p hp => ?_⟩
    refine q p [] _ (Ext.new hp) hp upd_same (G.less (G.keep (Kp.new hp) hok) (by omega)) ?_
    rw [growT_zero]
    exact DenL.nil
  have n0 : old ≠ 0 := fun z => c (decide_eq_true (by rw [z]; rfl))
  -- all of it
  refine ⟨_, rfl, _, rfl, a, _, rfl, .inl hS, rfl, _, rfl, ite2 (fun c => ?_) (fun c => ?_)⟩
  · have c' : (old : Int) = (xs.length : Int) := V.int.inj (of_decide_eq_true c)
    have e : old = ts.length := by omega
    subst e
    refine ⟨_, rfl, _, rfl, S, a, xs, ts, r, hF, rfl, hS, hD, by omega, hk, hl, hok, fun v H1 x1 ok1 d1 => ?_⟩
    refine ⟨by show 1 ≤ sizeLine; decide, fun p hp => ?_⟩
    refine q p [v] _ (x1.trans (Ext.new hp)) (x1.free hp) upd_same (G.keep (Kp.new hp) ok1) ?_
    rw [growT_all n0]
    exact DenL.one (G.mono (Kp.new hp).gr d1)
  have n1 : old ≠ ts.length := fun z => c (decide_eq_true (by rw [z, hlen] <;> rfl))
  have h2 : 2 ≤ ts.length := by omega
  have hsl := splitN_lt h2
  have hsp := splitN_pos ts.length
  have hk1 : ts.length ≤ 2 ^ k := hk
  obtain ⟨k', rfl⟩ : ∃ k', k = k' + 1 := by
    cases k with
    | zero => simp at hk1; omega
    | succ k' => exact ⟨k', rfl⟩
  obtain ⟨b1, b2⟩ := splitN_le_pow h2 hk1
  have hcs := costT_split h2
  have lg := Nat.log2_le_self ts.length
  refine ⟨_, rfl, a, _, rfl, .inl hS, ts.length, by rw [hlen] <;> rfl, h2, by omega, ?_⟩
  have lt1 : (ts.take (splitN ts.length)).length = splitN ts.length := by
    rw [List.length_take]
    omega
  have ld1 : (ts.drop (splitN ts.length)).length = ts.length - splitN ts.length := List.length_drop
  refine ⟨_, rfl, _, rfl, _, _, rfl, rfl, _, rfl, ite2 (fun c => ?_) (fun c => ?_)⟩
  · -- in the first part
    have c' : (old : Int) ≤ ((splitN ts.length : Nat) : Int) := of_decide_eq_true c
    refine ⟨_, rfl, _, rfl, _, rfl, ((splitN ts.length : Nat) : Int), rfl, a, _, rfl, hS, fun p hp => ?_⟩
    rw [cut_to]
    have x1 := Ext.new (o := .lst (xs.take (splitN ts.length))) hp
    have k1 := Kp.new (o := .lst (xs.take (splitN ts.length))) hp
    refine ⟨_, rfl, S, p, _, ts.take (splitN ts.length), old, r + costT (ts.length - splitN ts.length), hF, rfl, SqL.of upd_same, (hD.take _).mono G k1.gr, by omega, ?_, ?_, ?_, ?_, fun p1 ys H1 x2 np1 hp1 ok1 d1 => ?_⟩
    · rw [lt1]
      exact b1
    · omega
    · omega
    · rw [lt1]
      exact G.less (G.keep k1 hok) (by omega)
    have xx := x1.trans x2
    refine ⟨_, rfl, _, rfl, _, rfl, ((splitN ts.length : Nat) : Int), rfl, a, _, rfl, xx.seq hS, fun p2 hp2 => ?_⟩
    rw [cut_from]
    have x3 := Ext.new (o := .lst (xs.drop (splitN ts.length))) hp2
    have k3 := Kp.new (o := .lst (xs.drop (splitN ts.length))) hp2
    refine ⟨S, p2, _, ts.drop (splitN ts.length), r, hF, rfl, SqL.of upd_same, ((hD.drop _).mono G xx.gr).mono G k3.gr, by omega, ?_, ?_, ?_, fun v2 H2 x4 ok2 d2 => ?_⟩
    · rw [ld1]
      exact Nat.le_trans b2 (Nat.pow_le_pow_right (by decide) (by omega))
    · omega
    · rw [ld1]
      exact G.keep k3 ok1
    refine ⟨by show 1 ≤ sizeLine; decide, fun p3 hp3 => ?_⟩
    have e1 : H2 p1 = some (.lst ys) := x4.lst (x3.lst hp1)
    have l1 := d1.len
    have gl := growT_len k' (ts.take (splitN ts.length)) old (by rw [lt1]; exact b1)
    have kk : k' ≤ 1000 := by
      have := hr.dp
      have e0 : recursionLimit = 1000 := rfl
      omega
    refine ⟨p1, p3, ys, [v2], rfl, rfl, by rw [upd_ne (ne_of_none e1 hp3)]; exact e1, upd_same, ?_, fun p4 hp4 => ?_⟩
    · rw [l1]
      show _ + 1 ≤ _
      rw [sizeLine_eq]
      omega
    have x5 := (Ext.new (o := .lst [v2]) hp3).trans (Ext.new (o := .lst (ys ++ [v2])) hp4)
    have np4 := (((xx.trans x3).trans x4).free ((Ext.new (o := .lst [v2]) hp3).free hp4))
    refine q p4 _ _ (((xx.trans x3).trans x4).trans x5) np4 upd_same (G.keep ((Kp.new hp3).trans (Kp.new hp4)) ok2) ?_
    rw [growT_low (by omega) (by omega) (by omega)]
    exact (d1.mono G ((x3.trans x4).trans x5).gr).append (DenL.one (G.mono x5.gr d2))
  · -- in the rest
    have c' : ¬ (old : Int) ≤ ((splitN ts.length : Nat) : Int) := of_decide_eq_false (Bool.eq_false_iff.mpr c)
    refine ⟨_, rfl, _, rfl, _, rfl, ((splitN ts.length : Nat) : Int), rfl, a, _, rfl, hS, fun p hp => ?_⟩
    rw [cut_from]
    have x1 := Ext.new (o := .lst (xs.drop (splitN ts.length))) hp
    have k1 := Kp.new (o := .lst (xs.drop (splitN ts.length))) hp
    refine ⟨_, rfl, _, rfl, _, _, rfl, rfl, S, p, _, ts.drop (splitN ts.length), old - splitN ts.length, r + costT (splitN ts.length), hF, ?_, SqL.of upd_same, (hD.drop _).mono G k1.gr, by omega, ?_, ?_, ?_, ?_, fun p1 ys H1 x2 np1 hp1 ok1 d1 => ?_⟩
    · rw [show ((old - splitN ts.length : Nat) : Int) = (old : Int) - ((splitN ts.length : Nat) : Int) by omega]
      rfl
    · rw [ld1]
      exact b2
    · omega
    · omega
    · rw [ld1]
      exact G.less (G.keep k1 hok) (by omega)
    have xx := x1.trans x2
    refine ⟨_, rfl, _, rfl, _, rfl, ((splitN ts.length : Nat) : Int), rfl, a, _, rfl, xx.seq hS, fun p2 hp2 => ?_⟩
    rw [cut_to]
    have x3 := Ext.new (o := .lst (xs.take (splitN ts.length))) hp2
    have k3 := Kp.new (o := .lst (xs.take (splitN ts.length))) hp2
    refine ⟨S, p2, _, ts.take (splitN ts.length), r, hF, rfl, SqL.of upd_same, ((hD.take _).mono G xx.gr).mono G k3.gr, by omega, ?_, ?_, ?_, fun v2 H2 x4 ok2 d2 => ?_⟩
    · rw [lt1]
      exact Nat.le_trans b1 (Nat.pow_le_pow_right (by decide) (by omega))
    · omega
    · rw [lt1]
      exact G.keep k3 ok1
    refine ⟨by show 1 ≤ sizeLine; decide, fun p3 hp3 => ?_⟩
    have e1 : H2 p1 = some (.lst ys) := x4.lst (x3.lst hp1)
    have l1 := d1.len
    have gl := growT_len k' (ts.drop (splitN ts.length)) (old - splitN ts.length) (by rw [ld1]; exact b2)
    have kk : k' ≤ 1000 := by
      have := hr.dp
      have e0 : recursionLimit = 1000 := rfl
      omega
    refine ⟨p1, p3, ys, [v2], rfl, rfl, by rw [upd_ne (ne_of_none e1 hp3)]; exact e1, upd_same, ?_, fun p4 hp4 => ?_⟩
    · rw [l1]
      show _ + 1 ≤ _
      rw [sizeLine_eq]
      omega
    have x5 := (Ext.new (o := .lst [v2]) hp3).trans (Ext.new (o := .lst (ys ++ [v2])) hp4)
    have np4 := (((xx.trans x3).trans x4).free ((Ext.new (o := .lst [v2]) hp3).free hp4))
    refine q p4 _ _ (((xx.trans x3).trans x4).trans x5) np4 upd_same (G.keep ((Kp.new hp3).trans (Kp.new hp4)) ok2) ?_
    rw [growT_high (by omega) (by omega) (by omega)]
    exact (d1.mono G ((x3.trans x4).trans x5).gr).append (DenL.one (G.mono x5.gr d2))
theorem ok_growth_of {cc : Addr} {j : Nat} (T : Txt K mg cc) (A : SlA P w K mg base Fam) (C_split : Cal P w K mg base 1 "split" spSplit []) (C_top_of : ∀ k, Cal P w K mg base (k + j) "top_of" (spTop K Fam k) []) : ∀ k : Nat, Cal P w K mg base (k + j + 1) "growth_of" (spGrow K Fam k) []
  | 0 => by
    obtain ⟨f, fd, ps, ds, F, m, kp, b, v⟩ := (cal_no (P := P) (w := w) (base := base) T.d_growth_of (0 + j + 1)).ex
    exact ⟨f, fd, ps, ds, F.imp fun vs H Q E h => by obtain ⟨_, _, _, _, _, _, _, _, _, _, z, _⟩ := h; exact absurd rfl z, m, kp, b, v⟩
  | k + 1 => cal_mono (ok_growth_of1 T A C_split C_top_of (ok_growth_of T A C_split C_top_of k)) (by omega)
end

section
variable {P : Program} {w : World} {K : PySem.W.Frag} {mg : Str → Option Value} {S : Sys}
theorem EndV.gr {H H' : Hp} {e : V} {rows : List (Int × Str)} (h : EndV H e rows) (x : Gr H H') : EndV H' e rows := by
  rcases h with h | ⟨y, qe, h1, h2, h3, h4⟩
  · exact .inl h
  · exact .inr ⟨y, qe, h1, h2, x.keep _ _ h3 True.intro (fun _ z => nomatch z), h4⟩
theorem WayV.ext (G : S.Good K) {H0 H H' : Hp} {v : V} {wt : List Tm × List (Int × Str)} (h : WayV S H0 H v wt) (x : Ext H H') : WayV S H0 H' v wt := by
  obtain ⟨q, o, e, ys, h1, h2, h3, h4, h5, h6, h7⟩ := h.ex
  exact ⟨q, o, e, ys, h1, x.tup h2, h3, h4, x.lst h5, h6.mono G x.gr, h7.gr x.gr⟩
theorem way_dp (G : S.Good K) {H0 H0' H : Hp} {v v' : V} {wt : List Tm × List (Int × Str)} (h : WayV S H0 H v wt) (h' : WayV S H0' H v' wt) (hd : ∀ t ∈ wt.1, t.dep ≤ 50) :
    ∃ d, Dp K H v d ∧ Dp K H v' d ∧ SeqAt.shaped d = true ∧ PyData.eqv d d = true := by
  obtain ⟨q, o, e, ys, rfl, h2, _, _, h5, h6, h7⟩ := h.ex
  obtain ⟨q', o', e', ys', rfl, h2', _, _, h5', h6', h7'⟩ := h'.ex
  obtain ⟨ds, a, b, c, dl⟩ := DenL.same G h6 h6' hd
  obtain ⟨de, f1, f2, f3, f4⟩ : ∃ de, Dp K H e de ∧ Dp K H e' de ∧ de.canLay0 = true ∧ de.depth ≤ 1 := by
    rcases h7 with ⟨g1, rfl⟩ | ⟨y, qe, g1, rfl, g3, g4⟩
    · rcases h7' with ⟨_, rfl⟩ | ⟨y', qe', g1', _⟩
      · exact ⟨.none, .non, .non, rfl, Nat.zero_le _⟩
      · rw [g1] at g1'; cases g1'
    · rcases h7' with ⟨g1', _⟩ | ⟨y', qe', g1', rfl, g3', g4'⟩
      · rw [g1] at g1'; cases g1'
      · rw [g1] at g1'
        cases g1'
        refine ⟨.tuple [.int y.1, .str y.2], .tup (SqT.of g3) (.cons (.int _) (.cons (.str _) .nil)), .tup (SqT.of g3') (.cons (.int _) (.cons (.str _) .nil)), ?_, by show max 0 (max 0 0) + 1 ≤ 1; decide⟩
        show (true && (txtOk y.2 && true)) = true
        rw [g4]
        rfl
  have lay : (PyData.tuple [.list ds, de]).canLay0 = true := by
    show (PyData.canLayAll0 ds && (de.canLay0 && true)) = true
    rw [c, f3]
    rfl
  have dep : (PyData.tuple [.list ds, de]).depth ≤ 64 := by
    show max (PyData.depthAll ds + 1) (max de.depth 0) + 1 ≤ 64
    omega
  exact ⟨.tuple [.list ds, de], .tup (SqT.of h2) (.cons (.lst (SqL.of h5) a) (.cons f1 .nil)), .tup (SqT.of h2') (.cons (.lst (SqL.of h5') b) (.cons f2 .nil)), shaped_of lay dep, eqv_self lay⟩
/-- keys of the depth -/
def InL (l : Nat) (ks : List Int) : Prop := ∀ k ∈ ks, 0 ≤ k ∧ k < 2 ^ l
theorem xor1_in {l : Nat} {k : Int} (h1 : 1 ≤ l) (h : 0 ≤ k ∧ k < 2 ^ l) : 0 ≤ Builtin.bitXor k 1 ∧ Builtin.bitXor k 1 < 2 ^ l := by
  obtain ⟨n, rfl⟩ := Int.eq_ofNat_of_zero_le h.1
  rw [Bits.bitXor_pp h.1 (by decide)]
  refine ⟨Int.natCast_nonneg _, ?_⟩
  have e : ((2 ^ l : Nat) : Int) = 2 ^ l := by rw [Int.natCast_pow]; rfl
  have h2 : n < 2 ^ l := by have := h.2; omega
  have h3 : (1 : Nat) < 2 ^ l := Nat.one_lt_two_pow (by omega)
  have := Nat.xor_lt_two_pow h2 h3
  rw [← e]
  show (((n : Int).toNat ^^^ (1 : Int).toNat : Nat) : Int) < _
  rw [Int.toNat_natCast]
  exact Int.ofNat_lt.mpr this
theorem cut_mem {xs : List V} {lo hi : Option Int} {x : V} (h : x ∈ cutV xs lo hi) : x ∈ xs := by
  unfold cutV at h
  exact List.mem_of_mem_drop (List.mem_of_mem_take h)
end

section
variable {P : Program} {w : World} {K : PySem.W.Frag} {mg : Str → Option Value} {base : Heap} {Fam : Sys → Prop} {CK CT : Addr}
def plIn (n : Nat) (sz : Option Int) (i : Int) : Prop := ∃ k, cntOf n sz = some k ∧ 0 ≤ i ∧ i < (k : Int)
def spKPath (mg : Str → Option Value) (CK CT : Addr) (Fam : Sys → Prop) : Sp := fun vs H Q E => ∃ (S0 : Sys) (p : Addr) (l : Nat) (t b v : Addr) (es : List En) (i : Int) (sz : Option Int) (r : Nat), Fam S0 ∧ vs = [.ref p, .int i, szV sz] ∧ KpAt CK CT S0 H p l t b v es ∧ S0.ok H (r + 320) ∧
  (∀ k n, cntOf es.length sz = some k → i = ((n : Nat) : Int) → n < k → ∀ q ys H', Ext H H' → H q = none → H' q = some (.lst ys) → S0.ok H' r → DenL S0 H' ys (pathT ((es.map (leafT l)).take k) n) → Q (.ref q) H') ∧
  (¬ plIn es.length sz i → ∀ D, mg "NoPlace" = some (.ref D) → ∀ H', Ext H H' → S0.ok H' r → E (.ref D) none H')
theorem kpath_body {cc : Addr} (T : Txt K mg cc) (A : SlA P w K mg base Fam) (KK : K_Keeper K mg CK) : ∀ (f : Addr) (cdv : Value) (A' : Around) (outer : List Env) (s : Shared) (H : Hp) (vs : List V) (Q : VK) (E : XK), Room 16 (A'.deeper (envOfC "Keeper.path" (defScope s_Keeper_path) s.heap.objs.size f cdv)) → spKPath mg CK CT Fam vs H Q E →
      ∃ t, PSs (cxOf (L2.CX P w) P w K mg base N_Keeper_path "Keeper.path" (defScope s_Keeper_path) f cdv A' outer s H E) (defBody s_Keeper_path) t ∧ t { nx := fun _ H' => Q .non H', rt := Q } (start N_Keeper_path vs) H := by
  intro f cdv A' outer s H vs Q E hr h
  have Z := T.Z
  have M_first := ok_first (CT := CT) T A KK
  have M_within := ok_within (P := P) (w := w) (base := base) T KK
  have C_path_of := ok_path_of T A (ok_split T) (ok_top_of T A) 10
  obtain ⟨S0, p, l, t, b, v, es, i, sz, r, hF, rfl, hk, hok, q1, q2⟩ := h
  have G := A.good hF
  obtain ⟨dx, hp⟩ := hk.at_
  have kf := kpF_at S0.f (l : Int) t b v
  refine ⟨_, (pss_cons (ps_set (i := 3) sc_Keeper_path.nd rfl (Or.inl rfl) (pe_mtx M_first (takes_of rfl rfl rfl rfl) hr (by omega) (pv 0) (pa_cons (pv 2) pa_nil)))
  (pss_cons (ps_expr (pe_mtx M_within (takes_of rfl rfl rfl rfl) hr (by omega) (pv 0) (pa_cons (pv 1) (pa_cons (pe_callB call_len_seq rfl Z.len PySem.boot_len (pa_cons (pv 3) pa_nil)) pa_nil))))
  (pss_one (ps_ret (pe_c C_path_of hr (by omega) rfl (pa_cons (pe_fld (pv 0) rfl) (pa_cons (pv 3) (pa_cons (pv 1) pa_nil)))))))), ?_⟩
  refine ⟨_, rfl, p, dx, _, rfl, hp, kno "first", _, rfl, S0, p, l, t, b, v, es, sz, _, hF, rfl, hk, hok, fun k hc q ys H1 x1 k1 nq hq hd => ?_, fun hc D hD => q2 (fun ⟨k, z, _⟩ => by rw [hc] at z; cases z) D hD H (Ext.refl _) (G.less hok (by omega))⟩
  have hle := cnt_le hc
  have hl := hd.len
  rw [List.length_take, List.length_map, Nat.min_eq_left hle] at hl
  have h20 := hk.sz.2
  have hp1 := x1.ins hp
  have ct := costT_le k
  have ltk : ((es.map (leafT l)).take k).length = k := by rw [List.length_take, List.length_map, Nat.min_eq_left hle]
  refine ⟨_, rfl, p, dx, _, rfl, hp1, kno "within", _, rfl, _, rfl, q, ys, rfl, .inl (SqL.of hq), .ref p, i, _, rfl, fun hin => ?_, fun hout D hD => q2 (fun ⟨k', z, z1, z2⟩ => hout ?_) D hD H1 x1 (G.less (G.keep k1 hok) (by omega))⟩
  · obtain ⟨n, rfl⟩ := Int.eq_ofNat_of_zero_le hin.1
    have hnk : n < k := by omega
    refine ⟨_, rfl, p, CK, dx, _, _, rfl, hp1, KK.cl, KK.n_seal, kf.1, _, rfl, _, rfl, S0, q, ys, _, n, r, hF, rfl, SqL.of hq, hd, by decide, by rw [ltk]; show _ ≤ 512; omega, by omega, by omega, by rw [ltk]; exact G.less (G.keep k1 hok) (by omega), fun q3 zs H2 x2 nq3 hq3 ok2 d2 => ?_⟩
    exact q1 k n hc rfl hnk q3 zs H2 (x1.trans x2) (x1.free nq3) hq3 ok2 d2
  · rw [hc] at z
    cases z
    omega
theorem ok_kpath {cc : Addr} (T : Txt K mg cc) (A : SlA P w K mg base Fam) (KK : K_Keeper K mg CK) : MetRD P w K mg base 17 CK "path" (spKPath mg CK CT Fam) [] :=
  metRD_of 3 1 KK.cl KK.m_path (by simp) rfl (fun T kV doc pm an cdv ct us its hu hi => match us, its, hu, hi with | [_, _, _], [_], _, _ => ⟨_, rfl, rfl⟩) sc_Keeper_path (fun vs H Q E h => by obtain ⟨S0, p, l, t, b, v, es, i, sz, r, _, rfl, _⟩ := h; rfl) (kpath_body T A KK)
theorem ok_kpath0 {cc : Addr} (T : Txt K mg cc) (A : SlA P w K mg base Fam) (KK : K_Keeper K mg CK) : MetRD P w K mg base 17 CK "path" (spKPath mg CK CT Fam) [.non] :=
  metRD_of 2 0 KK.cl KK.m_path (by simp) rfl (fun T kV doc pm an cdv ct us its hu hi => match us, its, hu, hi with | [_, _], [_], _, _ => ⟨_, rfl, rfl⟩) sc_Keeper_path (fun vs H Q E h => by obtain ⟨S0, p, l, t, b, v, es, i, sz, r, _, rfl, _⟩ := h; rfl) (kpath_body T A KK)
def olIn (n : Nat) (sz : Option Int) (i : Int) : Prop := ∃ k, cntOf n sz = some k ∧ 0 ≤ i ∧ i ≤ (k : Int)
def spKGrow (mg : Str → Option Value) (CK CT : Addr) (Fam : Sys → Prop) : Sp := fun vs H Q E => ∃ (S0 : Sys) (p : Addr) (l : Nat) (t b v : Addr) (es : List En) (i : Int) (sz : Option Int) (r : Nat), Fam S0 ∧ vs = [.ref p, .int i, szV sz] ∧ KpAt CK CT S0 H p l t b v es ∧ S0.ok H (r + 320) ∧
  (∀ k n, cntOf es.length sz = some k → i = ((n : Nat) : Int) → n ≤ k → ∀ q ys H', Ext H H' → H q = none → H' q = some (.lst ys) → S0.ok H' r → DenL S0 H' ys (growT ((es.map (leafT l)).take k) n) → Q (.ref q) H') ∧
  (¬ olIn es.length sz i → ∀ D, mg "NoPlace" = some (.ref D) → ∀ H', Ext H H' → S0.ok H' r → E (.ref D) none H')
theorem kgrow_body {cc : Addr} (T : Txt K mg cc) (A : SlA P w K mg base Fam) (KK : K_Keeper K mg CK) : ∀ (f : Addr) (cdv : Value) (A' : Around) (outer : List Env) (s : Shared) (H : Hp) (vs : List V) (Q : VK) (E : XK), Room 16 (A'.deeper (envOfC "Keeper.growth" (defScope s_Keeper_growth) s.heap.objs.size f cdv)) → spKGrow mg CK CT Fam vs H Q E →
      ∃ t, PSs (cxOf (L2.CX P w) P w K mg base N_Keeper_growth "Keeper.growth" (defScope s_Keeper_growth) f cdv A' outer s H E) (defBody s_Keeper_growth) t ∧ t { nx := fun _ H' => Q .non H', rt := Q } (start N_Keeper_growth vs) H := by
  intro f cdv A' outer s H vs Q E hr h
  have Z := T.Z
  have M_first := ok_first (CT := CT) T A KK
  have M_within := ok_within (P := P) (w := w) (base := base) T KK
  have C_growth_of := ok_growth_of T A (ok_split T) (ok_top_of T A) 10
  obtain ⟨S0, p, l, t, b, v, es, i, sz, r, hF, rfl, hk, hok, q1, q2⟩ := h
  have G := A.good hF
  obtain ⟨dx, hp⟩ := hk.at_
  have kf := kpF_at S0.f (l : Int) t b v
  refine ⟨_, (pss_cons (ps_set (i := 3) sc_Keeper_growth.nd rfl (Or.inl rfl) (pe_mtx M_first (takes_of rfl rfl rfl rfl) hr (by omega) (pv 0) (pa_cons (pv 2) pa_nil)))
  (pss_cons (ps_expr (pe_mtx M_within (takes_of rfl rfl rfl rfl) hr (by omega) (pv 0) (pa_cons (pv 1) (pa_cons (pe_op op_add (pe_callB call_len_seq rfl Z.len PySem.boot_len (pa_cons (pv 3) pa_nil)) pe_int) pa_nil))))
  (pss_one (ps_ret (pe_c C_growth_of hr (by omega) rfl (pa_cons (pe_fld (pv 0) rfl) (pa_cons (pv 3) (pa_cons (pv 1) pa_nil)))))))), ?_⟩
  refine ⟨_, rfl, p, dx, _, rfl, hp, kno "first", _, rfl, S0, p, l, t, b, v, es, sz, _, hF, rfl, hk, hok, fun k hc q ys H1 x1 k1 nq hq hd => ?_, fun hc D hD => q2 (fun ⟨k, z, _⟩ => by rw [hc] at z; cases z) D hD H (Ext.refl _) (G.less hok (by omega))⟩
  have hle := cnt_le hc
  have hl := hd.len
  rw [List.length_take, List.length_map, Nat.min_eq_left hle] at hl
  have h20 := hk.sz.2
  have hp1 := x1.ins hp
  have ct := costT_le k
  have ltk : ((es.map (leafT l)).take k).length = k := by rw [List.length_take, List.length_map, Nat.min_eq_left hle]
  refine ⟨_, rfl, p, dx, _, rfl, hp1, kno "within", _, rfl, _, rfl, q, ys, rfl, .inl (SqL.of hq), _, _, rfl, rfl, .ref p, i, _, rfl, fun hin => ?_, fun hout D hD => q2 (fun ⟨k', z, z1, z2⟩ => hout ?_) D hD H1 x1 (G.less (G.keep k1 hok) (by omega))⟩
  · obtain ⟨n, rfl⟩ := Int.eq_ofNat_of_zero_le hin.1
    have hnk : n ≤ k := by omega
    refine ⟨_, rfl, p, CK, dx, _, _, rfl, hp1, KK.cl, KK.n_seal, kf.1, _, rfl, _, rfl, S0, q, ys, _, n, r, hF, rfl, SqL.of hq, hd, by decide, by rw [ltk]; show _ ≤ 512; omega, by omega, by omega, by rw [ltk]; exact G.less (G.keep k1 hok) (by omega), fun q3 zs H2 x2 nq3 hq3 ok2 d2 => ?_⟩
    exact q1 k n hc rfl hnk q3 zs H2 (x1.trans x2) (x1.free nq3) hq3 ok2 d2
  · rw [hc] at z
    cases z
    omega
theorem ok_kgrow {cc : Addr} (T : Txt K mg cc) (A : SlA P w K mg base Fam) (KK : K_Keeper K mg CK) : MetRD P w K mg base 17 CK "growth" (spKGrow mg CK CT Fam) [] :=
  metRD_of 3 1 KK.cl KK.m_growth (by simp) rfl (fun T kV doc pm an cdv ct us its hu hi => match us, its, hu, hi with | [_, _, _], [_], _, _ => ⟨_, rfl, rfl⟩) sc_Keeper_growth (fun vs H Q E h => by obtain ⟨S0, p, l, t, b, v, es, i, sz, r, _, rfl, _⟩ := h; rfl) (kgrow_body T A KK)
theorem ok_kgrow0 {cc : Addr} (T : Txt K mg cc) (A : SlA P w K mg base Fam) (KK : K_Keeper K mg CK) : MetRD P w K mg base 17 CK "growth" (spKGrow mg CK CT Fam) [.non] :=
  metRD_of 2 0 KK.cl KK.m_growth (by simp) rfl (fun T kV doc pm an cdv ct us its hu hi => match us, its, hu, hi with | [_, _], [_], _, _ => ⟨_, rfl, rfl⟩) sc_Keeper_growth (fun vs H Q E h => by obtain ⟨S0, p, l, t, b, v, es, i, sz, r, _, rfl, _⟩ := h; rfl) (kgrow_body T A KK)
end

section
variable {P : Program} {w : World} {K : PySem.W.Frag} {mg : Str → Option Value} {base : Heap} {Fam : Sys → Prop} {CK CT : Addr}
theorem WayV.back {S0 : Sys} {H0 H H' : Hp} {v : V} {wt : List Tm × List (Int × Str)} (h : WayV S0 H H' v wt) (x : Ext H0 H) : WayV S0 H0 H' v wt := by
  obtain ⟨q, o, e, ys, h1, h2, h3, h4, h5⟩ := h.ex
  exact ⟨q, o, e, ys, h1, h2, x.free h3, x.free h4, h5⟩
def spKWay (mg : Str → Option Value) (CK CT : Addr) (Fam : Sys → Prop) : Sp := fun vs H Q E => ∃ (S0 : Sys) (p : Addr) (l : Nat) (t b v : Addr) (es : List En) (i k : Int) (r : Nat), Fam S0 ∧ vs = [.ref p, .int i, .int k] ∧ KpAt CK CT S0 H p l t b v es ∧ S0.ok H (r + 4000) ∧
  (∀ (n : Nat) e, i = (n : Int) → es[n]? = some e → 0 ≤ k → k < 2 ^ l → ∀ u H', Ext H H' → S0.ok H' r → WayV S0 H H' u (wayT l (srtI e.2) k) → Q u H') ∧
  (¬ ((0 ≤ i ∧ i < (es.length : Int)) ∧ 0 ≤ k ∧ k < 2 ^ l) → ∀ D, mg "NoPlace" = some (.ref D) → E (.ref D) none H)
theorem ok_kway {cc : Addr} (T : Txt K mg cc) (A : SlA P w K mg base Fam) (KT : K_Table K mg CT) (KK : K_Keeper K mg CK) : MetR P w K mg base 26 CK "way" (spKWay mg CK CT Fam) := by
  have Z := T.Z
  have M_within := ok_within (P := P) (w := w) (base := base) T KK
  have M_way := (ok_wayN T A KT).weak
  refine metR_of KK.cl KK.m_way sc_Keeper_way (fun vs H Q E h => ?_) (fun f cdv A' outer s H vs Q E hr h => ?_)
  · obtain ⟨S0, p, l, t, b, v, es, i, k, r, _, rfl, _⟩ := h
    rfl
  obtain ⟨S0, p, l, t, b, v, es, i, k, r, hF, rfl, hk, hok, q1, q2⟩ := h
  have G := A.good hF
  obtain ⟨dx, hp⟩ := hk.at_
  obtain ⟨qs, hb, hql, hq⟩ := hk.tb
  have kf := kpF_at S0.f (l : Int) t b v
  refine ⟨_, (pss_cons (ps_expr (pe_mtx M_within (takes_of rfl rfl rfl rfl) hr (by omega) (pv 0) (pa_cons (pv 1) (pa_cons (pe_callB call_len_seq rfl Z.len PySem.boot_len (pa_cons (pe_fld (pv 0) rfl) pa_nil)) pa_nil))))
  (pss_one (ps_ret (pe_mtx M_way (takes_of rfl rfl rfl rfl) hr (by omega) (pe_ix ix_list (pe_fld (pv 0) rfl) (pv 1) (fun _ _ => rfl)) (pa_cons (pv 2) pa_nil))))), ?_⟩
  refine ⟨_, rfl, p, dx, _, rfl, hp, kno "within", _, rfl, _, rfl, p, CK, dx, _, _, rfl, hp, KK.cl, KK.n_texts, kf.2.2.1, t, _, rfl, .inl (SqL.of hk.tx), .ref p, i, _, rfl, fun hin => ?_, fun hout D hD => q2 (fun z => hout (by rw [List.length_map]; exact z.1)) D hD⟩
  rw [List.length_map] at hin
  obtain ⟨n, e, rfl, he⟩ := get_in hin
  have hn := (List.getElem?_eq_some_iff.mp he).1
  have hqn : qs[n]? = some (qs[n]'(by omega)) := List.getElem?_eq_getElem _
  generalize qs[n]'(by omega) = qn at hqn
  obtain ⟨d, kv, pm, tb⟩ := hq n qn e hqn he
  obtain ⟨⟨dx', hp'⟩, _, _⟩ := id tb
  obtain ⟨hke, hkl, _⟩ := hk.ok e (List.mem_of_getElem? he)
  have cp := costP_le hk.sz.1 (show kv.length ≤ 120 by rw [pm.length_eq]; omega)
  refine ⟨_, rfl, p, CK, dx, _, _, rfl, hp, KK.cl, KK.n_tables, kf.2.2.2.1, _, rfl, b, _, _, _, rfl, rfl, SqL.of hb, atI_nat (by rw [List.getElem?_map, hqn]; rfl), qn, dx', _, rfl, hp', (tbF_no _ _ _).2.2.2.2.2.2.1, _, rfl, S0, qn, d, l, kv, k, r, hF, rfl, tb, hke.perm pm, by have := hk.sz.1; omega, G.less hok (by omega), fun hin2 u rows H' x ok pr pw du => ?_, fun hout D hD => q2 (fun z => hout z.2) D hD⟩
  rw [srt_eq hke pm pr pw] at du
  exact q1 n e rfl he hin2.1 hin2.2 u H' x ok du
/-- a paper -/
structure PapV (S0 : Sys) (H H' : Hp) (u : V) (l : Nat) (e : En) (path : List Tm) (wt : List Tm × List (Int × Str)) : Prop where
  ex : ∃ (q pq : Addr) (hv wv : V) (ys : List V), u = .ref q ∧ H' q = some (.tup [.str (S e.1), hv, .ref pq, wv]) ∧ H pq = none ∧ H' pq = some (.lst ys) ∧ DenL S0 H' ys path ∧ S0.den H' hv (headT l e.2) ∧ WayV S0 H H' wv wt ∧ ∀ o e', H' (match wv with | .ref a => a | _ => 0) = some (.tup [.ref o, e']) → o ≠ pq
def spKPaper (mg : Str → Option Value) (CK CT : Addr) (Fam : Sys → Prop) : Sp := fun vs H Q E => ∃ (S0 : Sys) (p : Addr) (l : Nat) (t b v : Addr) (es : List En) (i k : Int) (sz : Option Int) (r : Nat), Fam S0 ∧ vs = [.ref p, .int i, .int k, szV sz] ∧ KpAt CK CT S0 H p l t b v es ∧ S0.ok H (r + 8320) ∧
  (∀ c n e, cntOf es.length sz = some c → i = ((n : Nat) : Int) → n < c → es[n]? = some e → 0 ≤ k → k < 2 ^ l → ∀ u H', Ext H H' → S0.ok H' r → PapV S0 H H' u l e (pathT ((es.map (leafT l)).take c) n) (wayT l (srtI e.2) k) → Q u H') ∧
  (¬ (plIn es.length sz i ∧ 0 ≤ k ∧ k < 2 ^ l) → ∀ D, mg "NoPlace" = some (.ref D) → ∀ H', Ext H H' → S0.ok H' r → E (.ref D) none H')
theorem kpaper_body {cc : Addr} (T : Txt K mg cc) (A : SlA P w K mg base Fam) (KT : K_Table K mg CT) (KK : K_Keeper K mg CK) : ∀ (f : Addr) (cdv : Value) (A' : Around) (outer : List Env) (s : Shared) (H : Hp) (vs : List V) (Q : VK) (E : XK), Room 26 (A'.deeper (envOfC "Keeper.paper" (defScope s_Keeper_paper) s.heap.objs.size f cdv)) → spKPaper mg CK CT Fam vs H Q E →
      ∃ t, PSs (cxOf (L2.CX P w) P w K mg base N_Keeper_paper "Keeper.paper" (defScope s_Keeper_paper) f cdv A' outer s H E) (defBody s_Keeper_paper) t ∧ t { nx := fun _ H' => Q .non H', rt := Q } (start N_Keeper_paper vs) H := by
  intro f cdv A' outer s H vs Q E hr h
  have Z := T.Z
  have M_path := ok_kpath (CT := CT) T A KK
  have M_text := ok_ktext (P := P) (w := w) (base := base) (Fam := Fam) (CT := CT) T KK
  have M_table_head := ok_kthead T A KT KK
  have M_way := ok_kway T A KT KK
  obtain ⟨S0, p, l, t, b, v, es, i, k, sz, r, hF, rfl, hk, hok, q1, q2⟩ := h
  have G := A.good hF
  obtain ⟨dx, hp⟩ := hk.at_
  refine ⟨_, (pss_cons (ps_set (i := 4) sc_Keeper_paper.nd rfl (Or.inl rfl) (pe_mtd M_path (takes_of rfl rfl rfl rfl) hr (by omega) (pv 0) (pa_cons (pv 1) (pa_cons (pv 3) pa_nil))))
  (pss_one (ps_ret (pe_tup (pa_cons (pe_mtx M_text (takes_of rfl rfl rfl rfl) hr (by omega) (pv 0) (pa_cons (pv 1) pa_nil)) (pa_cons (pe_mtx M_table_head (takes_of rfl rfl rfl rfl) hr (by omega) (pv 0) (pa_cons (pv 1) pa_nil)) (pa_cons (pv 4) (pa_cons (pe_mtx M_way (takes_of rfl rfl rfl rfl) hr (by omega) (pv 0) (pa_cons (pv 1) (pa_cons (pv 2) pa_nil))) pa_nil)))))))), ?_⟩
  refine ⟨_, rfl, p, dx, _, rfl, hp, kno "path", _, rfl, _, rfl, S0, p, l, t, b, v, es, i, sz, r + 8000, hF, rfl, hk, hok, fun c n hc hi hn q ys H1 x1 nq hq ok1 d1 => ?_, fun hout D hD H' x ok => q2 (fun z => hout z.1) D hD H' x (G.less ok (by omega))⟩
  subst hi
  have hle := cnt_le hc
  obtain ⟨e, he⟩ : ∃ e, es[n]? = some e := ⟨es[n]'(by omega), List.getElem?_eq_getElem _⟩
  have hk1 := hk.ext G x1
  have hp1 := x1.ins hp
  have inn : (0 : Int) ≤ (n : Int) ∧ (n : Int) < (es.length : Int) := by omega
  refine ⟨_, rfl, p, dx, _, rfl, hp1, kno "text", _, rfl, S0, p, l, t, b, v, es, (n : Int), hF, rfl, hk1, fun n' e' hi' he' => ?_, fun z => absurd inn z⟩
  obtain rfl : n = n' := by omega
  rw [he] at he'
  cases he'
  refine ⟨_, rfl, p, dx, _, rfl, hp1, kno "table_head", _, rfl, S0, p, l, t, b, v, es, (n : Int), r + 4000, hF, rfl, hk1, ok1, fun n' e' hi' he' u H2 x2 ok2 d2 => ?_, fun z => absurd inn z⟩
  obtain rfl : n = n' := by omega
  rw [he] at he'
  cases he'
  have hk2 := hk1.ext G x2
  have hp2 := x2.ins hp1
  refine ⟨_, rfl, _, rfl, p, dx, _, rfl, hp2, kno "way", _, rfl, _, rfl, S0, p, l, t, b, v, es, (n : Int), k, r, hF, rfl, hk2, ok2, fun n' e' hi' he' k0 k1 u2 H3 x3 ok3 d3 => ?_, fun hout D hD => q2 (fun z => hout ⟨inn, z.2⟩) D hD H2 (x1.trans x2) (G.less ok2 (by omega))⟩
  obtain rfl : n = n' := by omega
  rw [he] at he'
  cases he'
  refine ⟨by show 4 ≤ sizeLine; decide, fun qt nqt => ?_⟩
  have x4 := Ext.new (o := .tup [.str (S e.1), u, .ref q, u2]) nqt
  have xx := (((x1.trans x2).trans x3).trans x4)
  refine q1 c n e hc rfl hn he k0 k1 _ _ xx (G.keep (Kp.new nqt) ok3) ⟨qt, q, u, u2, ys, rfl, upd_same, nq, ((x2.trans x3).trans x4).lst hq, d1.mono G ((x2.trans x3).trans x4).gr, G.mono (x3.trans x4).gr d2, (d3.ext G x4).back (x1.trans x2), ?_⟩
  obtain ⟨a, o, ee, zs, rfl, g2, g3, _, _⟩ := d3.ex
  intro o' e' h'
  have g4 := x4.tup g2
  have h' : upd H3 qt (.tup [.str (S e.1), u, .ref q, .ref a]) a = some (.tup [.ref o', e']) := h'
  rw [g4] at h'
  cases h'
  exact fun z => by rw [z, x2.lst hq] at g3; cases g3
theorem ok_kpaper {cc : Addr} (T : Txt K mg cc) (A : SlA P w K mg base Fam) (KT : K_Table K mg CT) (KK : K_Keeper K mg CK) : MetRD P w K mg base 27 CK "paper" (spKPaper mg CK CT Fam) [] :=
  metRD_of 4 1 KK.cl KK.m_paper (by simp) rfl (fun T kV doc pm an cdv ct us its hu hi => match us, its, hu, hi with | [_, _, _, _], [_], _, _ => ⟨_, rfl, rfl⟩) sc_Keeper_paper (fun vs H Q E h => by obtain ⟨S0, p, l, t, b, v, es, i, k, sz, r, _, rfl, _⟩ := h; rfl) (kpaper_body T A KT KK)
end

section
variable {P : Program} {w : World} {K : PySem.W.Frag} {mg : Str → Option Value} {base : Heap} {Fam : Sys → Prop} {CK CT C B : Addr}
def spKInit (CK CT : Addr) (Fam : Sys → Prop) : Sp := fun vs H Q _ => ∃ (S0 : Sys) (p dx : Addr) (l : Nat) (r : Nat), Fam S0 ∧ vs = [.ref p, .ref S0.f, .int (l : Int)] ∧ H p = some (.ins CK dx []) ∧ l ≤ 16 ∧ S0.ok H r ∧ ∀ H' t b v, ExtO p H H' → Kp H H' → H t = none → H b = none → H v = none → S0.ok H' r → KpAt CK CT S0 H' p l t b v [] → Q .non H'
theorem free_put {H : Hp} {p d C dx : Addr} {fs : List (Str × V)} (h : upd H p (.ins C dx fs) d = none) : H d = none := by
  by_cases e : d = p
  · rw [e, upd_same] at h; cases h
  · rwa [upd_ne e] at h
theorem kinit_body (A : SlA P w K mg base Fam) (KK : K_Keeper K mg CK) : ∀ (f : Addr) (cdv : Value) (A' : Around) (outer : List Env) (s : Shared) (H : Hp) (vs : List V) (Q : VK) (E : XK), Room 0 (A'.deeper (envOfC "Keeper.__init__" (defScope s_Keeper___init__) s.heap.objs.size f cdv)) → spKInit CK CT Fam vs H Q E →
      ∃ t, PSs (cxOf L2.CX0 P w K mg base N_Keeper___init__ "Keeper.__init__" (defScope s_Keeper___init__) f cdv A' outer s H E).nox (defBody s_Keeper___init__) t ∧ t { nx := fun _ H' => Q .non H', rt := Q } (start N_Keeper___init__ vs) H := by
  intro f cdv A' outer s H vs Q E hr h
  obtain ⟨S0, p, dx, l, r, hF, rfl, hp, hl, hok, q⟩ := h
  have G := A.good hF
  refine ⟨_, (pss_cons (ps_fld (pv 0) (pv 1) rfl)
  (pss_cons (ps_fld (pv 0) (pv 2) rfl)
  (pss_cons (ps_fld (pv 0) (pe_lst pa_nil) rfl)
  (pss_cons (ps_fld (pv 0) (pe_lst pa_nil) rfl)
  (pss_one (ps_fld (pv 0) (pe_lst pa_nil) rfl)))))), ?_⟩
  refine ⟨_, rfl, _, rfl, p, CK, dx, _, rfl, hp, KK.cl, KK.n_seal, by show 0 < 1000; decide, ?_⟩
  have x1 := ExtO.put (o := .ins CK dx (putF "seal" (.ref S0.f) [])) hp
  have k1 := Kp.ins (o := .ins CK dx (putF "seal" (.ref S0.f) [])) hp
  have h1 : upd H p (.ins CK dx (putF "seal" (.ref S0.f) [])) p = some (.ins CK dx (putF "seal" (.ref S0.f) [])) := upd_same
  have n1 : ∀ d, upd H p (.ins CK dx (putF "seal" (.ref S0.f) [])) d = none → H d = none := fun d h => free_put h
  generalize upd H p (.ins CK dx (putF "seal" (.ref S0.f) [])) = H1 at x1 k1 h1 n1 ⊢
  refine ⟨_, rfl, _, rfl, p, CK, dx, _, rfl, h1, KK.cl, KK.n_depth, by show 1 < 1000; decide, ?_⟩
  have x2 := x1.trans (ExtO.put (o := .ins CK dx (putF "depth" (.int (l : Int)) (putF "seal" (.ref S0.f) []))) h1)
  have k2 := k1.trans (Kp.ins (o := .ins CK dx (putF "depth" (.int (l : Int)) (putF "seal" (.ref S0.f) []))) h1)
  have h2 : upd H1 p (.ins CK dx (putF "depth" (.int (l : Int)) (putF "seal" (.ref S0.f) []))) p = some (.ins CK dx (putF "depth" (.int (l : Int)) (putF "seal" (.ref S0.f) []))) := upd_same
  have n2 : ∀ d, upd H1 p (.ins CK dx (putF "depth" (.int (l : Int)) (putF "seal" (.ref S0.f) []))) d = none → H d = none := fun d h => n1 d (free_put h)
  generalize upd H1 p (.ins CK dx (putF "depth" (.int (l : Int)) (putF "seal" (.ref S0.f) []))) = H2 at x2 k2 h2 n2 ⊢
  have key : ∀ {H2 : Hp} {fs : List (Str × V)} {m : Str}, ExtO p H H2 → Kp H H2 → H2 p = some (.ins CK dx fs) → (∀ d, H2 d = none → H d = none) → ∀ t, H2 t = none → ∀ fs', upd (upd H2 t (.lst [])) p (.ins CK dx fs') p = some (.ins CK dx fs') ∧ ExtO p H (upd (upd H2 t (.lst [])) p (.ins CK dx fs')) ∧ Kp H (upd (upd H2 t (.lst [])) p (.ins CK dx fs')) ∧ (∀ d, upd (upd H2 t (.lst [])) p (.ins CK dx fs') d = none → H d = none) ∧ upd (upd H2 t (.lst [])) p (.ins CK dx fs') t = some (.lst []) ∧ (upd H2 t (.lst [])) p = some (.ins CK dx fs) ∧ (∀ a, H2 a = some (.lst []) → a ≠ t ∧ upd (upd H2 t (.lst [])) p (.ins CK dx fs') a = some (.lst [])) := by
    intro H2 fs m x2 k2 h2 n2 t nt fs'
    have npt : p ≠ t := ne_of_none h2 nt
    have h3 : upd H2 t (.lst []) p = some (.ins CK dx fs) := by rw [upd_ne npt]; exact h2
    refine ⟨upd_same, (x2.trans (Ext.new (o := .lst []) nt).o).trans (ExtO.put h3), (k2.trans (Kp.new (o := .lst []) nt)).trans (Kp.ins h3), fun d h => n2 d ?_, by rw [upd_ne npt.symm]; exact upd_same, h3, fun a ha => ?_⟩
    · have h := free_put h
      by_cases e : d = t
      · rw [e, upd_same] at h; cases h
      · rwa [upd_ne e] at h
    · have a1 : a ≠ t := ne_of_none ha nt
      have a2 : a ≠ p := fun z => by rw [z, h2] at ha; cases ha
      exact ⟨a1, by rw [upd_ne a2, upd_ne a1]; exact ha⟩
  refine ⟨by show 0 ≤ sizeLine; decide, fun t nt => ?_⟩
  obtain ⟨h3, x3, k3, n3, t3, g3, m3⟩ := key (m := "") x2 k2 h2 n2 t nt (putF "texts" (.ref t) (putF "depth" (.int (l : Int)) (putF "seal" (.ref S0.f) [])))
  refine ⟨_, rfl, p, CK, dx, _, rfl, g3, KK.cl, KK.n_texts, by show 2 < 1000; decide, ?_⟩
  have nt' := n2 t nt
  generalize upd (upd H2 t (.lst [])) p (.ins CK dx (putF "texts" (.ref t) (putF "depth" (.int (l : Int)) (putF "seal" (.ref S0.f) [])))) = H3 at h3 x3 k3 n3 t3 ⊢
  refine ⟨by show 0 ≤ sizeLine; decide, fun b nb => ?_⟩
  obtain ⟨h4, x4, k4, n4, b4, g4, m4⟩ := key (m := "") x3 k3 h3 n3 b nb (putF "tables" (.ref b) (putF "texts" (.ref t) (putF "depth" (.int (l : Int)) (putF "seal" (.ref S0.f) []))))
  refine ⟨_, rfl, p, CK, dx, _, rfl, g4, KK.cl, KK.n_tables, by show 3 < 1000; decide, ?_⟩
  obtain ⟨tb, t4⟩ := m4 t t3
  have nb' := n3 b nb
  generalize upd (upd H3 b (.lst [])) p (.ins CK dx (putF "tables" (.ref b) (putF "texts" (.ref t) (putF "depth" (.int (l : Int)) (putF "seal" (.ref S0.f) []))))) = H4 at h4 x4 k4 n4 b4 t4 ⊢
  refine ⟨by show 0 ≤ sizeLine; decide, fun v nv => ?_⟩
  obtain ⟨h5, x5, k5, n5, v5, g5, m5⟩ := key (m := "") x4 k4 h4 n4 v nv (putF "leaves" (.ref v) (putF "tables" (.ref b) (putF "texts" (.ref t) (putF "depth" (.int (l : Int)) (putF "seal" (.ref S0.f) [])))))
  refine ⟨_, rfl, p, CK, dx, _, rfl, g5, KK.cl, KK.n_leaves, by show 4 < 1000; decide, ?_⟩
  obtain ⟨tv, t5⟩ := m5 t t4
  obtain ⟨bv, b5⟩ := m5 b b4
  refine q _ t b v x5 k5 nt' nb' (n4 v nv) (G.keep k5 hok) ⟨⟨dx, by rw [h5, kpF_mk]⟩, t5, ⟨[], b5, rfl, fun i q e a _ => by simp at a⟩, ⟨[], v5, DenL.nil⟩, (fun e h => nomatch h), ⟨hl, by decide⟩, ⟨tb, tv, bv⟩⟩
theorem ok_kinit (A : SlA P w K mg base Fam) (KK : K_Keeper K mg CK) : Mak P w K mg base 1 "Keeper" CK (spKInit CK CT Fam) [] :=
  mak_ofD 3 1 KK.mgC KK.made (by simp) rfl (fun T kV doc pm an cdv ct us its hu hi => match us, its, hu, hi with | [_, _, _], [_], _, _ => ⟨_, rfl, rfl⟩) sc_Keeper___init__ (fun vs H Q E h => by obtain ⟨S0, p, dx, l, r, _, rfl, _⟩ := h; rfl) (kinit_body A KK)
theorem ok_kinit8 (A : SlA P w K mg base Fam) (KK : K_Keeper K mg CK) : Mak P w K mg base 1 "Keeper" CK (spKInit CK CT Fam) [.int 8] :=
  mak_ofD 2 0 KK.mgC KK.made (by simp) rfl (fun T kV doc pm an cdv ct us its hu hi => match us, its, hu, hi with | [_, _], [_], _, _ => ⟨_, rfl, rfl⟩) sc_Keeper___init__ (fun vs H Q E h => by obtain ⟨S0, p, dx, l, r, _, rfl, _⟩ := h; rfl) (kinit_body A KK)
def lastKv (es : List En) : List (Int × Str) := match es.getLast? with
  | none => []
  | some e => e.2
def spKAdd (mg : Str → Option Value) (CK CT : Addr) (Fam : Sys → Prop) : Sp := fun vs H Q E => ∃ (S0 : Sys) (p : Addr) (l : Nat) (t b v : Addr) (es : List En) (tx : List Nat) (r : Nat), Fam S0 ∧ vs = [.ref p, .str (S tx)] ∧ KpAt CK CT S0 H p l t b v es ∧ es.length < 300 ∧ AscL tx ∧ tx.length ≤ 300 ∧ S0.ok H (r + 4010) ∧
  (∀ kv, runL l 0 (TL.spl [10] 0 [] tx) (lastKv es) = .ok kv → kv.length ≤ 119 ∧ ∀ H', ExtM [t, b, v] H H' → S0.ok H' r → KpAt CK CT S0 H' p l t b v (es ++ [(tx, kv)]) → Q (.int (es.length : Int)) H') ∧
  (∀ i, runL l 0 (TL.spl [10] 0 [] tx) (lastKv es) = .error i → ∀ D, mg "BadRow" = some (.ref D) → ∀ dx H', Ext H H' → S0.ok H' r → H dx = none → H' dx = some (.xd [("row", .int (i : Int))]) → E (.ref D) (some dx) H')
theorem last_get {es : List En} (h : es ≠ []) : ∃ e, es[es.length - 1]? = some e ∧ lastKv es = e.2 := by
  have hl : 0 < es.length := List.length_pos_iff.mpr h
  have e1 : es.getLast? = es[es.length - 1]? := List.getLast?_eq_getElem? ..
  have e2 : es[es.length - 1]? = some (es[es.length - 1]'(by omega)) := List.getElem?_eq_getElem _
  refine ⟨_, e2, ?_⟩
  unfold lastKv
  rw [e1, e2]
theorem ok_kadd {cc : Addr} (T : Txt K mg cc) (A : SlA P w K mg base Fam) (KT : K_Table K mg CT) (KK : K_Keeper K mg CK) (EI : ExcI K mg "BadRow" "BookError" "row" "BadRow.__init__" s_BadRow___init__ ["self", "row"] C B) : MetR P w K mg base 26 CK "add" (spKAdd mg CK CT Fam) := by
  have Z := T.Z
  have C_Table := ok_tinit A KT
  have C_changed := ok_changed T A KT EI
  have M_head := ok_thead T A KT
  have C_leaf_seal := ok_leaf_seal T A
  refine metR_of KK.cl KK.m_add sc_Keeper_add (fun vs H Q E h => ?_) (fun f cdv A' outer s H vs Q E hr h => ?_)
  · obtain ⟨S0, p, l, t, b, v, es, tx, r, _, rfl, _⟩ := h
    rfl
  obtain ⟨S0, p, l, t, b, v, es, tx, r, hF, rfl, hk, hel, ha, htl, hok, q1, q2⟩ := h
  have G := A.good hF
  have e16 : sizeLine = 16777216 := sizeLine_eq
  obtain ⟨dx, hp⟩ := hk.at_
  have kf := kpF_at S0.f (l : Int) t b v
  refine ⟨_, (pss_cons (ps_set (i := 2) sc_Keeper_add.nd rfl (Or.inl rfl) (pe_mk C_Table hr (by omega) rfl (pa_cons (pe_fld (pv 0) rfl) (pa_cons (pe_fld (pv 0) rfl) pa_nil))))
  (Evl.pss_cut (ps_if (pt_cmpR op_gt (pe_callB call_len_seq rfl Z.len PySem.boot_len (pa_cons (pe_fld (pv 0) rfl) pa_nil)) pe_int (nomark _)) (pss_one (ps_set (i := 2) sc_Keeper_add.nd rfl (Or.inl rfl) (pe_ix ix_list (pe_fld (pv 0) rfl) (pe_op op_sub (pe_callB call_len_seq rfl Z.len PySem.boot_len (pa_cons (pe_fld (pv 0) rfl) pa_nil)) pe_int) (fun _ _ => rfl)))) pss_nil)
  (pss_cons (ps_set (i := 3) sc_Keeper_add.nd rfl (Or.inl rfl) (pe_cx C_changed (takes_of rfl rfl rfl rfl) hr (by omega) rfl (pa_cons (pv 2) (pa_cons (pv 1) (pa_cons (pe_fld (pv 0) rfl) pa_nil)))))
  (pss_cons (ps_expr (pe_bm PySem.F.plainAttrs_list PySem.F.slot_list_append PySem.F.type_list_append mt_append (pe_fld (pv 0) rfl) (pa_cons (pv 1) pa_nil)))
  (pss_cons (ps_expr (pe_bm PySem.F.plainAttrs_list PySem.F.slot_list_append PySem.F.type_list_append mt_append (pe_fld (pv 0) rfl) (pa_cons (pv 3) pa_nil)))
  (pss_cons (ps_expr (pe_bm PySem.F.plainAttrs_list PySem.F.slot_list_append PySem.F.type_list_append mt_append (pe_fld (pv 0) rfl) (pa_cons (pe_c C_leaf_seal hr (by omega) rfl (pa_cons (pe_fld (pv 0) rfl) (pa_cons (pv 1) (pa_cons (pe_mt0 M_head hr (by omega) (pv 3)) pa_nil)))) pa_nil)))
  (pss_one (ps_ret (pe_op op_sub (pe_callB call_len_seq rfl Z.len PySem.boot_len (pa_cons (pe_fld (pv 0) rfl) pa_nil)) pe_int))))))))), ?_⟩
  refine ⟨_, rfl, p, CK, dx, _, _, rfl, hp, KK.cl, KK.n_seal, kf.1, _, rfl, p, CK, dx, _, _, rfl, hp, KK.cl, KK.n_depth, kf.2.1, fun o ox no nox nex => ?_⟩
  have y1 : Ext H (upd (upd H ox (.own o)) o (.ins CT ox [])) := (Ext.new nox).trans (Ext.new (by rw [upd_ne nex.symm]; exact no))
  have ky1 : Kp H (upd (upd H ox (.own o)) o (.ins CT ox [])) := (Kp.new nox).trans (Kp.new (by rw [upd_ne nex.symm]; exact no))
  refine ⟨S0, o, ox, l, r + 4010, hF, rfl, upd_same, by have := hk.sz.1; omega, G.keep ky1 hok, fun H1 d1 xo1 kp1 nd1 ok1 tb1 => ⟨rfl, ?_⟩⟩
  have x1 : Ext H H1 := xo1.ext y1 no
  have hk1 := hk.ext G x1
  have hp1 := x1.ins hp
  obtain ⟨qs, hb, hql, hq⟩ := hk1.tb
  have nonr : ∀ {kv : List (Int × Str)}, kv = [] → TbOk l kv := fun {kv} e => by subst e; exact ⟨List.nodup_nil, (fun e h => nomatch h), (fun e h => nomatch h)⟩
  refine ⟨fun σ H' => ∃ q d kv, σ = [some (.ref p), some (.str (S tx)), some (.ref q), none] ∧ H1 = H' ∧ TbAt CT S0.f H1 q d l kv ∧ kv.Perm (lastKv es) ∧ TbOk l (lastKv es) ∧ (lastKv es).length ≤ 119, ?_, ?_⟩
  · refine ⟨_, rfl, p, CK, dx, _, _, rfl, hp1, KK.cl, KK.n_tables, kf.2.2.2.1, b, _, rfl, .inl (SqL.of hb), _, _, rfl, rfl, _, rfl, ?_⟩
    rw [List.length_map, hql]
    by_cases c : es = []
    · subst c
      exact iteF ⟨o, d1, [], rfl, rfl, tb1, .nil, nonr rfl, Nat.zero_le _⟩
    · have hl : 0 < es.length := List.length_pos_iff.mpr c
      rw [decide_eq_true (show (0 : Int) < (es.length : Int) by omega)]
      refine iteT ?_
      obtain ⟨e, he, hle⟩ := last_get c
      have hqn : qs[es.length - 1]? = some (qs[es.length - 1]'(by omega)) := List.getElem?_eq_getElem _
      generalize qs[es.length - 1]'(by omega) = qn at hqn
      obtain ⟨d, kv, pm, tb⟩ := hq _ qn e hqn he
      obtain ⟨hke, hkl, _⟩ := hk.ok e (List.mem_of_getElem? he)
      refine ⟨_, rfl, p, CK, dx, _, _, rfl, hp1, KK.cl, KK.n_tables, kf.2.2.2.1, _, rfl, p, CK, dx, _, _, rfl, hp1, KK.cl, KK.n_tables, kf.2.2.2.1, b, _, rfl, .inl (SqL.of hb), _, _, rfl, rfl, b, _, _, .ref qn, rfl, rfl, SqL.of hb, ?_, ?_⟩
      · rw [List.length_map, hql, show (es.length : Int) - 1 = ((es.length - 1 : Nat) : Int) by omega]
        exact atI_nat (by rw [List.getElem?_map, hqn]; rfl)
      · exact ⟨qn, d, kv, rfl, rfl, tb, by rw [hle]; exact pm, by rw [hle]; exact hke, by rw [hle]; exact hkl⟩
  rintro σ H' ⟨q, d, kv, rfl, rfl, tbl, pml, hkl, hll⟩
  have hkv := hkl.perm pml
  have rl := pml.length_eq
  refine ⟨_, rfl, _, rfl, _, rfl, p, CK, dx, _, _, rfl, hp1, KK.cl, KK.n_depth, kf.2.1, S0, q, d, l, kv, tx, r + 4010, hF, rfl, tbl, hkv, ha, by omega, ok1, fun rows kv' o2 d2 H2 perm hrun x2 no2 nd2 ok2 tb2 hk2 => ?_, fun rows i perm hrun D hD dx2 H2 x2 ok2 ndx hdx => ?_⟩
  · obtain ⟨kvc, hrc, pmc⟩ := (hrun ▸ run_perm (TL.spl [10] 0 [] tx) 0 rows (lastKv es) ((hkv.perm perm).nd) (perm.trans pml)).ok
    obtain ⟨hlen, q1⟩ := q1 kvc hrc
    have hkc : TbOk l kvc := hk2.perm pmc.symm
    have xx := x1.trans x2
    have hk2' := hk.ext G xx
    have hp2 := xx.ins hp
    obtain ⟨qs2, hb2, hql2, hq2⟩ := hk2'.tb
    obtain ⟨ls, hv2, hls⟩ := hk2'.lv
    have htx2 := hk2'.tx
    have h20 := hk.sz
    obtain ⟨n1, n2, n3⟩ := hk.ne
    have hlsl := hls.len
    rw [List.length_map] at hlsl
    have wasM : ∀ a ∈ [t, b, v], ∃ xs, H a = some (.lst xs) := fun a h => by
      rcases List.mem_cons.mp h with rfl | h
      · exact ⟨_, hk.tx⟩
      rcases List.mem_cons.mp h with rfl | h
      · obtain ⟨_, z, _⟩ := hk.tb; exact ⟨_, z⟩
      rcases List.mem_cons.mp h with rfl | h
      · obtain ⟨_, z, _⟩ := hk.lv; exact ⟨_, z⟩
      cases h
    have m0 : ExtM [t, b, v] H H2 := xx.m _ wasM
    have it : t ∈ [t, b, v] := List.mem_cons_self
    have ib : b ∈ [t, b, v] := List.mem_cons_of_mem _ List.mem_cons_self
    have iv : v ∈ [t, b, v] := List.mem_cons_of_mem _ (List.mem_cons_of_mem _ List.mem_cons_self)
    have was2 : ∀ a ∈ [t, b, v], ∃ xs, H2 a = some (.lst xs) := fun a h => by
      obtain ⟨xs, z⟩ := wasM a h
      exact ⟨xs, xx.lst z⟩
    have m2 : ExtM [t, b, v] H2 H2 := (Ext.refl H2).m _ was2
    refine ⟨_, rfl, p, CK, dx, _, _, rfl, hp2, KK.cl, KK.n_texts, kf.2.2.1, .inl ⟨rfl, _, SqL.of htx2⟩, _, rfl, t, _, .str (S tx), rfl, rfl, htx2, by rw [List.length_map]; omega, ?_⟩
    have m3 := m2.set (o := .lst ((es.map fun e => V.str (S e.1)) ++ [.str (S tx)])) it
    have k3 := Kp.lst (o := .lst ((es.map fun e => V.str (S e.1)) ++ [.str (S tx)])) htx2
    have t3 : upd H2 t (.lst ((es.map fun e => V.str (S e.1)) ++ [.str (S tx)])) t = some (.lst ((es.map fun e => V.str (S e.1)) ++ [.str (S tx)])) := upd_same
    have b3 : upd H2 t (.lst ((es.map fun e => V.str (S e.1)) ++ [.str (S tx)])) b = some (.lst (qs2.map V.ref)) := by rw [upd_ne n1.symm]; exact hb2
    have v3 : upd H2 t (.lst ((es.map fun e => V.str (S e.1)) ++ [.str (S tx)])) v = some (.lst ls) := by rw [upd_ne n2.symm]; exact hv2
    have ok3 := G.keep k3 ok2
    generalize upd H2 t (.lst ((es.map fun e => V.str (S e.1)) ++ [.str (S tx)])) = H3 at m3 t3 b3 v3 ok3 ⊢
    have hp3 := m3.ins hp2
    refine ⟨_, rfl, p, CK, dx, _, _, rfl, hp3, KK.cl, KK.n_tables, kf.2.2.2.1, .inl ⟨rfl, _, SqL.of b3⟩, _, rfl, b, _, .ref o2, rfl, rfl, b3, by rw [List.length_map, hql2]; omega, ?_⟩
    have m4 := m3.set (o := .lst (qs2.map V.ref ++ [.ref o2])) ib
    have k4 := Kp.lst (o := .lst (qs2.map V.ref ++ [.ref o2])) b3
    have t4 : upd H3 b (.lst (qs2.map V.ref ++ [.ref o2])) t = some (.lst ((es.map fun e => V.str (S e.1)) ++ [.str (S tx)])) := by rw [upd_ne n1]; exact t3
    have b4 : upd H3 b (.lst (qs2.map V.ref ++ [.ref o2])) b = some (.lst (qs2.map V.ref ++ [.ref o2])) := upd_same
    have v4 : upd H3 b (.lst (qs2.map V.ref ++ [.ref o2])) v = some (.lst ls) := by rw [upd_ne n3.symm]; exact v3
    have ok4 := G.keep k4 ok3
    generalize upd H3 b (.lst (qs2.map V.ref ++ [.ref o2])) = H4 at m4 t4 b4 v4 ok4 ⊢
    have hp4 := m4.ins hp2
    have tb4 := tb2.extM m4
    obtain ⟨⟨dxo, hpo⟩, _, _⟩ := id tb4
    have htx : txtOk (S tx) = true := txt_of_tl fun c hc => by
      have := ha c hc
      omega
    have cp := costP_le h20.1 (show kv'.length ≤ 120 by rw [pmc.length_eq]; omega)
    refine ⟨_, rfl, p, CK, dx, _, _, rfl, hp4, KK.cl, KK.n_leaves, kf.2.2.2.2, .inl ⟨rfl, _, SqL.of v4⟩, _, rfl, p, CK, dx, _, _, rfl, hp4, KK.cl, KK.n_seal, kf.1, _, rfl, _, rfl, o2, dxo, _, rfl, hpo, (tbF_no _ _ _).2.2.2.2.2.1, S0, o2, d2, l, kv', r + 1, hF, rfl, tb4, hk2, by omega, G.less ok4 (by omega), fun u rws H5 x5 ok5 pr pw du => ?_⟩
    rw [srt_eq hkc pmc pr pw] at du
    refine ⟨S0, .str (S tx), u, .str (S tx), _, r, hF, rfl, ok5, G.str _ ok5 htx, du, fun lf H6 x6 ok6 dl => ?_⟩
    have m6 := (m4.then x5).then x6
    have v6 := x6.lst (x5.lst v4)
    refine ⟨v, ls, lf, rfl, rfl, v6, by omega, ?_⟩
    have m7 := m6.set (o := .lst (ls ++ [lf])) iv
    have k7 := Kp.lst (o := .lst (ls ++ [lf])) v6
    have t7 : upd H6 v (.lst (ls ++ [lf])) t = some (.lst ((es.map fun e => V.str (S e.1)) ++ [.str (S tx)])) := by rw [upd_ne n2]; exact x6.lst (x5.lst t4)
    have b7 : upd H6 v (.lst (ls ++ [lf])) b = some (.lst (qs2.map V.ref ++ [.ref o2])) := by rw [upd_ne n3]; exact x6.lst (x5.lst b4)
    have v7 : upd H6 v (.lst (ls ++ [lf])) v = some (.lst (ls ++ [lf])) := upd_same
    have ok7 := G.keep k7 ok6
    have dl7 := G.mono k7.gr dl
    generalize upd H6 v (.lst (ls ++ [lf])) = H7 at m7 t7 b7 v7 ok7 dl7 ⊢
    have hp7 := m7.ins hp2
    have m8 : ExtM [t, b, v] H H7 := by
      refine ⟨fun a o hm e n => m7.keep a o hm (m0.keep a o hm e n) n, fun a ks e => ?_, wasM⟩
      obtain ⟨g1, e1⟩ := m0.grow a ks e
      obtain ⟨g2, e2⟩ := m7.grow a _ e1
      exact ⟨g1 ++ g2, by rw [e2, List.append_assoc]⟩
    refine ⟨_, rfl, p, CK, dx, _, _, rfl, hp7, KK.cl, KK.n_texts, kf.2.2.1, t, _, rfl, .inl (SqL.of t7), _, _, rfl, rfl, ?_⟩
    have e9 : (((((es.map fun e => V.str (S e.1)) ++ [V.str (S tx)]).length : Nat) : Int) - 1) = (es.length : Int) := by
      rw [List.length_append, List.length_map]
      show ((es.length + 1 : Nat) : Int) - 1 = _
      omega
    show Q (.int ((((es.map fun e => V.str (S e.1)) ++ [V.str (S tx)]).length : Int) - 1)) H7
    rw [e9]
    refine q1 H7 m8 ok7 ⟨⟨dx, hp7⟩, by rw [t7, List.map_append]; rfl, ⟨qs2 ++ [o2], by rw [b7, List.map_append]; rfl, by rw [List.length_append, List.length_append, hql2]; rfl, fun i q e a c => ?_⟩, ⟨ls ++ [lf], v7, ?_⟩, fun e he => ?_, ⟨h20.1, by rw [List.length_append]; show es.length + 1 ≤ 300; omega⟩, ⟨n1, n2, n3⟩⟩
    · by_cases ci : i < qs2.length
      · rw [List.getElem?_append_left ci] at a
        rw [List.getElem?_append_left (by omega)] at c
        obtain ⟨d', kv0, g1, g2⟩ := hq2 i q e a c
        exact ⟨d', kv0, g1, g2.extM m7⟩
      · rw [List.getElem?_append_right (by omega)] at a c
        rw [← hql2] at c
        cases hj : i - qs2.length with
        | zero =>
          rw [hj] at a c
          cases a
          cases c
          exact ⟨d2, kv', pmc, tb2.extM m7⟩
        | succ j =>
          rw [hj] at a
          simp at a
    · rw [List.map_append]
      exact (hls.mono G m7.gr).append (DenL.one dl7)
    · rcases List.mem_append.mp he with h | h
      · exact hk.ok e h
      · rw [List.mem_singleton.mp h]
        exact ⟨hkc, hlen, htx⟩
  · have hr2 := (hrun ▸ run_perm (TL.spl [10] 0 [] tx) 0 rows (lastKv es) ((hkv.perm perm).nd) (perm.trans pml)).error
    exact q2 i hr2 D hD dx2 H2 (x1.trans x2) (G.less ok2 (by omega)) (x1.free ndx) hdx
end

/-! ### a leaf and a path come to a top, or BadPaper -/
/-- no list by its type, and none equal to the empty list -/
structure Odd (K : PySem.W.Frag) (H : Hp) (v : V) : Prop where
  ty : ∃ t, TyX K H v t ∧ PySem.W.kitOne K t (.type "list") = some false
  ne : ∃ d, Dp K H v d ∧ SeqAt.shaped d = true ∧ PyData.eqv d (.list []) = false
def spLast (K : PySem.W.Frag) (mg : Str → Option Value) : Sp := fun vs H Q E => ∃ v, vs = [v] ∧
  ((∃ a ys, v = .ref a ∧ H a = some (.lst ys) ∧ (∀ y, ys.getLast? = some y → Q y H) ∧ (ys = [] → ∀ C, mg "BadPaper" = some (.ref C) → E (.ref C) none H)) ∨
   ((∃ t, TyX K H v t ∧ PySem.W.kitOne K t (.type "list") = some false) ∧ ∀ C, mg "BadPaper" = some (.ref C) → E (.ref C) none H))
/-- the sides, as they are kept -/
structure SideL (S : Sys) (H : Hp) (vs : List V) (ss : List (Tm × Bool)) : Prop where
  len : vs.length = ss.length
  at_ : ∀ (i : Nat) (v : V) (s : Tm × Bool), vs[i]? = some v → ss[i]? = some s → ∃ q u, v = .ref q ∧ H q = some (.tup [u, .bl s.2]) ∧ S.den H u s.1
theorem SideL.nil {S : Sys} {H : Hp} : SideL S H [] [] := ⟨rfl, fun i v t a _ => by simp at a⟩
theorem SideL.mono {K : PySem.W.Frag} {S : Sys} (G : S.Good K) {H H' : Hp} {vs : List V} {ss : List (Tm × Bool)} (e : Gr H H') (h : SideL S H vs ss) : SideL S H' vs ss := by
  refine ⟨h.len, fun i v s a b => ?_⟩
  obtain ⟨q, u, rfl, h1, h2⟩ := h.at_ i v s a b
  exact ⟨q, u, rfl, e.keep _ _ h1 True.intro (fun _ z => nomatch z), G.mono e h2⟩
theorem SideL.snoc {S : Sys} {H : Hp} {vs : List V} {ss : List (Tm × Bool)} {q : Addr} {u : V} {s : Tm × Bool} (h : SideL S H vs ss) (hq : H q = some (.tup [u, .bl s.2])) (hu : S.den H u s.1) : SideL S H (vs ++ [.ref q]) (ss ++ [s]) := by
  refine ⟨by rw [List.length_append, List.length_append, h.len]; rfl, fun i v t a b => ?_⟩
  have hl := h.len
  by_cases c : i < vs.length
  · rw [List.getElem?_append_left c] at a
    rw [List.getElem?_append_left (by omega)] at b
    exact h.at_ i v t a b
  · rw [List.getElem?_append_right (by omega)] at a b
    rw [← hl] at b
    cases hj : i - vs.length with
    | zero =>
      rw [hj] at a b
      cases a
      cases b
      exact ⟨q, u, rfl, hq, hu⟩
    | succ j =>
      rw [hj] at a
      simp at a
theorem getLast_at {α : Type} {l : List α} {x : α} (h : l.getLast? = some x) : l[l.length - 1]? = some x := by
  rw [← h, List.getLast?_eq_getElem?]
section
variable {P : Program} {w : World} {K : PySem.W.Frag} {mg : Str → Option Value} {base : Heap} {Fam : Sys → Prop}
theorem ok_last {cc : Addr} (T : Txt K mg cc) : CalX P w K mg base 1 "last_of" (spLast K mg) := by
  have Z := T.Z
  obtain ⟨C_BadPaper, g_BadPaper, F_BadPaper⟩ := T.x_BadPaper.ex
  refine calX_of T.d_last_of sc_last_of (fun vs H Q E h => ?_) (fun f cdv A' outer s H vs Q E hr h => ?_)
  · obtain ⟨v, rfl, _⟩ := h
    rfl
  obtain ⟨v, rfl, h⟩ := h
  refine ⟨_, (pss_cons (ps_if (PW.pt (pw_or (pt_not (pt_val (pe_callB call_isi rfl Z.isinstance (by decide +kernel) (pa_cons (pv 0) (pa_cons (pe_bltn (v := .ty "list") rfl Z.list (by decide +kernel) rfl) pa_nil))))) (pw_or1 (pt_cmpR op_eq (pe_callB call_len_seq rfl Z.len PySem.boot_len (pa_cons (pv 0) pa_nil)) pe_int (nomark _))))) (pss_one (ps_raiseX F_BadPaper g_BadPaper rfl (takes_of rfl rfl rfl rfl) rfl)) pss_nil)
  (pss_one (ps_ret (pe_ix ix_list (pv 0) (pe_op op_sub (pe_callB call_len_seq rfl Z.len PySem.boot_len (pa_cons (pv 0) pa_nil)) pe_int) (fun _ _ => rfl))))), ?_⟩
  rcases h with ⟨a, ys, rfl, ha, q1, q2⟩ | ⟨⟨t, hty, hk⟩, q⟩
  · refine ⟨_, rfl, .ref a, .ty "list", _, _, true, rfl, .ty "list", .base (.lst ha), kit_ty (by decide +kernel), true, rfl, ?_⟩
    refine ⟨_, rfl, a, ys, rfl, .inl (SqL.of ha), rfl, _, rfl, ite2 (fun c => ?_) (fun c => ?_)⟩
    · have c' : (ys.length : Int) = 0 := V.int.inj (of_decide_eq_true c)
      exact q2 (List.eq_nil_of_length_eq_zero (by omega)) _ g_BadPaper
    · have c' : ys.length ≠ 0 := fun z => c (decide_eq_true (by rw [z] <;> rfl))
      obtain ⟨y, hy⟩ : ∃ y, ys.getLast? = some y := by
        cases hl : ys.getLast? with
        | none => rw [List.getLast?_eq_none_iff] at hl; rw [hl] at c'; exact absurd rfl c'
        | some y => exact ⟨y, rfl⟩
      refine ⟨_, rfl, _, rfl, a, ys, rfl, .inl (SqL.of ha), _, 1, rfl, rfl, a, ys, _, y, rfl, rfl, SqL.of ha, ?_, q1 y hy⟩
      rw [show (ys.length : Int) - 1 = ((ys.length - 1 : Nat) : Int) by omega, atI_nat]
      exact getLast_at hy
  · exact ⟨_, rfl, v, .ty "list", _, _, false, rfl, .ty "list", hty, hk, false, rfl, q _ g_BadPaper⟩
theorem splitN_log {n L : Nat} (h : 2 ≤ n) (hl : n.log2 ≤ L) : (splitN n).log2 ≤ L ∧ (n - splitN n).log2 ≤ L := by
  have h1 := splitN_lt h
  have h2 := splitN_pos n
  refine ⟨?_, ?_⟩
  · have h3 : splitN n < 2 ^ (L + 1) := Nat.lt_trans h1 ((Nat.log2_lt (by omega)).mp (by omega))
    exact Nat.le_of_lt_succ ((Nat.log2_lt (by omega)).mpr h3)
  · by_cases e : n - splitN n = 0
    · rw [e]; exact Nat.zero_le _
    · have h3 : n - splitN n < 2 ^ (L + 1) := Nat.lt_of_le_of_lt (Nat.sub_le _ _) ((Nat.log2_lt (by omega)).mp (by omega))
      exact Nat.le_of_lt_succ ((Nat.log2_lt e).mpr h3)
theorem eqv_cons_nil {d : PyData} {ds : List PyData} : PyData.eqv (.list (d :: ds)) (.list []) = false := rfl
theorem DenL.odd {S : Sys} (G : S.Good K) {H : Hp} {a p : Addr} {ys : List V} {ts : List Tm} (ha : SqL K H a ys) (hp : SqL K H p []) (h : DenL S H ys ts) (hd : ∀ t ∈ ts, t.dep ≤ 60) :
    ∃ d e, Dp K H (.ref a) d ∧ Dp K H (.ref p) e ∧ SeqAt.shaped d = true ∧ SeqAt.shaped e = true ∧ PyData.eqv d e = decide (ts.length = 0) := by
  obtain ⟨ds, a1, b, c, e⟩ := DenL.same G h h hd
  have c' : (PyData.list ds).canLay0 = true := c
  refine ⟨.list ds, .list [], .lst ha a1, .lst hp .nil, shaped_of c' (by show PyData.depthAll ds + 1 ≤ 64; omega), by decide +kernel, ?_⟩
  cases a1 with
  | nil =>
    rw [decide_eq_true (show ts.length = 0 from h.len.symm)]
    rfl
  | cons _ _ =>
    rw [decide_eq_false (show ts.length ≠ 0 from fun z => by rw [← h.len] at z; cases z), eqv_cons_nil]
end

def spRisen (K : PySem.W.Frag) (mg : Str → Option Value) (Fam : Sys → Prop) : Sp := fun vs H Q E => ∃ (S : Sys) (leaf : V) (lt : Tm) (place n : Nat) (v : V) (r : Nat), Fam S ∧ vs = [.ref S.f, leaf, .int (place : Int), .int (n : Int), v] ∧ S.den H leaf lt ∧ place < n ∧ n.log2 ≤ 1000 ∧ S.ok H (r + plen place n) ∧
  ((∃ a ys ts, v = .ref a ∧ H a = some (.lst ys) ∧ DenL S H ys ts ∧ ts.length ≤ 100000 ∧ (∀ t ∈ ts, t.dep ≤ 60) ∧
      (ts.length = plen place n → ∀ u H', Ext H H' → S.ok H' r → S.den H' u (riseT lt (sidesT place n ts)) → Q u H') ∧
      (ts.length ≠ plen place n → ∀ C H', mg "BadPaper" = some (.ref C) → Ext H H' → S.ok H' r → E (.ref C) none H')) ∨
   ((∀ H', Ext H H' → Odd K H' v) ∧ ∀ C H', mg "BadPaper" = some (.ref C) → Ext H H' → S.ok H' r → E (.ref C) none H'))
section
variable {P : Program} {w : World} {K : PySem.W.Frag} {mg : Str → Option Value} {base : Heap} {Fam : Sys → Prop}
theorem ok_risen {cc : Addr} (T : Txt K mg cc) (A : SlA P w K mg base Fam) (C_last_of : CalX P w K mg base 1 "last_of" (spLast K mg)) (C_split : Cal P w K mg base 1 "split" spSplit []) (C_pair_seal : Cal P w K mg base 2 "pair_seal" (spPair Fam) []) : CalX P w K mg base 3 "risen" (spRisen K mg Fam) := by
  have Z := T.Z
  obtain ⟨C_BadPaper, g_BadPaper, F_BadPaper⟩ := T.x_BadPaper.ex
  refine calX_of T.d_risen sc_risen (fun vs H Q E h => ?_) (fun f cdv A' outer s H vs Q E hr h => ?_)
  · obtain ⟨S, leaf, lt, place, n, v, r, _, rfl, _⟩ := h
    rfl
  obtain ⟨S, leaf, lt, place, n, v, r, hF, rfl, hleaf, hpn, hlog, hok, h⟩ := h
  have G := A.good hF
  refine ⟨_, (pss_cons (ps_par (i := 5) (j := 6) rfl sc_risen.nd rfl rfl (by decide) rfl rfl (pa_cons (pv 4) (pa_cons (pe_lst pa_nil) pa_nil)) (by rfl))
  (pss_cons (ps_while (passes_of rfl) (pt_cmpR op_gt (pv 3) pe_int (nomark _)) (pss_cons (ps_set (i := 7) sc_risen.nd rfl (Or.inl rfl) (pe_cx C_last_of (takes_of rfl rfl rfl rfl) hr (by omega) rfl (pa_cons (pv 5) pa_nil)))
  (pss_cons (ps_set (i := 5) sc_risen.nd rfl (Or.inl rfl) (pe_slice sl_list (pv 5) po_none (po_some (pe_op op_sub (pe_callB call_len_seq rfl Z.len PySem.boot_len (pa_cons (pv 5) pa_nil)) pe_int))))
  (pss_cons (ps_set (i := 8) sc_risen.nd rfl (Or.inl rfl) (pe_c C_split hr (by omega) rfl (pa_cons (pv 3) pa_nil)))
  (pss_cons (ps_expr (pe_bm PySem.F.plainAttrs_list PySem.F.slot_list_append PySem.F.type_list_append mt_append (pv 6) (pa_cons (pe_tup (pa_cons (pv 7) (pa_cons (pe_cmpR op_lt (pv 2) (pv 8) (nomark _)) pa_nil))) pa_nil)))
  (pss_one (ps_if (pt_cmpR op_lt (pv 2) (pv 8) (nomark _)) (pss_one (ps_set (i := 3) sc_risen.nd rfl (Or.inl rfl) (pv 8))) (pss_one (ps_par (i := 2) (j := 3) rfl sc_risen.nd rfl rfl (by decide) rfl rfl (pa_cons (pe_op op_sub (pv 2) (pv 8)) (pa_cons (pe_op op_sub (pv 3) (pv 8)) pa_nil)) (by rfl))))))))))
  (pss_cons (ps_if (pt_cmpR (op_neD hr.units) (pv 5) (pe_lst pa_nil) (nomark _)) (pss_one (ps_raiseX F_BadPaper g_BadPaper rfl (takes_of rfl rfl rfl rfl) rfl)) pss_nil)
  (pss_cons (ps_set (i := 9) sc_risen.nd rfl (Or.inl rfl) (pv 1))
  (pss_cons (ps_for (passes_of rfl) rfl (pi_list (pe_revL (pv 6))) (pg_tup rfl (pgs_cons (pg_name (i := 7) sc_risen.nd rfl (Or.inl rfl)) (pgs_cons (pg_name (i := 10) sc_risen.nd rfl (Or.inl rfl)) pgs_nil))) (pss_one (ps_set (i := 9) sc_risen.nd rfl (Or.inl rfl) (pe_ifExp (pt_val (pv 10)) (pe_c C_pair_seal hr (by omega) rfl (pa_cons (pv 0) (pa_cons (pv 9) (pa_cons (pv 7) pa_nil)))) (pe_c C_pair_seal hr (by omega) rfl (pa_cons (pv 0) (pa_cons (pv 7) (pa_cons (pv 9) pa_nil))))))))
  (pss_one (ps_ret (pv 9)))))))), ?_⟩
  refine ⟨_, rfl, by show 0 ≤ sizeLine; decide, fun p hp => ⟨_, _, rfl, fun m σ H' => ∃ (place' n' : Nat) (w' : V) (ss : List (Tm × Bool)) (ssv : List V) (y7 y8 : Option V), n' = m ∧ σ = [some (.ref S.f), some leaf, some (.int (place' : Int)), some (.int (n' : Int)), some v, some w', some (.ref p), y7, y8, none, none] ∧
    Ext H H' ∧ S.ok H' (r + plen place n) ∧ H' p = some (.lst ssv) ∧ SideL S H' ssv ss ∧ place' < n' ∧ n'.log2 ≤ 1000 ∧ ss.length ≤ 100000 ∧ plen place' n' + ss.length = plen place n ∧
    ((∃ b ys ts, w' = .ref b ∧ H' b = some (.lst ys) ∧ b ≠ p ∧ DenL S H' ys ts ∧ ts.length + ss.length ≤ 100000 ∧ (∀ t ∈ ts, t.dep ≤ 60) ∧
      (ts.length = plen place' n' → ∀ u H', Ext H H' → S.ok H' r → S.den H' u (riseT lt (ss ++ sidesT place' n' ts)) → Q u H') ∧
      (ts.length ≠ plen place' n' → ∀ C H', mg "BadPaper" = some (.ref C) → Ext H H' → S.ok H' r → E (.ref C) none H')) ∨
     (ss = [] ∧ (∀ H2, Ext H H2 → Odd K H2 w') ∧ ∀ C H', mg "BadPaper" = some (.ref C) → Ext H H' → S.ok H' r → E (.ref C) none H')), ?_, ?_⟩⟩
  · refine ⟨n, place, n, v, [], [], none, none, rfl, rfl, Ext.new hp, G.keep (Kp.new hp) hok, upd_same, .nil, hpn, hlog, Nat.zero_le _, rfl, ?_⟩
    rcases h with ⟨a, ys, ts, rfl, ha, hd, hl, hdep, q1, q2⟩ | ⟨o, q⟩
    · exact .inl ⟨a, ys, ts, rfl, by rw [upd_ne (ne_of_none ha hp)]; exact ha, ne_of_none ha hp, hd.mono G (Kp.new hp).gr, hl, hdep, q1, q2⟩
    · exact .inr ⟨rfl, o, q⟩
  rintro m σ H1 ⟨place', n', w', ss, ssv, y7, y8, rfl, rfl, x1, ok1, hp1, hss, hlt, hlog', hsl, hpl, hw⟩
  refine ⟨_, rfl, _, 1, rfl, rfl, _, rfl, ite2 (fun c => ?_) (fun c => ?_)⟩
  · have c' : 1 < (n' : Int) := of_decide_eq_true c
    have h2 : 2 ≤ n' := by omega
    have hs1 := splitN_lt h2
    have hs2 := splitN_pos n'
    obtain ⟨lg1, lg2⟩ := splitN_log h2 hlog'
    refine ⟨_, fun σ' H' h => h, ?_⟩
    refine ⟨_, rfl, w', rfl, ?_⟩
    rcases hw with ⟨b, ys, ts, rfl, hb, hbp, hd, hl, hdep, q1, q2⟩ | ⟨rfl, o, q⟩
    · refine .inl ⟨b, ys, rfl, hb, fun y hy => ?_, fun e C hC => ?_⟩
      · have hy' := getLast_at hy
        have hlen := hd.len
        obtain ⟨t, ht⟩ : ∃ t, ts[ys.length - 1]? = some t := ⟨ts[ys.length - 1]'(by have := (List.getElem?_eq_some_iff.mp hy').1; omega), List.getElem?_eq_getElem _⟩
        have hyt := hd.at_ _ _ _ hy' ht
        have hpos : 0 < ts.length := by have := (List.getElem?_eq_some_iff.mp ht).1; omega
        refine ⟨_, rfl, _, rfl, b, ys, rfl, .inl (SqL.of hb), _, 1, rfl, rfl, ((ys.length - 1 : Nat) : Int), ?_, b, ys, rfl, SqL.of hb, fun p1 np1 => ?_⟩
        · rw [show ((ys.length - 1 : Nat) : Int) = (ys.length : Int) - 1 by omega]
        rw [cut_to]
        have y1 := Ext.new (o := .lst (ys.take (ys.length - 1))) np1
        have k1 := Kp.new (o := .lst (ys.take (ys.length - 1))) np1
        refine ⟨_, rfl, n', rfl, h2, by omega, ?_⟩
        have np1p : p1 ≠ p := fun z => by rw [z, hp1] at np1; cases np1
        refine ⟨_, rfl, .inl ⟨rfl, ssv, SqL.of (by rw [upd_ne np1p.symm]; exact hp1)⟩, _, rfl, _, rfl, _, rfl, _, _, rfl, rfl, by show 2 ≤ sizeLine; decide, fun q hq => ?_⟩
        have npq : q ≠ p := fun z => by rw [z, upd_ne np1p.symm, hp1] at hq; cases hq
        have z1 : (upd (upd H1 p1 (.lst (ys.take (ys.length - 1)))) q (.tup [y, .bl (decide ((place' : Int) < ((splitN n' : Nat) : Int)))])) p = some (.lst ssv) := by rw [upd_ne npq.symm, upd_ne np1p.symm]; exact hp1
        have y2 := y1.trans (Ext.new (o := .tup [y, .bl (decide ((place' : Int) < ((splitN n' : Nat) : Int)))]) hq)
        have k2 := k1.trans (Kp.new (o := .tup [y, .bl (decide ((place' : Int) < ((splitN n' : Nat) : Int)))]) hq)
        have z2 : (upd (upd H1 p1 (.lst (ys.take (ys.length - 1)))) q (.tup [y, .bl (decide ((place' : Int) < ((splitN n' : Nat) : Int)))])) q = some (.tup [y, .bl (decide ((place' : Int) < ((splitN n' : Nat) : Int)))]) := upd_same
        have z3 : (upd (upd H1 p1 (.lst (ys.take (ys.length - 1)))) q (.tup [y, .bl (decide ((place' : Int) < ((splitN n' : Nat) : Int)))])) p1 = some (.lst (ys.take (ys.length - 1))) := by rw [upd_ne (ne_of_none upd_same hq)]; exact upd_same
        generalize upd (upd H1 p1 (.lst (ys.take (ys.length - 1)))) q (.tup [y, .bl (decide ((place' : Int) < ((splitN n' : Nat) : Int)))]) = H2 at y2 k2 z1 z2 z3 ⊢
        have hsl2 := hss.len
        refine ⟨p, ssv, _, rfl, rfl, z1, by rw [hsl2, sizeLine_eq]; omega, ?_⟩
        have k3 : Kp H2 (upd H2 p (.lst (ssv ++ [.ref q]))) := Kp.lst z1
        have x3 : Ext H (upd H2 p (.lst (ssv ++ [.ref q]))) := (x1.trans y2).mut hp
        have z4 : (upd H2 p (.lst (ssv ++ [.ref q]))) p1 = some (.lst (ys.take (ys.length - 1))) := by rw [upd_ne np1p]; exact z3
        have z5 : (upd H2 p (.lst (ssv ++ [.ref q]))) q = some (.tup [y, .bl (decide ((place' : Int) < ((splitN n' : Nat) : Int)))]) := by rw [upd_ne npq]; exact z2
        have ok3 := G.keep (k2.trans k3) ok1
        have gr3 := (k2.trans k3).gr
        refine ⟨_, rfl, _, rfl, _, _, rfl, rfl, _, rfl, ite2 (fun c2 => ?_) (fun c2 => ?_)⟩
        · have c2' : (place' : Int) < ((splitN n' : Nat) : Int) := of_decide_eq_true c2
          have el : ts.getLastD nonT = t := by
            rw [List.getLastD_eq_getLast?, List.getLast?_eq_getElem?, ← hlen, ht]
            rfl
          have esd : sidesT place' n' ts = (t, true) :: sidesT place' (splitN n') ts.dropLast := by rw [sidesT_low h2 (by omega), el]
          have epl := plen_low (place := place') h2 (by omega)
          refine ⟨_, rfl, ?_⟩
          refine ⟨splitN n', hs1, place', splitN n', .ref p1, ss ++ [(t, true)], ssv ++ [.ref q], _, _, rfl, rfl, x3, ok3, upd_same, (hss.mono G gr3).snoc (by rw [z5, decide_eq_true c2'] ) (G.mono gr3 hyt), by omega, lg1, by rw [List.length_append]; show ss.length + 1 ≤ _; omega, by rw [List.length_append]; show plen place' (splitN n') + (ss.length + 1) = _; omega, .inl ⟨p1, _, ts.dropLast, rfl, z4, np1p, ?_, ?_, fun t ht => hdep t (List.dropLast_subset _ ht), fun el2 => ?_, fun el2 => q2 ?_⟩⟩
          · have := (hd.take (ts.length - 1)).mono G gr3
            rwa [← List.dropLast_eq_take, ← hlen] at this
          · rw [List.length_dropLast, List.length_append]
            show _ + (ss.length + 1) ≤ _
            omega
          · rw [List.length_dropLast] at el2
            have := q1 (by omega)
            rw [esd] at this
            rw [List.append_assoc]
            exact this
          · rw [List.length_dropLast] at el2
            omega
        · have c2' : ¬ (place' : Int) < ((splitN n' : Nat) : Int) := of_decide_eq_false (Bool.eq_false_iff.mpr c2)
          have el : ts.getLastD nonT = t := by
            rw [List.getLastD_eq_getLast?, List.getLast?_eq_getElem?, ← hlen, ht]
            rfl
          have esd : sidesT place' n' ts = (t, false) :: sidesT (place' - splitN n') (n' - splitN n') ts.dropLast := by rw [sidesT_high h2 (by omega), el]
          have epl := plen_high (place := place') h2 (by omega)
          refine ⟨_, rfl, _, rfl, _, _, rfl, rfl, _, rfl, _, rfl, _, _, rfl, rfl, _, _, rfl, ?_⟩
          refine ⟨n' - splitN n', by omega, place' - splitN n', n' - splitN n', .ref p1, ss ++ [(t, false)], ssv ++ [.ref q], some y, some (.int ((splitN n' : Nat) : Int)), rfl, ?_, x3, ok3, upd_same, (hss.mono G gr3).snoc (by rw [z5, decide_eq_false c2'] ) (G.mono gr3 hyt), by omega, lg2, by rw [List.length_append]; show ss.length + 1 ≤ _; omega, by rw [List.length_append]; show plen (place' - splitN n') (n' - splitN n') + (ss.length + 1) = _; omega, .inl ⟨p1, _, ts.dropLast, rfl, z4, np1p, ?_, ?_, fun t ht => hdep t (List.dropLast_subset _ ht), fun el2 => ?_, fun el2 => q2 ?_⟩⟩
          · rw [show ((place' - splitN n' : Nat) : Int) = (place' : Int) - ((splitN n' : Nat) : Int) by omega, show ((n' - splitN n' : Nat) : Int) = (n' : Int) - ((splitN n' : Nat) : Int) by omega]
            rfl
          · have := (hd.take (ts.length - 1)).mono G gr3
            rwa [← List.dropLast_eq_take, ← hlen] at this
          · rw [List.length_dropLast, List.length_append]
            show _ + (ss.length + 1) ≤ _
            omega
          · rw [List.length_dropLast] at el2
            have := q1 (by omega)
            rw [esd] at this
            rw [List.append_assoc]
            exact this
          · rw [List.length_dropLast] at el2
            omega
      · refine q2 ?_ C H1 hC x1 (G.less ok1 (by omega))
        have hlen := hd.len
        rw [e] at hlen
        have : plen place' n' ≠ 0 := by
          by_cases hp : place' < splitN n'
          · rw [plen_low h2 hp]
            omega
          · rw [plen_high h2 hp]
            omega
        rw [← hlen]
        exact this.symm
    · exact .inr ⟨(o H1 x1).ty, fun C hC => q C H1 hC x1 (G.less ok1 (by omega))⟩
  · have c' : ¬ 1 < (n' : Int) := of_decide_eq_false (Bool.eq_false_iff.mpr c)
    have pz : plen place' n' = 0 := plen_one (by omega)
    refine ⟨_, rfl, by show 0 ≤ sizeLine; decide, fun p2 hp2 => ?_⟩
    have x2 := x1.trans (Ext.new (o := .lst []) hp2)
    have k2 := Kp.new (o := .lst []) hp2
    rcases hw with ⟨b, ys, ts, rfl, hb, hbp, hd, hl, hdep, q1, q2⟩ | ⟨rfl, o, q⟩
    · obtain ⟨d, e, a1, a2, a3, a4, a5⟩ := (hd.mono G k2.gr).odd (K := K) G (a := b) (p := p2) (SqL.of (by rw [upd_ne (ne_of_none hb hp2)]; exact hb)) (SqL.of upd_same) hdep
      refine ⟨d, e, a1, a2, a3, a4, _, rfl, ?_⟩
      rw [a5]
      by_cases hz : ts.length = 0
      · rw [decide_eq_true hz]
        refine ⟨_, rfl, ?_⟩
        have x4 : Ext H (upd H1 p2 (.lst [])) := x2
        have hp4 : (upd H1 p2 (.lst [])) p = some (.lst ssv) := by rw [upd_ne (ne_of_none hp1 hp2)]; exact hp1
        have ok4 := G.keep k2 ok1
        have hss4 := hss.mono G k2.gr
        refine ⟨_, rfl, p, ssv, rfl, SqL.of hp4, fun p3 np3 => ⟨p3, rfl, ⟨_, SqL.of upd_same⟩, ?_⟩⟩
        have x5 := x4.trans (Ext.new (o := .lst ssv.reverse) np3)
        have k5 := Kp.new (o := .lst ssv.reverse) np3
        have hp5 : (upd (upd H1 p2 (.lst [])) p3 (.lst ssv.reverse)) p3 = some (.lst ssv.reverse) := upd_same
        have ok5 := G.keep k5 ok4
        have hss5 := hss4.mono G k5.gr
        have hleaf5 := G.mono x5.gr hleaf
        generalize upd (upd H1 p2 (.lst [])) p3 (.lst ssv.reverse) = H5 at x5 hp5 ok5 hss5 hleaf5 ⊢
        have hsl2 := hss.len
        refine for_list (K := K) (a := p3) (xs := ssv.reverse) (fun i σ H' => ∃ (u : V) (z7 z8 z10 : Option V), σ = [some (.ref S.f), some leaf, some (.int (place' : Int)), some (.int (n' : Int)), some v, some (.ref b), some (.ref p), z7, z8, some u, z10] ∧ Ext H5 H' ∧ S.ok H' (r + (ss.length - i)) ∧ S.den H' u (riseT lt (ss.drop (ss.length - i))))
          ⟨leaf, _, _, _, rfl, Ext.refl _, G.less ok5 (by omega), by rw [Nat.sub_zero, List.drop_length]; exact hleaf5⟩ (fun i σ H' _ ⟨_, _, _, _, _, x, _⟩ => SqL.of (x.lst hp5)) ?_ ?_
        · rintro i y σ H' hi ⟨u, z7, z8, z10, rfl, x, ok, hu⟩
          have hlt := (List.getElem?_eq_some_iff.mp hi).1
          rw [List.length_reverse] at hlt
          rw [List.getElem?_reverse hlt] at hi
          have hj : ssv.length - 1 - i < ss.length := by omega
          obtain ⟨q, a, rfl, hq, ha⟩ := (hss5.mono G x.gr).at_ _ y (ss[ssv.length - 1 - i]) hi (List.getElem?_eq_getElem hj)
          have ed : ss.drop (ss.length - (i + 1)) = ss[ssv.length - 1 - i] :: ss.drop (ss.length - i) := by
            rw [show ss.length - (i + 1) = ssv.length - 1 - i by omega, List.drop_eq_getElem_cons hj, show ssv.length - 1 - i + 1 = ss.length - i by omega]
          refine ⟨q, _, rfl, SqT.of hq, rfl, ?_⟩
          rw [ed, riseT_cons]
          generalize ss[ssv.length - 1 - i] = sd at hq ha ⊢
          obtain ⟨st, sb⟩ := sd
          refine ⟨_, _, rfl, _, _, rfl, rfl, ?_⟩
          refine ⟨_, rfl, _, rfl, ?_⟩
          cases sb with
          | true =>
            refine iteT ?_
            refine ⟨_, rfl, _, rfl, _, rfl, S, u, a, _, _, r + (ss.length - (i + 1)), hF, rfl, G.less ok (by omega), hu, ha, fun v' H'' x' ok' d' => ?_⟩
            exact ⟨v', _, _, _, rfl, x.trans x', ok', d'⟩
          | false =>
            refine iteF ?_
            refine ⟨_, rfl, _, rfl, _, rfl, S, a, u, _, _, r + (ss.length - (i + 1)), hF, rfl, G.less ok (by omega), ha, hu, fun v' H'' x' ok' d' => ?_⟩
            exact ⟨v', _, _, _, rfl, x.trans x', ok', d'⟩
        · rintro σ H6 ⟨u, z7, z8, z10, rfl, x6, ok6, hu⟩
          rw [List.length_reverse, hsl2, Nat.sub_self] at hu
          refine ⟨u, rfl, q1 (by omega) u H6 (x5.trans x6) (G.less ok6 (by omega)) ?_⟩
          rw [sidesT_one (by omega), List.append_nil]
          exact hu
      · rw [decide_eq_false hz]
        exact q2 (by omega) _ _ g_BadPaper x2 (G.less (G.keep k2 ok1) (by omega))
    · obtain ⟨d, a1, a2, a3⟩ := (o _ x2).ne
      refine ⟨d, .list [], a1, .lst (SqL.of upd_same) .nil, a2, by decide +kernel, _, rfl, ?_⟩
      rw [a3]
      exact q _ _ g_BadPaper x2 (G.less (G.keep k2 ok1) (by omega))
end

/-! ### a leaf comes to the top by the right path alone -/
theorem pairT_inj {a b c d : Tm} (h : pairT a b = pairT c d) : a = c ∧ b = d := by
  unfold pairT at h
  exact ⟨(Tm.sl.inj h).2.1, (Tm.sl.inj h).2.2⟩
theorem last_split {α : Type} {l : List α} {d : α} (h : l.length ≠ 0) : l = l.dropLast ++ [l.getLastD d] := by
  rcases List.eq_nil_or_concat l with e | ⟨l', x, e⟩
  · rw [e] at h
    exact absurd rfl h
  · rw [e, List.concat_eq_append, getLastD_concat, List.dropLast_concat]
theorem rise_inj (L : Tm) (us : List Tm) (place : Nat) (ps : List Tm) (h : place < us.length) (hl : ps.length = plen place us.length) : riseT L (sidesT place us.length ps) = topT us ↔ (L = us.getD place nonT ∧ ps = pathT us place) := by
  by_cases h2 : us.length < 2
  · rw [plen_one h2] at hl
    rw [sidesT_one h2, topT_single (by omega), pathT_one h2, show place = 0 by omega, List.eq_nil_of_length_eq_zero hl]
    show L = _ ↔ _
    simp
  · have hs := splitN_lt (n := us.length) (by omega)
    have hs0 := splitN_pos us.length
    have e1 : (us.take (splitN us.length)).length = splitN us.length := by
      rw [List.length_take]
      omega
    have e2 : (us.drop (splitN us.length)).length = us.length - splitN us.length := List.length_drop
    by_cases hp : place < splitN us.length
    · rw [plen_low (by omega) hp] at hl
      have hps := last_split (l := ps) (d := nonT) (by omega)
      have ih := rise_inj L (us.take (splitN us.length)) place ps.dropLast (by omega) (by rw [List.length_dropLast, e1]; omega)
      rw [e1] at ih
      have eg : (us.take (splitN us.length)).getD place nonT = us.getD place nonT := by
        rw [List.getD_eq_getElem?_getD, List.getD_eq_getElem?_getD, List.getElem?_take_of_lt hp]
      rw [eg] at ih
      rw [sidesT_low (by omega) hp, riseT_cons, topT_more (ts := us) (by omega), pathT_low (by omega) hp]
      show pairT _ _ = pairT _ _ ↔ _
      constructor
      · intro q
        obtain ⟨q1, q2⟩ := pairT_inj q
        obtain ⟨q3, q4⟩ := ih.mp q1
        refine ⟨q3, ?_⟩
        rw [hps, q4]
        exact congrArg (fun z => pathT (us.take (splitN us.length)) place ++ [z]) q2
      · rintro ⟨q1, q2⟩
        have q3 : ps.dropLast = pathT (us.take (splitN us.length)) place := by rw [q2, List.dropLast_concat]
        have q4 : ps.getLastD nonT = topT (us.drop (splitN us.length)) := by rw [q2, getLastD_concat]
        rw [ih.mpr ⟨q1, q3⟩, q4]
    · rw [plen_high (by omega) hp] at hl
      have hps := last_split (l := ps) (d := nonT) (by omega)
      have ih := rise_inj L (us.drop (splitN us.length)) (place - splitN us.length) ps.dropLast (by omega) (by rw [List.length_dropLast, e2]; omega)
      rw [e2] at ih
      have eg : (us.drop (splitN us.length)).getD (place - splitN us.length) nonT = us.getD place nonT := by
        rw [List.getD_eq_getElem?_getD, List.getD_eq_getElem?_getD, List.getElem?_drop, show splitN us.length + (place - splitN us.length) = place by omega]
      rw [eg] at ih
      rw [sidesT_high (by omega) hp, riseT_cons, topT_more (ts := us) (by omega), pathT_high (by omega) hp]
      show pairT _ _ = pairT _ _ ↔ _
      constructor
      · intro q
        obtain ⟨q1, q2⟩ := pairT_inj q
        obtain ⟨q3, q4⟩ := ih.mp q2
        refine ⟨q3, ?_⟩
        rw [hps, q4]
        exact congrArg (fun z => pathT (us.drop (splitN us.length)) (place - splitN us.length) ++ [z]) q1
      · rintro ⟨q1, q2⟩
        have q3 : ps.dropLast = pathT (us.drop (splitN us.length)) (place - splitN us.length) := by rw [q2, List.dropLast_concat]
        have q4 : ps.getLastD nonT = topT (us.take (splitN us.length)) := by rw [q2, getLastD_concat]
        rw [ih.mpr ⟨q1, q3⟩, q4]
termination_by us.length
decreasing_by
  · rw [List.length_take]; omega
  · rw [List.length_drop]; omega
theorem riseT_ws {L : Tm} {ss : List (Tm × Bool)} (hL : WS L) (h : ∀ s ∈ ss, WS s.1) : WS (riseT L ss) := by
  induction ss with
  | nil => exact hL
  | cons s ss ih =>
    have i := ih fun s hs => h s (List.mem_cons_of_mem _ hs)
    have j := h s List.mem_cons_self
    rw [riseT_cons]
    unfold stepT
    split
    · exact .pair i j
    · exact .pair j i
theorem riseT_dep {L : Tm} {ss : List (Tm × Bool)} {n : Nat} (hL : L.dep ≤ n) (h : ∀ s ∈ ss, s.1.dep ≤ n) : (riseT L ss).dep ≤ n + ss.length := by
  induction ss with
  | nil => exact hL
  | cons s ss ih =>
    have i := ih fun s hs => h s (List.mem_cons_of_mem _ hs)
    have j := h s List.mem_cons_self
    rw [riseT_cons, List.length_cons]
    unfold stepT
    split
    · show max _ _ + 1 ≤ _
      omega
    · show max _ _ + 1 ≤ _
      omega
theorem sidesT_mem {place n : Nat} {ps : List Tm} (hl : ps.length = plen place n) : ∀ s ∈ sidesT place n ps, s.1 ∈ ps := by
  by_cases h2 : n < 2
  · rw [sidesT_one h2]
    intro s hs
    cases hs
  · have hs := splitN_lt (n := n) (by omega)
    have hs0 := splitN_pos n
    have lastin : ps.length ≠ 0 → ps.getLastD nonT ∈ ps := fun z => by
      have := last_split (l := ps) (d := nonT) z
      rw [this]
      rw [getLastD_concat]
      exact List.mem_append_right _ (List.mem_singleton.mpr rfl)
    by_cases hp : place < splitN n
    · rw [plen_low (by omega) hp] at hl
      rw [sidesT_low (by omega) hp]
      intro s hs
      rcases List.mem_cons.mp hs with e | e
      · rw [e]
        exact lastin (by omega)
      · exact List.dropLast_subset _ (sidesT_mem (by rw [List.length_dropLast]; omega) s e)
    · rw [plen_high (by omega) hp] at hl
      rw [sidesT_high (by omega) hp]
      intro s hs
      rcases List.mem_cons.mp hs with e | e
      · rw [e]
        exact lastin (by omega)
      · exact List.dropLast_subset _ (sidesT_mem (by rw [List.length_dropLast]; omega) s e)
termination_by n

/-! ### a growth comes to both tops -/
def glen (old n : Nat) : Nat :=
  if h : old < n ∧ 0 < old then if old ≤ splitN n then glen old (splitN n) + 1 else glen (old - splitN n) (n - splitN n) + 1 else 1
termination_by n
decreasing_by
  · exact splitN_lt (by omega)
  · have := splitN_pos n
    omega
theorem glen_all {n : Nat} : glen n n = 1 := by rw [glen, dif_neg (by omega)]
theorem glen_low {old n : Nat} (h0 : 0 < old) (h1 : old < n) (h : old ≤ splitN n) : glen old n = glen old (splitN n) + 1 := by rw [glen, dif_pos ⟨h1, h0⟩, if_pos h]
theorem glen_high {old n : Nat} (h0 : 0 < old) (h1 : old < n) (h : ¬ old ≤ splitN n) : glen old n = glen (old - splitN n) (n - splitN n) + 1 := by rw [glen, dif_pos ⟨h1, h0⟩, if_neg h]
theorem glen_le : ∀ (k old n : Nat), n ≤ 2 ^ k → glen old n ≤ k + 1
  | k, old, n, h => by
    by_cases h2 : old < n ∧ 0 < old
    · obtain ⟨h1, h0⟩ := h2
      cases k with
      | zero => simp at h; omega
      | succ k =>
        obtain ⟨a, b⟩ := splitN_le_pow (show 2 ≤ n by omega) h
        by_cases hp : old ≤ splitN n
        · rw [glen_low h0 h1 hp]
          have := glen_le k old (splitN n) a
          omega
        · rw [glen_high h0 h1 hp]
          have := glen_le k (old - splitN n) (n - splitN n) b
          omega
    · rw [glen, dif_neg h2]
      omega
theorem glen_pos (old n : Nat) : 0 < glen old n := by
  rw [glen]
  split
  · split <;> omega
  · omega
def regT (old n : Nat) (ps : List Tm) : Tm × Tm :=
  if h : old < n ∧ 0 < old then
    if old ≤ splitN n then ((regT old (splitN n) ps.dropLast).1, pairT (regT old (splitN n) ps.dropLast).2 (ps.getLastD nonT))
    else (pairT (ps.getLastD nonT) (regT (old - splitN n) (n - splitN n) ps.dropLast).1, pairT (ps.getLastD nonT) (regT (old - splitN n) (n - splitN n) ps.dropLast).2)
  else (ps.getLastD nonT, ps.getLastD nonT)
termination_by n
decreasing_by
  all_goals first | exact splitN_lt (by omega) | (have := splitN_pos n; omega)
theorem regT_all {n : Nat} {ps : List Tm} : regT n n ps = (ps.getLastD nonT, ps.getLastD nonT) := by rw [regT, dif_neg (by omega)]
theorem regT_low {old n : Nat} {ps : List Tm} (h0 : 0 < old) (h1 : old < n) (h : old ≤ splitN n) : regT old n ps = ((regT old (splitN n) ps.dropLast).1, pairT (regT old (splitN n) ps.dropLast).2 (ps.getLastD nonT)) := by
  rw [regT, dif_pos ⟨h1, h0⟩, if_pos h]
theorem regT_high {old n : Nat} {ps : List Tm} (h0 : 0 < old) (h1 : old < n) (h : ¬ old ≤ splitN n) : regT old n ps = (pairT (ps.getLastD nonT) (regT (old - splitN n) (n - splitN n) ps.dropLast).1, pairT (ps.getLastD nonT) (regT (old - splitN n) (n - splitN n) ps.dropLast).2) := by
  rw [regT, dif_pos ⟨h1, h0⟩, if_neg h]
theorem growT_glen {us : List Tm} {old : Nat} (h0 : 0 < old) (h1 : old ≤ us.length) : (growT us old).length = glen old us.length := by
  by_cases e : old = us.length
  · subst e
    rw [growT_all (by omega), glen_all]
    rfl
  · have hs := splitN_lt (n := us.length) (by omega)
    have hs0 := splitN_pos us.length
    have e1 : (us.take (splitN us.length)).length = splitN us.length := by
      rw [List.length_take]
      omega
    have e2 : (us.drop (splitN us.length)).length = us.length - splitN us.length := List.length_drop
    by_cases hp : old ≤ splitN us.length
    · rw [growT_low h0 (by omega) hp, glen_low h0 (by omega) hp, List.length_append, growT_glen h0 (by omega), e1]
      rfl
    · rw [growT_high h0 (by omega) hp, glen_high h0 (by omega) hp, List.length_append, growT_glen (by omega) (by omega), e2]
      rfl
termination_by us.length
decreasing_by
  · rw [List.length_take]; omega
  · rw [List.length_drop]; omega
/-- by the right growth: both tops -/
theorem reg_grow {us : List Tm} {old : Nat} (h0 : 0 < old) (h1 : old ≤ us.length) : regT old us.length (growT us old) = (topT (us.take old), topT us) := by
  by_cases e : old = us.length
  · subst e
    rw [growT_all (by omega), regT_all, List.take_length]
    rfl
  · have hs := splitN_lt (n := us.length) (by omega)
    have hs0 := splitN_pos us.length
    have hg := splitN_ge (n := us.length) (by omega)
    have e1 : (us.take (splitN us.length)).length = splitN us.length := by
      rw [List.length_take]
      omega
    have e2 : (us.drop (splitN us.length)).length = us.length - splitN us.length := List.length_drop
    by_cases hp : old ≤ splitN us.length
    · rw [growT_low h0 (by omega) hp, regT_low h0 (by omega) hp, List.dropLast_concat, getLastD_concat]
      have ih := reg_grow (us := us.take (splitN us.length)) h0 (by omega)
      rw [e1, List.take_take, Nat.min_eq_left hp] at ih
      rw [ih, topT_more (ts := us) (by omega)]
    · rw [growT_high h0 (by omega) hp, regT_high h0 (by omega) hp, List.dropLast_concat, getLastD_concat]
      have ih := reg_grow (us := us.drop (splitN us.length)) (old := old - splitN us.length) (by omega) (by omega)
      rw [e2] at ih
      have lo : (us.take old).length = old := by
        rw [List.length_take]
        omega
      have so : splitN old = splitN us.length := splitN_of (i := (us.length - 1).log2) (by show splitN us.length < old; omega) (by show old ≤ 2 * splitN us.length; omega)
      rw [ih, topT_more (ts := us) (by omega), topT_more (ts := us.take old) (by omega), lo, so, List.take_take, Nat.min_eq_left (by omega), List.drop_take]
termination_by us.length
decreasing_by
  · rw [List.length_take]; omega
  · rw [List.length_drop]; omega
/-- the new top is the row's by the right growth alone -/
theorem reg_inj (us : List Tm) (old : Nat) (ps : List Tm) (h0 : 0 < old) (h1 : old ≤ us.length) (hl : ps.length = glen old us.length) (h : (regT old us.length ps).2 = topT us) : ps = growT us old := by
  have hps := last_split (l := ps) (d := nonT) (by have := glen_pos old us.length; omega)
  by_cases e : old = us.length
  · subst e
    rw [growT_all (by omega)]
    rw [regT_all] at h
    rw [glen_all] at hl
    have : ps.dropLast = [] := List.eq_nil_of_length_eq_zero (by rw [List.length_dropLast]; omega)
    rw [hps, this]
    exact congrArg (fun z => [z]) h
  · have hs := splitN_lt (n := us.length) (by omega)
    have hs0 := splitN_pos us.length
    have e1 : (us.take (splitN us.length)).length = splitN us.length := by
      rw [List.length_take]
      omega
    have e2 : (us.drop (splitN us.length)).length = us.length - splitN us.length := List.length_drop
    by_cases hp : old ≤ splitN us.length
    · rw [regT_low h0 (by omega) hp, topT_more (ts := us) (by omega)] at h
      rw [glen_low h0 (by omega) hp] at hl
      obtain ⟨q1, q2⟩ := pairT_inj h
      have ih := reg_inj (us.take (splitN us.length)) old ps.dropLast h0 (by omega) (by rw [List.length_dropLast, e1]; omega) (by rw [e1]; exact q1)
      rw [growT_low h0 (by omega) hp, ← ih, ← q2]
      exact hps
    · rw [regT_high h0 (by omega) hp, topT_more (ts := us) (by omega)] at h
      rw [glen_high h0 (by omega) hp] at hl
      obtain ⟨q1, q2⟩ := pairT_inj h
      have ih := reg_inj (us.drop (splitN us.length)) (old - splitN us.length) ps.dropLast (by omega) (by omega) (by rw [List.length_dropLast, e2]; omega) (by rw [e2]; exact q2)
      rw [growT_high h0 (by omega) hp, ← ih, ← q1]
      exact hps
termination_by us.length
decreasing_by
  · rw [List.length_take]; omega
  · rw [List.length_drop]; omega
theorem reg_ws {old n : Nat} {ps : List Tm} (hl : ps.length = glen old n) (h : ∀ t ∈ ps, WS t) : WS (regT old n ps).1 ∧ WS (regT old n ps).2 := by
  have hin : ps.getLastD nonT ∈ ps := by
    have := last_split (l := ps) (d := nonT) (by have := glen_pos old n; omega)
    rw [this, getLastD_concat]
    exact List.mem_append_right _ (List.mem_singleton.mpr rfl)
  have hd : ∀ t ∈ ps.dropLast, WS t := fun t ht => h t (List.dropLast_subset _ ht)
  by_cases e : old < n ∧ 0 < old
  · obtain ⟨h1, h0⟩ := e
    have hs := splitN_lt (n := n) (by omega)
    have hs0 := splitN_pos n
    by_cases hp : old ≤ splitN n
    · rw [glen_low h0 h1 hp] at hl
      rw [regT_low h0 h1 hp]
      obtain ⟨a, b⟩ := reg_ws (old := old) (n := splitN n) (ps := ps.dropLast) (by rw [List.length_dropLast]; omega) hd
      exact ⟨a, .pair b (h _ hin)⟩
    · rw [glen_high h0 h1 hp] at hl
      rw [regT_high h0 h1 hp]
      obtain ⟨a, b⟩ := reg_ws (old := old - splitN n) (n := n - splitN n) (ps := ps.dropLast) (by rw [List.length_dropLast]; omega) hd
      exact ⟨.pair (h _ hin) a, .pair (h _ hin) b⟩
  · rw [regT, dif_neg e]
    exact ⟨h _ hin, h _ hin⟩
termination_by n
theorem reg_dep {d old n : Nat} {ps : List Tm} (hl : ps.length = glen old n) (h : ∀ t ∈ ps, t.dep ≤ d) : (regT old n ps).1.dep ≤ d + ps.length ∧ (regT old n ps).2.dep ≤ d + ps.length := by
  have hin : ps.getLastD nonT ∈ ps := by
    have := last_split (l := ps) (d := nonT) (by have := glen_pos old n; omega)
    rw [this, getLastD_concat]
    exact List.mem_append_right _ (List.mem_singleton.mpr rfl)
  have hd : ∀ t ∈ ps.dropLast, t.dep ≤ d := fun t ht => h t (List.dropLast_subset _ ht)
  have hi := h _ hin
  by_cases e : old < n ∧ 0 < old
  · obtain ⟨h1, h0⟩ := e
    have hs := splitN_lt (n := n) (by omega)
    have hs0 := splitN_pos n
    by_cases hp : old ≤ splitN n
    · rw [glen_low h0 h1 hp] at hl
      rw [regT_low h0 h1 hp]
      obtain ⟨a, b⟩ := reg_dep (d := d) (old := old) (n := splitN n) (ps := ps.dropLast) (by rw [List.length_dropLast]; omega) hd
      rw [List.length_dropLast] at a b
      exact ⟨Nat.le_trans a (by omega), by show max _ _ + 1 ≤ _; omega⟩
    · rw [glen_high h0 h1 hp] at hl
      rw [regT_high h0 h1 hp]
      obtain ⟨a, b⟩ := reg_dep (d := d) (old := old - splitN n) (n := n - splitN n) (ps := ps.dropLast) (by rw [List.length_dropLast]; omega) hd
      rw [List.length_dropLast] at a b
      exact ⟨by show max _ _ + 1 ≤ _; omega, by show max _ _ + 1 ≤ _; omega⟩
  · rw [regT, dif_neg e]
    exact ⟨Nat.le_trans hi (by omega), Nat.le_trans hi (by omega)⟩
termination_by n

/-! ### list(reversed(a list)) -/
section
variable {prog : Program} {w : World} {A : Around} {E : Value → Shared → Prop} {s : Shared}
theorem list_rev {it l : Addr} {items : Array Value} {Q : Value → Shared → Prop} (hh : A.handled = none) (hit : s.heap.IsRevIter it l ((items.size : Int) - 1)) (hl : s.heap.IsList l items) (hne : l ≠ it) (hn : items.size ≤ sizeLine)
    (hQ : ∀ (h' : Heap) (tk : Nat) (acc : Array Value) (c : Nat), (∀ b o, b ≠ it → s.heap.get? b = some o → h'.get? b = some o) → h'.get? s.heap.objs.size = some { cls := .type "list", dict := none, data := .seq acc c, slots := #[] } → ItemsOf (fun i v => items[items.size - 1 - i]? = some v) acc items.size → Q (.ref s.heap.objs.size) { s with heap := h', toks := tk }) :
    wpAny (model prog w) A (call (.type "list") [.ref it]) Q E s := by
  have W := (Walks.listRev (prog := prog) (w := w) (A := A.in1.in1) hh it l hne items).toS
  obtain ⟨oi, hoi, _⟩ := id hit
  obtain ⟨ol, hol, _⟩ := id hl
  have hSi : s.heap.objs.size ≠ it := Nat.ne_of_gt (Heap.lt_size hoi)
  have hSl : s.heap.objs.size ≠ l := Nat.ne_of_gt (Heap.lt_size hol)
  have hSf : s.heap.objs.size ∉ [it, l] := by simp only [List.mem_cons, List.not_mem_nil, or_false, not_or]; exact ⟨hSi, hSl⟩
  refine callType_codes (Q₁ := fun obj s₁ => obj = .ref s.heap.objs.size ∧ s₁ = { s with heap := s.heap.push { cls := .type "list", data := .seq #[] } }) F.called_list (F.typeCall_list_1 _) F.entry_list_init
    (code_list_new _ ⟨rfl, rfl⟩) fun obj s₁ h₁ => ?_
  obtain ⟨rfl, rfl⟩ := h₁
  have hS : (s.heap.push { cls := .type "list", data := .seq #[] }).get? s.heap.objs.size = some { cls := .type "list", data := .seq #[] } := Heap.get?_push_size _ rfl
  refine ⟨⟨_, hS, rfl⟩, F.args_list_init_2 _ _, ?_⟩
  show wpAny _ A.in1.in1 (do let old ← Builtin.List.listItems (.ref s.heap.objs.size); Builtin.List.listUpdate (.ref s.heap.objs.size) (fun _ => #[]); letGo old.toList.reverse; Builtin.List.listExtendWith (.ref s.heap.objs.size) (.ref it) .none) _ _ _
  refine wpAny_bind ?_
  unfold Builtin.List.listItems
  refine wpAny_bind (wpAny_seqItems hS rfl (wpAny_pure ?_))
  show wpAny _ A.in1.in1 (updateSeq s.heap.objs.size (fun _ => #[]) >>= fun _ => letGo (#[] : Array Value).toList.reverse >>= fun _ => Builtin.List.listExtendWith (.ref s.heap.objs.size) (.ref it) .none) _ _ _
  refine wpAny_bind (wpAny_updateSeq hS rfl ?_)
  have hS2 := Heap.get?_update_self (Obj.mapSeq (fun _ => (#[] : Array Value))) hS rfl
  refine wpAny_bind (wpAny_letGo ?_)
  have up : ∀ (h : Heap) (f : Obj → Obj), (∀ b o, s.heap.get? b = some o → h.get? b = some o) → ∀ b o, s.heap.get? b = some o → (h.update s.heap.objs.size f).get? b = some o := fun h f q b o e =>
    (Heap.get?_update_other _ _ (Ne.symm (Nat.ne_of_lt (Heap.lt_size e)))).trans (q b o e)
  have k1 : ∀ b o, s.heap.get? b = some o → (s.heap.push { cls := .type "list", data := .seq #[] }).get? b = some o := fun b o e => Heap.get?_push_of_some _ e
  have k2 := up _ (Obj.mapSeq (fun _ => (#[] : Array Value))) k1
  generalize ((s.heap.push { cls := .type "list", data := .seq #[] }).update s.heap.objs.size (Obj.mapSeq (fun _ => (#[] : Array Value)))) = h2 at hS2 k2 ⊢
  have hit1 : h2.IsRevIter it l ((items.size : Int) - 1) := hit.at fun o e => k2 _ _ e
  have hl1 : h2.IsList l items := by
    obtain ⟨o, ho, q⟩ := id hl
    exact ⟨o, k2 _ _ ho, q⟩
  have hT : ({ s with heap := h2 } : Shared).TypeIs (.ref it) "list_reverseiterator" := Heap.IsRevIter.typeIs (s := { s with heap := h2 }) hit1
  have h1 : Builtin.List.listSameRef (.ref s.heap.objs.size) (.ref it) = false := by simp [Builtin.List.listSameRef, hSi]
  unfold Builtin.List.listExtendWith
  refine wpAny_bind (wpAny_typeOf hT ?_)
  rw [if_neg (by rw [h1]; decide)]
  refine wpAny_bind (wpAny_pyIter_revIter (s := { s with heap := h2 }) hit1 ?_)
  refine wpAny_bind (wpAny_holding ?_)
  unfold Builtin.List.listLengthHint
  refine wpAny_bind (wpAny_specialOf hT RT.nolen_lri ?_)
  show wpAny _ A.in1.in1 (specialOf (Value.ref it) (Str.ofString "__length_hint__") >>= _) _ _ _
  refine wpAny_bind (wpAny_specialOf hT RT.hint_lri ?_)
  generalize hid : ("list_reverseiterator.__length_hint__" : String) = id0
  wp_delta
  rw [show splitId id0 = some ("list_reverseiterator", "__length_hint__") from by subst hid; decide +kernel]
  subst hid
  refine wpAny_bind (wpAny_isInstance (b := true) hT (by rw [isSubtype_type]; kernel_rfl) ?_)
  refine wpAny_pure ?_
  rw [if_neg (by decide)]
  have e0 : ((items.size : Nat) : Int) - 1 - ((0 : Nat) : Int) = (items.size : Int) - 1 := by omega
  refine wpAny_pure ⟨plainId_quiet F.plain_extend_loop _, codeAny_extend_loopS W hn _ hSf _ items.size 0 _ _ _ rfl (Nat.zero_le _) ⟨Nat.zero_le _, by rw [e0]; exact hit1, hl1⟩ hS2 (ItemsOf.nil _) fun s' acc' c' hm hS' hacc => ?_⟩
  rw [Moved.eq_with hm]
  refine ⟨rfl, hQ s'.heap s'.toks acc' c' (fun b o hb e => hm.heap b o (fun hmem => ?_) (k2 _ _ e)) hS' hacc⟩
  rcases List.mem_cons.mp hmem with e' | hmem
  · exact absurd (Heap.lt_size e) (by rw [e']; exact Nat.lt_irrefl _)
  · exact hb (List.mem_singleton.mp hmem)
end
section
variable {X : Cx}
def tLstRev (K : PySem.W.Frag) (te : TE) : TE := fun σ H Q => te σ H fun v H1 => ∃ (a : Addr) (xs : List V), v = .ref a ∧ SqL K H1 a xs ∧ ∀ q, H1 q = none → Q (.ref q) (upd H1 q (.lst xs.reverse))
theorem pe_lstRev {e : Expr} {te : TE} {p p2 pos pos2 : Pos} (hc : X.calm = true) (hg : Gl X "list") (hm : X.mg "list" = none) (hg2 : Gl X "reversed") (hm2 : X.mg "reversed" = none) (he : PE X e te)
    (hs : starEach [e] X.env = (false, eval e X.env) :: starEach [] X.env := by rfl)
    (hs2 : starEach [.Call (.Name "reversed" p2) [e] [] pos2] X.env = (false, eval (.Call (.Name "reversed" p2) [e] [] pos2) X.env) :: starEach [] X.env := by rfl) :
    PE X (.Call (.Name "list" p) [.Call (.Name "reversed" p2) [e] [] pos2] [] pos) (tLstRev X.K te) := by
  refine ⟨fun pins s σ H Q I h => ?_⟩
  refine Call_ (ld_blt I hg hm boot_list (PyProof.Rows.callWith_type1 (args_cons (Call_ (ld_blt I hg2 hm2 PyProof.Rows.boot_reversed (PyProof.Rows.callWith_type1 (args_cons (thn (he.run pins s σ H _ I h) fun u s1 ⟨v, H1, I1, r1, q1⟩ => args_nil ?_) hs) hs rfl))) hs2) hs2 rfl))
  obtain ⟨a, xs, ev, hq, q⟩ := q1
  subst ev
  obtain rfl : u = Value.ref a := r1
  obtain ⟨its, rv, p', hz⟩ := I1.list hq
  refine call_reversed_list p'.isList (args_nil ?_)
  have hl := p'.isList
  obtain ⟨ol, hol, _⟩ := id hl
  have hne : a ≠ s1.heap.objs.size := Nat.ne_of_lt (Heap.lt_size hol)
  have hn : its.toArray.size ≤ sizeLine := by rw [List.size_toArray, ← rv.length]; exact hz
  refine list_rev (s := { s1 with heap := s1.heap.push (revObj a ((its.toArray.size : Int) - 1)) }) (I1.ok.hd hc) ⟨_, Heap.get?_push_size _ rfl, rfl, rfl⟩ (hl.push _) hne hn fun h' tk acc c hk hS hi => ?_
  have ext : ∀ b o, s1.heap.get? b = some o → h'.get? b = some o := fun b o e => hk b o (Nat.ne_of_lt (Heap.lt_size e)) (Heap.get?_push_of_some _ e)
  refine ⟨.ref _, upd H1 (s1.heap.push (revObj a ((its.toArray.size : Int) - 1))).objs.size (.lst xs.reverse), I1.laid (t' := tk) ext (Nat.le_of_lt (by simp [Heap.push])) (show ObjOk X.prog X.w _ _ _ (.lst xs.reverse) from ⟨by rw [List.length_reverse]; exact hz, acc.toList, c, RT.vals_rev rv hi, ?_⟩), rfl, q _ (I1.hok.fresh (Nat.le_of_lt (by simp [Heap.push])))⟩
  exact hS
end

/-! ### regrown -/
def gsides (old n : Nat) (ps : List Tm) : List (Tm × Bool) :=
  if h : old < n ∧ 0 < old then
    if old ≤ splitN n then (ps.getLastD nonT, true) :: gsides old (splitN n) ps.dropLast
    else (ps.getLastD nonT, false) :: gsides (old - splitN n) (n - splitN n) ps.dropLast
  else []
termination_by n
decreasing_by
  all_goals first | exact splitN_lt (by omega) | (have := splitN_pos n; omega)
def gb (old n : Nat) (ps : List Tm) : Tm :=
  if h : old < n ∧ 0 < old then
    if old ≤ splitN n then gb old (splitN n) ps.dropLast
    else gb (old - splitN n) (n - splitN n) ps.dropLast
  else ps.getLastD nonT
termination_by n
decreasing_by
  all_goals first | exact splitN_lt (by omega) | (have := splitN_pos n; omega)
theorem gs_all {n : Nat} {ps : List Tm} : gsides n n ps = [] ∧ gb n n ps = ps.getLastD nonT := ⟨by rw [gsides, dif_neg (by omega)], by rw [gb, dif_neg (by omega)]⟩
theorem gs_low {old n : Nat} {ps : List Tm} (h0 : 0 < old) (h1 : old < n) (h : old ≤ splitN n) : gsides old n ps = (ps.getLastD nonT, true) :: gsides old (splitN n) ps.dropLast ∧ gb old n ps = gb old (splitN n) ps.dropLast :=
  ⟨by rw [gsides, dif_pos ⟨h1, h0⟩, if_pos h], by rw [gb, dif_pos ⟨h1, h0⟩, if_pos h]⟩
theorem gs_high {old n : Nat} {ps : List Tm} (h0 : 0 < old) (h1 : old < n) (h : ¬ old ≤ splitN n) : gsides old n ps = (ps.getLastD nonT, false) :: gsides (old - splitN n) (n - splitN n) ps.dropLast ∧ gb old n ps = gb (old - splitN n) (n - splitN n) ps.dropLast :=
  ⟨by rw [gsides, dif_pos ⟨h1, h0⟩, if_neg h], by rw [gb, dif_pos ⟨h1, h0⟩, if_neg h]⟩
def stepO (s : Tm × Bool) (t : Tm) : Tm := if s.2 = true then t else pairT s.1 t
theorem regT_fold (old n : Nat) (ps : List Tm) : regT old n ps = ((gsides old n ps).foldr stepO (gb old n ps), (gsides old n ps).foldr stepT (gb old n ps)) := by
  by_cases e : old < n ∧ 0 < old
  · obtain ⟨h1, h0⟩ := e
    have hs := splitN_lt (n := n) (by omega)
    have hs0 := splitN_pos n
    by_cases hp : old ≤ splitN n
    · rw [regT_low h0 h1 hp, (gs_low h0 h1 hp).1, (gs_low h0 h1 hp).2, regT_fold old (splitN n)]
      rfl
    · rw [regT_high h0 h1 hp, (gs_high h0 h1 hp).1, (gs_high h0 h1 hp).2, regT_fold (old - splitN n) (n - splitN n)]
      rfl
  · rw [regT, dif_neg e, gsides, dif_neg e, gb, dif_neg e]
    rfl
termination_by n
theorem gsides_len {old n : Nat} (ps : List Tm) : (gsides old n ps).length + 1 = glen old n := by
  by_cases e : old < n ∧ 0 < old
  · obtain ⟨h1, h0⟩ := e
    have hs := splitN_lt (n := n) (by omega)
    have hs0 := splitN_pos n
    by_cases hp : old ≤ splitN n
    · rw [(gs_low h0 h1 hp).1, glen_low h0 h1 hp, List.length_cons, gsides_len]
    · rw [(gs_high h0 h1 hp).1, glen_high h0 h1 hp, List.length_cons, gsides_len]
  · rw [gsides, dif_neg e, glen, dif_neg e]
    rfl
termination_by n
def spRegrown (K : PySem.W.Frag) (mg : Str → Option Value) (Fam : Sys → Prop) : Sp := fun vs H Q E => ∃ (S : Sys) (old n : Nat) (v : V) (r : Nat), Fam S ∧ vs = [.ref S.f, .int (old : Int), .int (n : Int), v] ∧ 0 < old ∧ old ≤ n ∧ n ≤ 1000 ∧ S.ok H (r + 2 * glen old n) ∧
  ((∃ a ys ts, v = .ref a ∧ H a = some (.lst ys) ∧ DenL S H ys ts ∧ ts.length ≤ 100000 ∧
      (ts.length = glen old n → ∀ q va vb H', Ext H H' → S.ok H' r → H' q = some (.tup [va, vb]) → S.den H' va (regT old n ts).1 → S.den H' vb (regT old n ts).2 → Q (.ref q) H') ∧
      (ts.length ≠ glen old n → ∀ C H', mg "BadPaper" = some (.ref C) → Ext H H' → S.ok H' r → E (.ref C) none H')) ∨
   ((∃ t, TyX K H v t ∧ PySem.W.kitOne K t (.type "list") = some false) ∧ ∀ C H', mg "BadPaper" = some (.ref C) → Ext H H' → S.ok H' r → E (.ref C) none H'))
section
variable {P : Program} {w : World} {K : PySem.W.Frag} {mg : Str → Option Value} {base : Heap} {Fam : Sys → Prop}
theorem ok_regrown {cc : Addr} (T : Txt K mg cc) (A : SlA P w K mg base Fam) (C_last_of : CalX P w K mg base 1 "last_of" (spLast K mg)) (C_split : Cal P w K mg base 1 "split" spSplit []) (C_pair_seal : Cal P w K mg base 2 "pair_seal" (spPair Fam) []) : CalX P w K mg base 3 "regrown" (spRegrown K mg Fam) := by
  have Z := T.Z
  obtain ⟨C_BadPaper, g_BadPaper, F_BadPaper⟩ := T.x_BadPaper.ex
  refine calX_of T.d_regrown sc_regrown (fun vs H Q E h => ?_) (fun f cdv A' outer s H vs Q E hr h => ?_)
  · obtain ⟨S, old, n, v, r, _, rfl, _⟩ := h
    rfl
  obtain ⟨S, old, n, v, r, hF, rfl, ho0, hon, hn, hok, h⟩ := h
  have G := A.good hF
  have e16 : sizeLine = 16777216 := sizeLine_eq
  refine ⟨_, (pss_cons (ps_set (i := 4) sc_regrown.nd rfl (Or.inl rfl) (pe_cx C_last_of (takes_of rfl rfl rfl rfl) hr (by omega) rfl (pa_cons (pv 3) pa_nil)))
  (pss_cons (ps_par (i := 5) (j := 6) rfl sc_regrown.nd rfl rfl (by decide) rfl rfl (pa_cons (pe_slice sl_list (pv 3) po_none (po_some (pe_op op_sub (pe_callB call_len_seq rfl Z.len PySem.boot_len (pa_cons (pv 3) pa_nil)) pe_int))) (pa_cons (pe_lst pa_nil) pa_nil)) (by rfl))
  (pss_cons (ps_while (passes_of rfl) (pt_cmpR op_ne (pv 1) (pv 2) (nomark _)) (pss_cons (ps_set (i := 7) sc_regrown.nd rfl (Or.inl rfl) (pe_c C_split hr (by omega) rfl (pa_cons (pv 2) pa_nil)))
  (pss_cons (ps_expr (pe_bm PySem.F.plainAttrs_list PySem.F.slot_list_append PySem.F.type_list_append mt_append (pv 6) (pa_cons (pe_tup (pa_cons (pv 4) (pa_cons (pe_cmpR op_le (pv 1) (pv 7) (nomark _)) pa_nil))) pa_nil)))
  (pss_cons (ps_if (pt_cmpR op_le (pv 1) (pv 7) (nomark _)) (pss_one (ps_set (i := 2) sc_regrown.nd rfl (Or.inl rfl) (pv 7))) (pss_one (ps_par (i := 1) (j := 2) rfl sc_regrown.nd rfl rfl (by decide) rfl rfl (pa_cons (pe_op op_sub (pv 1) (pv 7)) (pa_cons (pe_op op_sub (pv 2) (pv 7)) pa_nil)) (by rfl))))
  (pss_cons (ps_set (i := 4) sc_regrown.nd rfl (Or.inl rfl) (pe_cx C_last_of (takes_of rfl rfl rfl rfl) hr (by omega) rfl (pa_cons (pv 5) pa_nil)))
  (pss_one (ps_set (i := 5) sc_regrown.nd rfl (Or.inl rfl) (pe_slice sl_list (pv 5) po_none (po_some (pe_op op_sub (pe_callB call_len_seq rfl Z.len PySem.boot_len (pa_cons (pv 5) pa_nil)) pe_int))))))))))
  (pss_cons (ps_if (pt_cmpR op_gt (pe_callB call_len_seq rfl Z.len PySem.boot_len (pa_cons (pv 5) pa_nil)) pe_int (nomark _)) (pss_one (ps_raiseX F_BadPaper g_BadPaper rfl (takes_of rfl rfl rfl rfl) rfl)) pss_nil)
  (pss_cons (ps_par (i := 8) (j := 9) rfl sc_regrown.nd rfl rfl (by decide) rfl rfl (pa_cons (pv 4) (pa_cons (pv 4) pa_nil)) (by rfl))
  (pss_cons (ps_for (passes_of rfl) rfl (pi_list (pe_revL (pv 6))) (pg_tup rfl (pgs_cons (pg_name (i := 4) sc_regrown.nd rfl (Or.inl rfl)) (pgs_cons (pg_name (i := 10) sc_regrown.nd rfl (Or.inl rfl)) pgs_nil))) (pss_cons (ps_if (pt_not (pt_val (pv 10))) (pss_one (ps_set (i := 8) sc_regrown.nd rfl (Or.inl rfl) (pe_c C_pair_seal hr (by omega) rfl (pa_cons (pv 0) (pa_cons (pv 4) (pa_cons (pv 8) pa_nil)))))) pss_nil)
  (pss_one (ps_set (i := 9) sc_regrown.nd rfl (Or.inl rfl) (pe_ifExp (pt_val (pv 10)) (pe_c C_pair_seal hr (by omega) rfl (pa_cons (pv 0) (pa_cons (pv 9) (pa_cons (pv 4) pa_nil)))) (pe_c C_pair_seal hr (by omega) rfl (pa_cons (pv 0) (pa_cons (pv 4) (pa_cons (pv 9) pa_nil)))))))))
  (pss_one (ps_ret (pe_tup (pa_cons (pv 8) (pa_cons (pv 9) pa_nil))))))))))), ?_⟩
  rcases h with ⟨a, ys, ts, rfl, ha, hd, hl, q1, q2⟩ | ⟨o, q⟩
  case inr => exact ⟨_, rfl, v, rfl, .inr ⟨o, fun C hC => q C H hC (Ext.refl _) (G.less hok (by omega))⟩⟩
  have hlen := hd.len
  refine ⟨_, rfl, .ref a, rfl, .inl ⟨a, ys, rfl, ha, fun y hy => ?_, fun e C hC => q2 ?_ C H hC (Ext.refl _) (G.less hok (by omega))⟩⟩
  case refine_2 =>
    have := glen_pos old n
    rw [e] at hlen
    rw [← hlen]
    show 0 ≠ _
    omega
  have hy' := getLast_at hy
  have hyl := (List.getElem?_eq_some_iff.mp hy').1
  obtain ⟨t, ht⟩ : ∃ t, ts[ys.length - 1]? = some t := ⟨ts[ys.length - 1]'(by omega), List.getElem?_eq_getElem _⟩
  have hyt := hd.at_ _ _ _ hy' ht
  have el : ts.getLastD nonT = t := by
    rw [List.getLastD_eq_getLast?, List.getLast?_eq_getElem?, ← hlen, ht]
    rfl
  have hts := last_split (l := ts) (d := nonT) (by omega)
  rw [el] at hts
  refine ⟨_, rfl, _, rfl, a, ys, rfl, .inl (SqL.of ha), _, 1, rfl, rfl, ((ys.length - 1 : Nat) : Int), by rw [show ((ys.length - 1 : Nat) : Int) = (ys.length : Int) - 1 by omega], a, ys, rfl, SqL.of ha, fun p1 np1 => ?_⟩
  rw [cut_to]
  have x1 := Ext.new (o := .lst (ys.take (ys.length - 1))) np1
  have k1 := Kp.new (o := .lst (ys.take (ys.length - 1))) np1
  refine ⟨by show 0 ≤ sizeLine; decide, fun p np => ⟨_, _, rfl, ?_⟩⟩
  have x2 := x1.trans (Ext.new (o := .lst []) np)
  have k2 := k1.trans (Kp.new (o := .lst []) np)
  have np0 := x1.free np
  have np1p : p1 ≠ p := ne_of_none upd_same np
  have hp1 : upd (upd H p1 (.lst (ys.take (ys.length - 1)))) p (.lst []) p1 = some (.lst (ys.take (ys.length - 1))) := by rw [upd_ne np1p]; exact upd_same
  have hpp : upd (upd H p1 (.lst (ys.take (ys.length - 1)))) p (.lst []) p = some (.lst []) := upd_same
  have hd1 : DenL S (upd (upd H p1 (.lst (ys.take (ys.length - 1)))) p (.lst [])) (ys.take (ys.length - 1)) ts.dropLast := by
    have := (hd.take (ts.length - 1)).mono G k2.gr
    rwa [show ts.take (ts.length - 1) = ts.dropLast from List.dropLast_eq_take.symm, ← hlen] at this
  have ok2 := G.keep k2 hok
  have hyt2 := G.mono k2.gr hyt
  generalize upd (upd H p1 (.lst (ys.take (ys.length - 1)))) p (.lst []) = H2 at x2 k2 hp1 hpp hd1 ok2 hyt2 ⊢
  refine ⟨fun m σ H' => ∃ (old' n' : Nat) (lv : V) (lt : Tm) (b : Addr) (us : List V) (ts' : List Tm) (ss : List (Tm × Bool)) (ssv : List V) (y7 : Option V), n' = m ∧ σ = [some (.ref S.f), some (.int (old' : Int)), some (.int (n' : Int)), some (.ref a), some lv, some (.ref b), some (.ref p), y7, none, none, none] ∧
    Ext H H' ∧ S.ok H' (r + 2 * glen old n) ∧ H' p = some (.lst ssv) ∧ SideL S H' ssv ss ∧ H' b = some (.lst us) ∧ b ≠ p ∧ DenL S H' us ts' ∧ S.den H' lv lt ∧ 0 < old' ∧ old' ≤ n' ∧ n' ≤ n ∧
    ts'.length + 1 + ss.length = ts.length ∧ glen old' n' + ss.length = glen old n ∧ ss ++ gsides old' n' (ts' ++ [lt]) = gsides old n ts ∧ gb old' n' (ts' ++ [lt]) = gb old n ts, ⟨_, old, n, y, t, p1, _, ts.dropLast, [], [], none, rfl, rfl, x2, ok2, hpp, .nil, hp1, np1p, hd1, hyt2, ho0, hon, Nat.le_refl _, ?_, rfl, ?_, ?_⟩, ?_⟩
  · rw [List.length_dropLast]
    show _ + 1 + 0 = _
    omega
  · rw [← hts]
    rfl
  · rw [← hts]
  rintro m σ H3 ⟨old', n', lv, lt, b, us, ts', ss, ssv, y7, rfl, rfl, x3, ok3, hp3, hss, hb, hbp, hd3, hlv, ho', hon', hnn, hc1, hc2, hc3, hc4⟩
  have hsl := hss.len
  have hul := hd3.len
  have glb := glen_le 10 old n (by show n ≤ 1024; omega)
  refine ⟨_, rfl, _, rfl, rfl, _, rfl, ?_⟩
  by_cases heq : old' = n'
  · subst heq
    rw [decide_eq_true rfl]
    refine iteF ?_
    refine ⟨_, rfl, b, us, rfl, .inl (SqL.of hb), _, 0, rfl, rfl, _, rfl, ite2 (fun c => ?_) (fun c => ?_)⟩
    · have c' : (0 : Int) < (us.length : Int) := of_decide_eq_true c
      refine q2 ?_ _ _ g_BadPaper x3 (G.less ok3 (by omega))
      rw [glen_all] at hc2
      omega
    have c' : ¬ (0 : Int) < (us.length : Int) := of_decide_eq_false (Bool.eq_false_iff.mpr c)
    have tsz : ts' = [] := List.eq_nil_of_length_eq_zero (by omega)
    subst tsz
    rw [glen_all] at hc2
    rw [gs_all.1, List.append_nil] at hc3
    rw [gs_all.2] at hc4
    have elt : lt = gb old n ts := hc4
    have hl2 : ts.length = glen old n := by
      have : ([] : List Tm).length = 0 := rfl
      omega
    refine ⟨_, rfl, _, rfl, _, _, rfl, ?_⟩
    refine ⟨_, rfl, p, ssv, rfl, SqL.of hp3, fun p4 np4 => ⟨p4, rfl, ⟨_, SqL.of upd_same⟩, ?_⟩⟩
    have x4 := x3.trans (Ext.new (o := .lst ssv.reverse) np4)
    have k4 := Kp.new (o := .lst ssv.reverse) np4
    have hp4 : upd H3 p4 (.lst ssv.reverse) p4 = some (.lst ssv.reverse) := upd_same
    have ok4 := G.keep k4 ok3
    have hss4 := hss.mono G k4.gr
    have hlv4 := G.mono k4.gr hlv
    generalize upd H3 p4 (.lst ssv.reverse) = H4 at x4 hp4 ok4 hss4 hlv4 ⊢
    refine for_list (K := K) (a := p4) (xs := ssv.reverse) (fun i σ H' => ∃ (u1 u2 : V) (z4 z10 : Option V), σ = [some (.ref S.f), some (.int (old' : Int)), some (.int (old' : Int)), some (.ref a), z4, some (.ref b), some (.ref p), y7, some u1, some u2, z10] ∧ Ext H4 H' ∧ S.ok H' (r + 2 * (ss.length - i)) ∧ S.den H' u1 ((ss.drop (ss.length - i)).foldr stepO lt) ∧ S.den H' u2 ((ss.drop (ss.length - i)).foldr stepT lt))
      ⟨lv, lv, _, _, rfl, Ext.refl _, G.less ok4 (by omega), by rw [Nat.sub_zero, List.drop_length]; exact hlv4, by rw [Nat.sub_zero, List.drop_length]; exact hlv4⟩ (fun i σ H' _ ⟨_, _, _, _, _, x, _⟩ => SqL.of (x.lst hp4)) ?_ ?_
    · rintro i y2 σ H' hi ⟨u1, u2, z4, z10, rfl, x, ok, hu1, hu2⟩
      have hlt := (List.getElem?_eq_some_iff.mp hi).1
      rw [List.length_reverse] at hlt
      rw [List.getElem?_reverse hlt] at hi
      have hj : ssv.length - 1 - i < ss.length := by omega
      obtain ⟨q, aa, rfl, hq, haa⟩ := (hss4.mono G x.gr).at_ _ y2 (ss[ssv.length - 1 - i]) hi (List.getElem?_eq_getElem hj)
      have ed : ss.drop (ss.length - (i + 1)) = ss[ssv.length - 1 - i] :: ss.drop (ss.length - i) := by
        rw [show ss.length - (i + 1) = ssv.length - 1 - i by omega, List.drop_eq_getElem_cons hj, show ssv.length - 1 - i + 1 = ss.length - i by omega]
      refine ⟨q, _, rfl, SqT.of hq, rfl, ?_⟩
      rw [ed, List.foldr_cons, List.foldr_cons]
      generalize ss[ssv.length - 1 - i] = sd at hq haa ⊢
      obtain ⟨st, sb⟩ := sd
      refine ⟨_, _, rfl, _, _, rfl, rfl, ?_⟩
      refine ⟨_, rfl, _, rfl, ?_⟩
      cases sb with
      | true =>
        refine iteF ?_
        refine ⟨_, rfl, _, rfl, iteT ?_⟩
        refine ⟨_, rfl, _, rfl, _, rfl, S, u2, aa, _, _, r + 2 * (ss.length - (i + 1)), hF, rfl, G.less ok (by omega), hu2, haa, fun v' H'' x' ok' d' => ?_⟩
        exact ⟨u1, v', _, _, rfl, x.trans x', ok', G.mono x'.gr hu1, d'⟩
      | false =>
        refine iteT ?_
        refine ⟨_, rfl, _, rfl, _, rfl, S, aa, u1, _, _, r + 2 * (ss.length - (i + 1)) + 1, hF, rfl, G.less ok (by omega), haa, hu1, fun v1 H5 x5 ok5 d5 => ?_⟩
        refine ⟨_, rfl, _, rfl, iteF ?_⟩
        refine ⟨_, rfl, _, rfl, _, rfl, S, aa, u2, _, _, r + 2 * (ss.length - (i + 1)), hF, rfl, ok5, G.mono x5.gr haa, G.mono x5.gr hu2, fun v' H'' x' ok' d' => ?_⟩
        exact ⟨v1, v', _, _, rfl, (x.trans x5).trans x', ok', G.mono x'.gr d5, d'⟩
    · rintro σ H6 ⟨u1, u2, z4, z10, rfl, x6, ok6, hu1, hu2⟩
      rw [List.length_reverse, hsl, Nat.sub_self, List.drop_zero] at hu1 hu2
      refine ⟨_, rfl, _, rfl, by show 2 ≤ sizeLine; decide, fun q nq => ?_⟩
      have e6 := Ext.new (o := .tup [u1, u2]) nq
      refine q1 hl2 q u1 u2 _ ((x4.trans x6).trans e6) (G.less (G.keep (Kp.new nq) ok6) (by omega)) upd_same ?_ ?_
      · rw [regT_fold, ← hc3, ← elt]
        exact G.mono e6.gr hu1
      · rw [regT_fold, ← hc3, ← elt]
        exact G.mono e6.gr hu2
  · rw [decide_eq_false (show ¬ V.int (old' : Int) = V.int (n' : Int) from fun z => heq (by have := V.int.inj z; omega))]
    refine iteT ?_
    have h2 : 2 ≤ n' := by omega
    have hs1 := splitN_lt h2
    have hs2 := splitN_pos n'
    refine ⟨_, fun σ' H' h => h, ?_⟩
    refine ⟨_, rfl, n', rfl, h2, Nat.le_trans (Nat.log2_le_self _) (by omega), ?_⟩
    refine ⟨_, rfl, .inl ⟨rfl, _, SqL.of hp3⟩, _, rfl, _, rfl, _, rfl, _, _, rfl, rfl, by show 2 ≤ sizeLine; decide, fun q hq => ?_⟩
    have npq : q ≠ p := fun z => by rw [z, hp3] at hq; cases hq
    have nqb : q ≠ b := fun z => by rw [z, hb] at hq; cases hq
    have u1 := Ext.new (o := .tup [lv, .bl (decide ((old' : Int) ≤ ((splitN n' : Nat) : Int)))]) hq
    have j1 := Kp.new (o := .tup [lv, .bl (decide ((old' : Int) ≤ ((splitN n' : Nat) : Int)))]) hq
    have hp4 := u1.lst hp3
    have hq4 : upd H3 q (.tup [lv, .bl (decide ((old' : Int) ≤ ((splitN n' : Nat) : Int)))]) q = some (.tup [lv, .bl (decide ((old' : Int) ≤ ((splitN n' : Nat) : Int)))]) := upd_same
    have hb4 := u1.lst hb
    generalize upd H3 q (.tup [lv, .bl (decide ((old' : Int) ≤ ((splitN n' : Nat) : Int)))]) = H4 at u1 j1 hp4 hq4 hb4 ⊢
    refine ⟨p, ssv, _, rfl, rfl, hp4, by rw [hsl, e16]; omega, ?_⟩
    have k5 := j1.trans (Kp.lst (o := .lst (ssv ++ [.ref q])) hp4)
    have x5 := (x3.trans u1).mut (o := .lst (ssv ++ [.ref q])) np0
    have hp5 : upd H4 p (.lst (ssv ++ [.ref q])) p = some (.lst (ssv ++ [.ref q])) := upd_same
    have hq5 : upd H4 p (.lst (ssv ++ [.ref q])) q = some (.tup [lv, .bl (decide ((old' : Int) ≤ ((splitN n' : Nat) : Int)))]) := by rw [upd_ne npq]; exact hq4
    have hb5 : upd H4 p (.lst (ssv ++ [.ref q])) b = some (.lst us) := by rw [upd_ne hbp]; exact hb4
    generalize upd H4 p (.lst (ssv ++ [.ref q])) = H5 at k5 x5 hp5 hq5 hb5 ⊢
    have ok5 := G.keep k5 ok3
    have hd5 := hd3.mono G k5.gr
    -- the next one, or none
    have nx : ∀ R : VK, (∀ y t, us.getLast? = some y → ts'.getLast? = some t → S.den H5 y t → R y H5) → spLast K mg [.ref b] H5 R (fun cls d H' => E cls d H') := fun R hR => by
      refine ⟨.ref b, rfl, .inl ⟨b, us, rfl, hb5, fun y hy => ?_, fun e C hC => q2 ?_ C H5 hC x5 (G.less ok5 (by omega))⟩⟩
      · have hy' := getLast_at hy
        have hyl := (List.getElem?_eq_some_iff.mp hy').1
        obtain ⟨t, ht⟩ : ∃ t, ts'[us.length - 1]? = some t := ⟨ts'[us.length - 1]'(by omega), List.getElem?_eq_getElem _⟩
        exact hR y t hy (by rw [List.getLast?_eq_getElem?, ← hul, ht]) (hd5.at_ _ _ _ hy' ht)
      · rw [e] at hul
        have hul' : ts'.length = 0 := hul.symm
        have : 2 ≤ glen old' n' := by
          by_cases hp : old' ≤ splitN n'
          · rw [glen_low ho' (by omega) hp]
            have := glen_pos old' (splitN n')
            omega
          · rw [glen_high ho' (by omega) hp]
            have := glen_pos (old' - splitN n') (n' - splitN n')
            omega
        omega
    refine ⟨_, rfl, _, rfl, _, _, rfl, rfl, _, rfl, ite2 (fun c2 => ?_) (fun c2 => ?_)⟩
    · have c2' : (old' : Int) ≤ ((splitN n' : Nat) : Int) := of_decide_eq_true c2
      have hp : old' ≤ splitN n' := by omega
      have g1 := gs_low (ps := ts' ++ [lt]) ho' (by omega) hp
      rw [List.dropLast_concat, getLastD_concat] at g1
      have g2 := glen_low ho' (by omega) hp
      refine ⟨_, rfl, ?_⟩
      refine ⟨_, rfl, nx _ fun y2 t2 hy2 ht2 hyt2 => ?_⟩
      have ht2' := getLast_at ht2
      have htl := (List.getElem?_eq_some_iff.mp ht2').1
      refine ⟨_, rfl, _, rfl, b, us, rfl, .inl (SqL.of hb5), _, 1, rfl, rfl, ((us.length - 1 : Nat) : Int), by rw [show ((us.length - 1 : Nat) : Int) = (us.length : Int) - 1 by omega], b, us, rfl, SqL.of hb5, fun p6 np6 => ?_⟩
      rw [cut_to]
      have x6 := Ext.new (o := .lst (us.take (us.length - 1))) np6
      have k6 := Kp.new (o := .lst (us.take (us.length - 1))) np6
      have ht4 : ts' = ts'.dropLast ++ [t2] := by
        have := last_split (l := ts') (d := nonT) (by omega)
        rwa [List.getLastD_eq_getLast?, ht2] at this
      have np6p : p6 ≠ p := fun z => by rw [z, hp5] at np6; cases np6
      refine ⟨splitN n', hs1, old', splitN n', y2, t2, p6, us.take (us.length - 1), ts'.dropLast, ss ++ [(lt, true)], ssv ++ [.ref q], _, rfl, rfl, x5.trans x6, G.keep k6 ok5, x6.lst hp5, ((hss.mono G k5.gr).snoc (by rw [hq5, decide_eq_true c2']) (G.mono k5.gr hlv)).mono G k6.gr, upd_same, np6p, ?_, G.mono k6.gr hyt2, ho', hp, by omega, ?_, ?_, ?_, ?_⟩
      · have := (hd5.take (ts'.length - 1)).mono G k6.gr
        rwa [show ts'.take (ts'.length - 1) = ts'.dropLast from List.dropLast_eq_take.symm, ← hul] at this
      · rw [List.length_dropLast, List.length_append]
        show _ + 1 + (_ + 1) = _
        omega
      · rw [List.length_append]
        show _ + (_ + 1) = _
        omega
      · rw [← hc3, g1.1, ← ht4, List.append_assoc]
        rfl
      · rw [← hc4, g1.2, ← ht4]
    · have c2' : ¬ (old' : Int) ≤ ((splitN n' : Nat) : Int) := of_decide_eq_false (Bool.eq_false_iff.mpr c2)
      have hp : ¬ old' ≤ splitN n' := by omega
      have g1 := gs_high (ps := ts' ++ [lt]) ho' (by omega) hp
      rw [List.dropLast_concat, getLastD_concat] at g1
      have g2 := glen_high ho' (by omega) hp
      refine ⟨_, rfl, _, rfl, _, _, rfl, rfl, _, rfl, _, rfl, _, _, rfl, rfl, _, _, rfl, ?_⟩
      refine ⟨_, rfl, nx _ fun y2 t2 hy2 ht2 hyt2 => ?_⟩
      have ht2' := getLast_at ht2
      have htl := (List.getElem?_eq_some_iff.mp ht2').1
      refine ⟨_, rfl, _, rfl, b, us, rfl, .inl (SqL.of hb5), _, 1, rfl, rfl, ((us.length - 1 : Nat) : Int), by rw [show ((us.length - 1 : Nat) : Int) = (us.length : Int) - 1 by omega], b, us, rfl, SqL.of hb5, fun p6 np6 => ?_⟩
      rw [cut_to]
      have x6 := Ext.new (o := .lst (us.take (us.length - 1))) np6
      have k6 := Kp.new (o := .lst (us.take (us.length - 1))) np6
      have ht4 : ts' = ts'.dropLast ++ [t2] := by
        have := last_split (l := ts') (d := nonT) (by omega)
        rwa [List.getLastD_eq_getLast?, ht2] at this
      have np6p : p6 ≠ p := fun z => by rw [z, hp5] at np6; cases np6
      refine ⟨n' - splitN n', by omega, old' - splitN n', n' - splitN n', y2, t2, p6, us.take (us.length - 1), ts'.dropLast, ss ++ [(lt, false)], ssv ++ [.ref q], some (.int ((splitN n' : Nat) : Int)), rfl, ?_, x5.trans x6, G.keep k6 ok5, x6.lst hp5, ((hss.mono G k5.gr).snoc (by rw [hq5, decide_eq_false c2']) (G.mono k5.gr hlv)).mono G k6.gr, upd_same, np6p, ?_, G.mono k6.gr hyt2, by omega, by omega, by omega, ?_, ?_, ?_, ?_⟩
      · rw [show ((old' - splitN n' : Nat) : Int) = (old' : Int) - ((splitN n' : Nat) : Int) by omega, show ((n' - splitN n' : Nat) : Int) = (n' : Int) - ((splitN n' : Nat) : Int) by omega]
        rfl
      · have := (hd5.take (ts'.length - 1)).mono G k6.gr
        rwa [show ts'.take (ts'.length - 1) = ts'.dropLast from List.dropLast_eq_take.symm, ← hul] at this
      · rw [List.length_dropLast, List.length_append]
        show _ + 1 + (_ + 1) = _
        omega
      · rw [List.length_append]
        show _ + (_ + 1) = _
        omega
      · rw [← hc3, g1.1, ← ht4, List.append_assoc]
        rfl
      · rw [← hc4, g1.2, ← ht4]
end

/-! ### a claim that an entry stands at a place -/
def judgeS (place : Int) (lt : Tm) (n : Nat) (ht : Tm) : Option (List Tm) → Bool
  | none => false
  | some ps => decide (0 ≤ place ∧ place < (n : Int) ∧ ps.length = plen place.toNat n ∧ Tm.sl "book" (.int (n : Int)) (riseT lt (sidesT place.toNat n ps)) = ht)
/-- a paper: a row of tops, or no list -/
def Pap (K : PySem.W.Frag) (S : Sys) (H : Hp) (v : V) : Option (List Tm) → Prop
  | none => ∀ H', Ext H H' → Odd K H' v
  | some ps => ∃ a ys, v = .ref a ∧ H a = some (.lst ys) ∧ DenL S H ys ps ∧ ps.length ≤ 100 ∧ ∀ t ∈ ps, WS t ∧ t.dep ≤ 28
theorem Pap.ext {K : PySem.W.Frag} {S : Sys} (G : S.Good K) {H H' : Hp} {v : V} {p : Option (List Tm)} (h : Pap K S H v p) (e : Ext H H') : Pap K S H' v p := by
  cases p with
  | none => exact fun H2 e2 => h H2 (e.trans e2)
  | some ps =>
    obtain ⟨a, ys, rfl, ha, hd, hl, hp⟩ := h
    exact ⟨a, ys, rfl, e.lst ha, hd.mono G e.gr, hl, hp⟩

def stF (place : Int) (x : Str) (tv : V) : List (Str × V) := [("place", .int place), ("words", .str x), ("table", tv)]
theorem stF_place (place : Int) (x : Str) (tv : V) : (stF place x tv).lookup ("place" : Str) = some (.int place) := by kernel_rfl
theorem stF_words (place : Int) (x : Str) (tv : V) : (stF place x tv).lookup ("words" : Str) = some (.str x) := by kernel_rfl
theorem stF_table (place : Int) (x : Str) (tv : V) : (stF place x tv).lookup ("table" : Str) = some tv := by kernel_rfl
theorem stF_no (place : Int) (x : Str) (tv : V) : (stF place x tv).lookup ("judged" : Str) = none ∧ (stF place x tv).lookup ("shown" : Str) = none := ⟨by kernel_rfl, by kernel_rfl⟩
theorem stF_mk (place : Int) (x : Str) (tv : V) : putF "table" tv (putF "words" (.str x) (putF "place" (.int place) [])) = stF place x tv := by kernel_rfl
section
variable {P : Program} {w : World} {K : PySem.W.Frag} {mg : Str → Option Value} {base : Heap} {Fam : Sys → Prop} {C : Addr}
def spStInit (C : Addr) : Sp := fun vs H Q _ => ∃ (p dx : Addr) (place : Int) (x : Str) (tv : V), vs = [.ref p, .int place, .str x, tv] ∧ H p = some (.ins C dx []) ∧ ∀ H', ExtO p H H' → Kp H H' → H' p = some (.ins C dx (stF place x tv)) → Q .non H'
theorem ok_stinit (KS : K_Stands K mg C) : Mak P w K mg base 1 "Stands" C (spStInit C) [] := by
  refine mak_of KS.mgC KS.made sc_Stands___init__ (fun vs H Q E h => ?_) (fun f cdv A' outer s H vs Q E hr h => ?_)
  · obtain ⟨p, dx, place, x, tv, rfl, _⟩ := h
    rfl
  obtain ⟨p, dx, place, x, tv, rfl, hp, q⟩ := h
  refine ⟨_, (pss_cons (ps_fld (pv 0) (pv 1) rfl)
  (pss_cons (ps_fld (pv 0) (pv 2) rfl)
  (pss_one (ps_fld (pv 0) (pv 3) rfl)))), ?_⟩
  refine ⟨_, rfl, _, rfl, p, C, dx, _, rfl, hp, KS.cl, KS.n_place, by show 0 < 1000; decide, ?_⟩
  refine ⟨_, rfl, _, rfl, p, C, dx, _, rfl, upd_same, KS.cl, KS.n_words, by show 1 < 1000; decide, ?_⟩
  refine ⟨_, rfl, _, rfl, p, C, dx, _, rfl, upd_same, KS.cl, KS.n_table, by show 2 < 1000; decide, ?_⟩
  have x1 := ExtO.put (o := .ins C dx (putF "place" (.int place) [])) hp
  have k1 := Kp.ins (o := .ins C dx (putF "place" (.int place) [])) hp
  have x2 := x1.trans (ExtO.put (o := .ins C dx (putF "words" (.str x) (putF "place" (.int place) []))) upd_same)
  have k2 := k1.trans (Kp.ins (o := .ins C dx (putF "words" (.str x) (putF "place" (.int place) []))) upd_same)
  refine q _ (x2.trans (ExtO.put upd_same)) (k2.trans (Kp.ins upd_same)) ?_
  rw [upd_same, stF_mk]
def spShownS (K : PySem.W.Frag) (mg : Str → Option Value) (C : Addr) (Fam : Sys → Prop) : Sp := fun vs H Q E => ∃ (S : Sys) (p dx : Addr) (place : Int) (x : Str) (tv : V) (ta : Tm) (n : Nat) (m : Int) (Y : Tm) (head v : V) (paper : Option (List Tm)) (r : Nat), Fam S ∧ vs = [.ref p, .ref S.f, .int (n : Int), head, v] ∧ H p = some (.ins C dx (stF place x tv)) ∧ txtOk x = true ∧ S.den H tv ta ∧ WS ta ∧ ta.dep ≤ 18 ∧ n ≤ 1000 ∧
  S.den H head (.sl "book" (.int m) Y) ∧ WS Y ∧ Y.dep ≤ 40 ∧ Pap K S H v paper ∧ S.ok H (r + 20) ∧
  (∀ H', Ext H H' → S.ok H' r → Q (.bl (judgeS place (.sl "leaf" (.str x) ta) n (.sl "book" (.int m) Y) paper)) H') ∧
  (judgeS place (.sl "leaf" (.str x) ta) n (.sl "book" (.int m) Y) paper = false → ∀ D H', mg "BadPaper" = some (.ref D) → Ext H H' → S.ok H' r → E (.ref D) none H')
theorem ok_shownS {cc : Addr} (T : Txt K mg cc) (A : SlA P w K mg base Fam) (I3 : ∀ {S}, Fam S → S.Inj K) (KS : K_Stands K mg C) : MetR P w K mg base 4 C "shown" (spShownS K mg C Fam) := by
  have Z := T.Z
  have C_leaf_seal := ok_leaf_seal T A
  have C_book_seal := ok_book_seal T A
  have C_risen := ok_risen T A (ok_last T) (ok_split T) (ok_pair_seal T A)
  refine metR_of KS.cl KS.m_shown sc_Stands_shown (fun vs H Q E h => ?_) (fun f cdv A' outer s H vs Q E hr h => ?_)
  · obtain ⟨S, p, dx, place, x, tv, ta, n, m, Y, head, v, paper, r, _, rfl, _⟩ := h
    rfl
  obtain ⟨S, p, dx, place, x, tv, ta, n, m, Y, head, v, paper, r, hF, rfl, hp, hx, htv, hws, hta, hn, hh, hY, hYd, hpap, hok, q1, q2⟩ := h
  have G := A.good hF
  refine ⟨_, (pss_cons (ps_if (pt_not (pt_chain op_le op_lt pe_int (pe_fld (pv 0) rfl) (pv 2))) (pss_one (ps_ret pe_bl)) pss_nil)
  (pss_cons (ps_set (i := 5) sc_Stands_shown.nd rfl (Or.inl rfl) (pe_c C_leaf_seal hr (by omega) rfl (pa_cons (pv 1) (pa_cons (pe_fld (pv 0) rfl) (pa_cons (pe_fld (pv 0) rfl) pa_nil)))))
  (pss_one (ps_ret (pe_cmpR (op_eqD hr.units) (pe_c C_book_seal hr (by omega) rfl (pa_cons (pv 1) (pa_cons (pv 2) (pa_cons (pe_cx C_risen (takes_of rfl rfl rfl rfl) hr (by omega) rfl (pa_cons (pv 1) (pa_cons (pv 5) (pa_cons (pe_fld (pv 0) rfl) (pa_cons (pv 2) (pa_cons (pv 4) pa_nil)))))) pa_nil)))) (pv 3) (nomark _)))))), ?_⟩
  have bad : ¬ (0 ≤ place ∧ place < (n : Int)) → judgeS place (.sl "leaf" (.str x) ta) n (.sl "book" (.int m) Y) paper = false := fun z => by
    cases paper with
    | none => rfl
    | some ps => exact decide_eq_false fun h => z ⟨h.1, h.2.1⟩
  refine ⟨_, rfl, p, C, dx, _, _, rfl, hp, KS.cl, KS.n_place, stF_place _ _ _, _, _, rfl, rfl, _, rfl, ite2 (fun c1 => ?_) (fun c1 => ?_)⟩
  · have c1' : (0 : Int) ≤ place := of_decide_eq_true c1
    refine ⟨_, rfl, _, _, rfl, rfl, _, rfl, ?_⟩
    by_cases c2 : place < (n : Int)
    · rw [decide_eq_true c2]
      refine iteF ?_
      obtain ⟨pl, rfl⟩ := Int.eq_ofNat_of_zero_le c1'
      have hpl : pl < n := by omega
      refine ⟨_, rfl, _, rfl, p, C, dx, _, _, rfl, hp, KS.cl, KS.n_words, stF_words _ _ _, _, rfl, p, C, dx, _, _, rfl, hp, KS.cl, KS.n_table, stF_table _ _ _, S, _, _, .str x, ta, r + 19, hF, rfl, hok, G.str _ hok hx, htv, fun vl H1 x1 ok1 d1 => ?_⟩
      have plb := plen_le 10 pl n (by show n ≤ 1024; omega)
      refine ⟨_, rfl, _, rfl, _, rfl, _, rfl, _, rfl, p, C, dx, _, _, rfl, x1.ins hp, KS.cl, KS.n_place, stF_place _ _ _, _, rfl, _, rfl, S, vl, _, pl, n, v, r + 5, hF, rfl, d1, hpl, Nat.le_trans (Nat.log2_le_self _) hn, G.less ok1 (by omega), ?_⟩
      have hpap1 := hpap.ext G x1
      cases paper with
      | none => exact .inr ⟨hpap1, fun D H' hD e ok => q2 rfl D H' hD (x1.trans e) (G.less ok (by omega))⟩
      | some ps =>
        obtain ⟨a, ys, rfl, ha, hd, hl, hps⟩ := hpap1
        refine .inl ⟨a, ys, ps, rfl, ha, hd, by omega, fun t ht => Nat.le_trans (hps t ht).2 (by decide), fun hlen u H2 x2 ok2 d2 => ?_, fun hlen D H' hD e ok => q2 (decide_eq_false fun h => hlen h.2.2.1) D H' hD (x1.trans e) (G.less ok (by omega))⟩
        refine ⟨S, _, u, .int (n : Int), _, r + 4, hF, rfl, ok2, G.int _ ok2, d2, fun ub H3 x3 ok3 d3 => ?_⟩
        have x13 := (x1.trans x2).trans x3
        have smem := sidesT_mem hlen
        have hlt : (Tm.sl "leaf" (.str x) ta).dep ≤ 28 := by show max 0 ta.dep + 1 ≤ 28; omega
        have rw1 : WS (riseT (.sl "leaf" (.str x) ta) (sidesT pl n ps)) := riseT_ws (.leaf x hws) fun s hs => (hps _ (smem s hs)).1
        have rd1 := riseT_dep (n := 28) hlt (fun s hs => (hps _ (smem s hs)).2)
        rw [sidesT_len] at rd1
        have cmp : cmpT (.sl "book" (.int (n : Int)) (riseT (.sl "leaf" (.str x) ta) (sidesT pl n ps))) (.sl "book" (.int m) Y) := .inr ⟨True.intro, rw1.cmp hY⟩
        obtain ⟨d, d', e1, e2, e3, e4, e5, e6, e7⟩ := (I3 hF).inj ok3 d3 (G.mono x13.gr hh) cmp
        have dd1 : (Tm.sl "book" (.int (n : Int)) (riseT (.sl "leaf" (.str x) ta) (sidesT pl n ps))).dep ≤ 60 := by show max 0 _ + 1 ≤ 60; omega
        have dd2 : (Tm.sl "book" (.int m) Y).dep ≤ 60 := by show max 0 Y.dep + 1 ≤ 60; omega
        refine ⟨_, rfl, d, d', e1, e2, shaped_of e3 (by omega), shaped_of e4 (by omega), ?_⟩
        rw [e7]
        have q3 := q1 H3 x13 (G.less ok3 (by omega))
        have ej : judgeS ((pl : Nat) : Int) (.sl "leaf" (.str x) ta) n (.sl "book" (.int m) Y) (some ps) = decide (Tm.sl "book" (.int (n : Int)) (riseT (.sl "leaf" (.str x) ta) (sidesT pl n ps)) = .sl "book" (.int m) Y) := by
          show decide _ = decide _
          rw [Int.toNat_natCast]
          congr 1
          exact propext ⟨fun h => h.2.2.2, fun h => ⟨c1', c2, hlen, h⟩⟩
        rw [ej] at q3
        exact q3
    · rw [decide_eq_false c2]
      refine iteT ?_
      have := q1 H (Ext.refl _) (G.less hok (by omega))
      rw [bad fun z => c2 z.2] at this
      exact this
  · have c1' : ¬ (0 : Int) ≤ place := of_decide_eq_false (Bool.eq_false_iff.mpr c1)
    refine ⟨_, rfl, iteT ?_⟩
    have := q1 H (Ext.refl _) (G.less hok (by omega))
    rw [bad fun z => c1' z.1] at this
    exact this
def spJudgedS (K : PySem.W.Frag) (C : Addr) (Fam : Sys → Prop) : Sp := fun vs H Q _ => ∃ (S : Sys) (p dx : Addr) (place : Int) (x : Str) (tv : V) (ta : Tm) (n : Nat) (m : Int) (Y : Tm) (head v : V) (paper : Option (List Tm)) (r : Nat), Fam S ∧ vs = [.ref p, .ref S.f, .int (n : Int), head, v] ∧ H p = some (.ins C dx (stF place x tv)) ∧ txtOk x = true ∧ S.den H tv ta ∧ WS ta ∧ ta.dep ≤ 18 ∧ n ≤ 1000 ∧
  S.den H head (.sl "book" (.int m) Y) ∧ WS Y ∧ Y.dep ≤ 40 ∧ Pap K S H v paper ∧ S.ok H (r + 20) ∧
  (∀ H', Ext H H' → S.ok H' r → Q (.bl (judgeS place (.sl "leaf" (.str x) ta) n (.sl "book" (.int m) Y) paper)) H')
theorem ok_judgedS {cc : Addr} (T : Txt K mg cc) (A : SlA P w K mg base Fam) (I3 : ∀ {S}, Fam S → S.Inj K) (KS : K_Stands K mg C) : Met P w K mg base 5 C "judged" (spJudgedS K C Fam) [] := by
  obtain ⟨C_BadPaper, g_BadPaper, F_BadPaper⟩ := T.x_BadPaper.ex
  have M_shown := ok_shownS T A I3 KS
  refine met_of KS.cl KS.m_judged sc_Claim_judged (fun vs H Q E h => ?_) (fun f cdv A' outer s H vs Q E hr h => ?_)
  · obtain ⟨S, p, dx, place, x, tv, ta, n, m, Y, head, v, paper, r, _, rfl, _⟩ := h
    rfl
  obtain ⟨S, p, dx, place, x, tv, ta, n, m, Y, head, v, paper, r, hF, rfl, hp, hx, htv, hws, hta, hn, hh, hY, hYd, hpap, hok, q⟩ := h
  refine ⟨_, (pss_one (ps_try_onlyE (pss_one (ps_ret (pv 5))) rfl rfl ⟨rfl, by decide, .inl g_BadPaper⟩ takes0 (fun W pn xe tk po => (pss_one (ps_set (i := 5) sc_Claim_judged.nd rfl (Or.inl rfl) (pe_mtx M_shown tk hr (by omega) (pv 0) (pa_cons (pv 1) (pa_cons (pv 2) (pa_cons (pv 3) (pa_cons (pv 4) pa_nil)))))))) (fun a oe cls d pn hz hf => (pss_when (P := cls = .ref C_BadPaper ∧ d = none) fun hsu => (pss_one (ps_ret pe_bl)))))), ?_⟩
  refine ⟨_, rfl, p, dx, _, rfl, hp, (stF_no _ _ _).2, _, rfl, _, rfl, _, rfl, _, rfl, S, p, dx, place, x, tv, ta, n, m, Y, head, v, paper, r, hF, rfl, hp, hx, htv, hws, hta, hn, hh, hY, hYd, hpap, hok, fun H' e ok => ⟨_, rfl, q H' e ok⟩, fun hj D H' hD e ok => ?_⟩
  rw [g_BadPaper] at hD
  cases hD
  refine ⟨true, F_BadPaper.eP, fun _ p2 hp2 => ⟨⟨rfl, rfl⟩, ?_⟩, fun z => nomatch z⟩
  have := q H' e ok
  rw [hj] at this
  exact this
end

/-! ### a claim of a growth -/
def emptyT : Tm := .sl "book" (.int 0) nonT
def judgeG (old : Int) (n : Nat) (said ht : Tm) (paper : Option (List Tm)) : Bool :=
  if old = 0 then decide (said = emptyT ∧ paper = some [] ∧ (0 < n ∨ ht = emptyT)) else
    match paper with
    | none => false
    | some ps => decide (0 < old ∧ old ≤ (n : Int) ∧ ps.length = glen old.toNat n ∧ Tm.sl "book" (.int old) (regT old.toNat n ps).1 = said ∧ Tm.sl "book" (.int (n : Int)) (regT old.toNat n ps).2 = ht)
def BkT (t : Tm) : Prop := ∃ m Y, t = .sl "book" (.int m) Y ∧ WS Y ∧ Y.dep ≤ 40
theorem BkT.cmp {a b : Tm} (h : BkT a) (h' : BkT b) : cmpT a b := by
  obtain ⟨m, Y, rfl, hY, _⟩ := h
  obtain ⟨m', Y', rfl, hY', _⟩ := h'
  exact .inr ⟨True.intro, hY.cmp hY'⟩
theorem BkT.dep {a : Tm} (h : BkT a) : a.dep ≤ 60 := by
  obtain ⟨m, Y, rfl, _, hd⟩ := h
  show max 0 Y.dep + 1 ≤ 60
  omega
theorem empty_bk : BkT emptyT := ⟨0, nonT, rfl, .non, by decide⟩
theorem bk_apart {K : PySem.W.Frag} {S : Sys} (I : S.Inj K) {H : Hp} {r : Nat} (ok : S.ok H r) {v v' : V} {t t' : Tm} (h : S.den H v t) (h' : S.den H v' t') (b : BkT t) (b' : BkT t') :
    ∃ d d', Dp K H v d ∧ Dp K H v' d' ∧ SeqAt.shaped d = true ∧ SeqAt.shaped d' = true ∧ PyData.eqv d d' = decide (t = t') := by
  obtain ⟨d, d', e1, e2, e3, e4, e5, e6, e7⟩ := I.inj ok h h' (b.cmp b')
  have := b.dep
  have := b'.dep
  exact ⟨d, d', e1, e2, shaped_of e3 (by omega), shaped_of e4 (by omega), e7⟩
def grF (old : Int) (bv : V) : List (Str × V) := [("old", .int old), ("before", bv)]
theorem grF_old (old : Int) (bv : V) : (grF old bv).lookup ("old" : Str) = some (.int old) := by kernel_rfl
theorem grF_before (old : Int) (bv : V) : (grF old bv).lookup ("before" : Str) = some bv := by kernel_rfl
theorem grF_no (old : Int) (bv : V) : (grF old bv).lookup ("judged" : Str) = none ∧ (grF old bv).lookup ("shown" : Str) = none := ⟨by kernel_rfl, by kernel_rfl⟩
theorem grF_mk (old : Int) (bv : V) : putF "before" bv (putF "old" (.int old) []) = grF old bv := by kernel_rfl
section
variable {P : Program} {w : World} {K : PySem.W.Frag} {mg : Str → Option Value} {base : Heap} {Fam : Sys → Prop} {C : Addr}
def spGrInit (C : Addr) : Sp := fun vs H Q _ => ∃ (p dx : Addr) (old : Int) (bv : V), vs = [.ref p, .int old, bv] ∧ H p = some (.ins C dx []) ∧ ∀ H', ExtO p H H' → Kp H H' → H' p = some (.ins C dx (grF old bv)) → Q .non H'
theorem ok_grinit (KS : K_Grows K mg C) : Mak P w K mg base 1 "Grows" C (spGrInit C) [] := by
  refine mak_of KS.mgC KS.made sc_Grows___init__ (fun vs H Q E h => ?_) (fun f cdv A' outer s H vs Q E hr h => ?_)
  · obtain ⟨p, dx, old, bv, rfl, _⟩ := h
    rfl
  obtain ⟨p, dx, old, bv, rfl, hp, q⟩ := h
  refine ⟨_, (pss_cons (ps_fld (pv 0) (pv 1) rfl)
  (pss_one (ps_fld (pv 0) (pv 2) rfl))), ?_⟩
  refine ⟨_, rfl, _, rfl, p, C, dx, _, rfl, hp, KS.cl, KS.n_old, by show 0 < 1000; decide, ?_⟩
  refine ⟨_, rfl, _, rfl, p, C, dx, _, rfl, upd_same, KS.cl, KS.n_before, by show 1 < 1000; decide, ?_⟩
  refine q _ ((ExtO.put hp).trans (ExtO.put upd_same)) ((Kp.ins hp).trans (Kp.ins upd_same)) ?_
  rw [upd_same, grF_mk]
def spShownG (K : PySem.W.Frag) (mg : Str → Option Value) (C : Addr) (Fam : Sys → Prop) : Sp := fun vs H Q E => ∃ (S : Sys) (p dx : Addr) (old : Int) (bv : V) (said : Tm) (n : Nat) (ht : Tm) (head v : V) (paper : Option (List Tm)) (r : Nat), Fam S ∧ vs = [.ref p, .ref S.f, .int (n : Int), head, v] ∧ H p = some (.ins C dx (grF old bv)) ∧ S.den H bv said ∧ BkT said ∧ n ≤ 1000 ∧
  S.den H head ht ∧ BkT ht ∧ Pap K S H v paper ∧ S.ok H (r + 60) ∧
  (∀ H', Ext H H' → S.ok H' r → Q (.bl (judgeG old n said ht paper)) H') ∧
  (judgeG old n said ht paper = false → ∀ D H', mg "BadPaper" = some (.ref D) → Ext H H' → S.ok H' r → E (.ref D) none H')
theorem ok_shownG {cc : Addr} (T : Txt K mg cc) (A : SlA P w K mg base Fam) (I3 : ∀ {S}, Fam S → S.Inj K) (KS : K_Grows K mg C) : MetR P w K mg base 4 C "shown" (spShownG K mg C Fam) := by
  have Z := T.Z
  have C_none_seal := ok_none_seal T A
  have C_book_seal := ok_book_seal T A
  have C_regrown := ok_regrown T A (ok_last T) (ok_split T) (ok_pair_seal T A)
  refine metR_of KS.cl KS.m_shown sc_Grows_shown (fun vs H Q E h => ?_) (fun f cdv A' outer s H vs Q E hr h => ?_)
  · obtain ⟨S, p, dx, old, bv, said, n, ht, head, v, paper, r, _, rfl, _⟩ := h
    rfl
  obtain ⟨S, p, dx, old, bv, said, n, ht, head, v, paper, r, hF, rfl, hp, hbv, hsaid, hn, hhead, hht, hpap, hok, q1, q2⟩ := h
  have G := A.good hF
  refine ⟨_, (pss_cons (ps_if (pt_cmpR op_eq (pe_fld (pv 0) rfl) pe_int (nomark _)) (pss_cons (ps_set (i := 5) sc_Grows_shown.nd rfl (Or.inl rfl) (pe_c C_book_seal hr (by omega) rfl (pa_cons (pv 1) (pa_cons pe_int (pa_cons (pe_c C_none_seal hr (by omega) rfl (pa_cons (pv 1) pa_nil)) pa_nil)))))
  (pss_one (ps_ret (pe_and (pe_cmpR (op_eqD hr.units) (pe_fld (pv 0) rfl) (pv 5) (nomark _)) (pe_and (pe_cmpR (op_eqD hr.units) (pv 4) (pe_lst pa_nil) (nomark _)) (pe_one (pe_or (pe_cmpR op_gt (pv 2) pe_int (nomark _)) (pe_one (pe_and (pe_cmpR op_eq (pv 2) pe_int (nomark _)) (pe_one (pe_cmpR (op_eqD hr.units) (pv 3) (pv 5) (nomark _)))))))))))) pss_nil)
  (pss_cons (ps_if (pt_not (pt_chain op_lt op_le pe_int (pe_fld (pv 0) rfl) (pv 2))) (pss_one (ps_ret pe_bl)) pss_nil)
  (pss_cons (ps_set (i := 6) sc_Grows_shown.nd rfl (Or.inl rfl) (pe_cx C_regrown (takes_of rfl rfl rfl rfl) hr (by omega) rfl (pa_cons (pv 1) (pa_cons (pe_fld (pv 0) rfl) (pa_cons (pv 2) (pa_cons (pv 4) pa_nil))))))
  (pss_one (ps_ret (pe_and (pe_cmpR (op_eqD hr.units) (pe_c C_book_seal hr (by omega) rfl (pa_cons (pv 1) (pa_cons (pe_fld (pv 0) rfl) (pa_cons (pe_ix ix_tup (pv 6) pe_int (fun _ _ => rfl)) pa_nil)))) (pe_fld (pv 0) rfl) (nomark _)) (pe_one (pe_cmpR (op_eqD hr.units) (pe_c C_book_seal hr (by omega) rfl (pa_cons (pv 1) (pa_cons (pv 2) (pa_cons (pe_ix ix_tup (pv 6) pe_int (fun _ _ => rfl)) pa_nil)))) (pv 3) (nomark _))))))))), ?_⟩
  refine ⟨_, rfl, p, C, dx, _, _, rfl, hp, KS.cl, KS.n_old, grF_old _ _, rfl, _, rfl, ite2 (fun c => ?_) (fun c => ?_)⟩
  · have c' : old = 0 := V.int.inj (of_decide_eq_true c)
    subst c'
    have ej : judgeG 0 n said ht paper = decide (said = emptyT ∧ paper = some [] ∧ (0 < n ∨ ht = emptyT)) := by
      unfold judgeG
      rw [if_pos rfl]
    rw [ej] at q1
    refine ⟨_, rfl, _, rfl, S, r + 59, hF, rfl, hok, fun v0 H1 x1 ok1 d1 => ?_⟩
    refine ⟨S, .int 0, v0, .int 0, nonT, r + 58, hF, rfl, ok1, G.int _ ok1, d1, fun ve H2 x2' ok2 de => ?_⟩
    have x2 := x1.trans x2'
    obtain ⟨d, d', a1, a2, a3, a4, a5⟩ := bk_apart (I3 hF) ok2 (G.mono x2.gr hbv) de hsaid empty_bk
    refine ⟨_, rfl, p, C, dx, _, _, rfl, x2.ins hp, KS.cl, KS.n_before, grF_before _ _, _, rfl, d, d', a1, a2, a3, a4, _, rfl, ?_⟩
    rw [a5]
    refine ite2 (fun b1 => ?_) (fun b1 => ?_)
    · have b1' : said = emptyT := of_decide_eq_true b1
      refine ⟨_, rfl, by show 0 ≤ sizeLine; decide, fun q3 nq3 => ?_⟩
      have u3 := Ext.new (o := .lst []) nq3
      have x3 := x2.trans u3
      have ok3 := G.keep (Kp.new (o := .lst []) nq3) ok2
      have hq3 : upd H2 q3 (.lst []) q3 = some (.lst []) := upd_same
      generalize upd H2 q3 (.lst []) = H3 at u3 x3 ok3 hq3 ⊢
      have hpp : ∃ d e, Dp K H3 v d ∧ Dp K H3 (.ref q3) e ∧ SeqAt.shaped d = true ∧ SeqAt.shaped e = true ∧ PyData.eqv d e = decide (paper = some []) := by
        cases paper with
        | none =>
          obtain ⟨d, h1, h2, h3⟩ := (hpap H3 x3).ne
          exact ⟨d, .list [], h1, .lst (SqL.of hq3) .nil, h2, by decide +kernel, by rw [h3]; rfl⟩
        | some ps =>
          obtain ⟨a, ys, rfl, ha, hd, hl, hps⟩ := hpap
          obtain ⟨d, e, b1, b2, b3, b4, b5⟩ := (hd.mono G x3.gr).odd (K := K) G (a := a) (p := q3) (SqL.of (x3.lst ha)) (SqL.of hq3) fun t ht => Nat.le_trans (hps t ht).2 (by decide)
          refine ⟨d, e, b1, b2, b3, b4, ?_⟩
          rw [b5]
          exact decide_eq_decide.mpr ⟨fun h => by rw [List.eq_nil_of_length_eq_zero h], fun h => by rw [Option.some.inj h]; rfl⟩
      obtain ⟨d3, e3, g1, g2, g3, g4, g5⟩ := hpp
      refine ⟨d3, e3, g1, g2, g3, g4, _, rfl, ?_⟩
      rw [g5]
      refine ite2 (fun b2 => ?_) (fun b2 => ?_)
      · have b2' : paper = some [] := of_decide_eq_true b2
        refine ⟨_, rfl, _, 0, rfl, rfl, _, rfl, ite2 (fun b3 => ?_) (fun b3 => ?_)⟩
        · have b3' : (0 : Int) < (n : Int) := of_decide_eq_true b3
          have := q1 H3 x3 (G.less ok3 (by omega))
          rw [decide_eq_true (show said = emptyT ∧ paper = some [] ∧ (0 < n ∨ ht = emptyT) from ⟨b1', b2', .inl (by omega)⟩)] at this
          exact this
        · have b3' : ¬ (0 : Int) < (n : Int) := of_decide_eq_false (Bool.eq_false_iff.mpr b3)
          have n0 : n = 0 := by omega
          refine ⟨_, rfl, rfl, _, rfl, ?_⟩
          rw [decide_eq_true (show V.int (n : Int) = V.int 0 by rw [n0]; rfl)]
          refine iteT ?_
          obtain ⟨d4, e4, h1, h2, h3, h4, h5⟩ := bk_apart (I3 hF) ok3 (G.mono x3.gr hhead) (G.mono u3.gr de) hht empty_bk
          refine ⟨_, rfl, _, rfl, d4, e4, h1, h2, h3, h4, ?_⟩
          rw [h5]
          have := q1 H3 x3 (G.less ok3 (by omega))
          rw [show decide (said = emptyT ∧ paper = some [] ∧ (0 < n ∨ ht = emptyT)) = decide (ht = emptyT) from decide_eq_decide.mpr ⟨fun h => h.2.2.resolve_left (by omega), fun h => ⟨b1', b2', .inr h⟩⟩] at this
          exact this
      · have b2' : ¬ paper = some [] := of_decide_eq_false (Bool.eq_false_iff.mpr b2)
        have := q1 H3 x3 (G.less ok3 (by omega))
        rw [decide_eq_false (show ¬ (said = emptyT ∧ paper = some [] ∧ (0 < n ∨ ht = emptyT)) from fun h => b2' h.2.1)] at this
        exact this
    · have b1' : ¬ said = emptyT := of_decide_eq_false (Bool.eq_false_iff.mpr b1)
      have := q1 H2 x2 (G.less ok2 (by omega))
      rw [decide_eq_false (show ¬ (said = emptyT ∧ paper = some [] ∧ (0 < n ∨ ht = emptyT)) from fun h => b1' h.1)] at this
      exact this
  · have c' : ¬ old = 0 := fun z => c (decide_eq_true (by rw [z]))
    have bad : ¬ (0 < old ∧ old ≤ (n : Int)) → judgeG old n said ht paper = false := fun z => by
      unfold judgeG
      rw [if_neg c']
      cases paper with
      | none => rfl
      | some ps => exact decide_eq_false fun h => z ⟨h.1, h.2.1⟩
    refine ⟨_, rfl, p, C, dx, _, _, rfl, hp, KS.cl, KS.n_old, grF_old _ _, _, _, rfl, rfl, _, rfl, ite2 (fun c1 => ?_) (fun c1 => ?_)⟩
    · have c1' : (0 : Int) < old := of_decide_eq_true c1
      refine ⟨_, rfl, _, _, rfl, rfl, _, rfl, ?_⟩
      by_cases c2 : old ≤ (n : Int)
      · rw [decide_eq_true c2]
        refine iteF ?_
        obtain ⟨o, rfl⟩ := Int.eq_ofNat_of_zero_le (show 0 ≤ old by omega)
        have gl := glen_le 10 o n (by show n ≤ 1024; omega)
        refine ⟨_, rfl, _, rfl, p, C, dx, _, _, rfl, hp, KS.cl, KS.n_old, grF_old _ _, _, rfl, _, rfl, S, o, n, v, r + 30, hF, rfl, by omega, by omega, hn, G.less hok (by omega), ?_⟩
        cases paper with
        | none => exact .inr ⟨(hpap H (Ext.refl _)).ty, fun D H' hD e ok => q2 (by unfold judgeG; rw [if_neg c']) D H' hD e (G.less ok (by omega))⟩
        | some ps =>
          obtain ⟨a, ys, rfl, ha, hd, hl, hps⟩ := hpap
          have ej : judgeG ((o : Nat) : Int) n said ht (some ps) = decide (0 < ((o : Nat) : Int) ∧ ((o : Nat) : Int) ≤ (n : Int) ∧ ps.length = glen o n ∧ Tm.sl "book" (.int ((o : Nat) : Int)) (regT o n ps).1 = said ∧ Tm.sl "book" (.int (n : Int)) (regT o n ps).2 = ht) := by
            unfold judgeG
            rw [if_neg c']
            rfl
          rw [ej] at q1 q2
          refine .inl ⟨a, ys, ps, rfl, ha, hd, by omega, fun hlen qb va vb H2 x2 ok2 hqb dva dvb => ?_, fun hlen D H' hD e ok => q2 (decide_eq_false fun h => hlen h.2.2.1) D H' hD e (G.less ok (by omega))⟩
          obtain ⟨w1, w2⟩ := reg_ws hlen fun t ht => (hps t ht).1
          obtain ⟨e1, e2⟩ := reg_dep (d := 28) hlen fun t ht => (hps t ht).2
          refine ⟨_, rfl, _, rfl, p, C, dx, _, _, rfl, x2.ins hp, KS.cl, KS.n_old, grF_old _ _, _, rfl, qb, _, 0, va, rfl, rfl, SqT.of hqb, rfl, S, _, va, .int ((o : Nat) : Int), _, r + 29, hF, rfl, ok2, G.int _ ok2, dva, fun u1 H3 x3 ok3 du1 => ?_⟩
          have x23 := x2.trans x3
          have bk1 : BkT (.sl "book" (.int ((o : Nat) : Int)) (regT o n ps).1) := ⟨_, _, rfl, w1, by omega⟩
          have bk2 : BkT (.sl "book" (.int (n : Int)) (regT o n ps).2) := ⟨_, _, rfl, w2, by omega⟩
          obtain ⟨d3, e3, g1, g2, g3, g4, g5⟩ := bk_apart (I3 hF) ok3 du1 (G.mono x23.gr hbv) bk1 hsaid
          refine ⟨_, rfl, p, C, dx, _, _, rfl, x23.ins hp, KS.cl, KS.n_before, grF_before _ _, d3, e3, g1, g2, g3, g4, _, rfl, ?_⟩
          rw [g5]
          refine ite2 (fun b1 => ?_) (fun b1 => ?_)
          · have b1' := of_decide_eq_true b1
            refine ⟨_, rfl, _, rfl, _, rfl, qb, _, 1, vb, rfl, rfl, SqT.of (x3.tup hqb), rfl, S, _, vb, .int (n : Int), _, r + 28, hF, rfl, ok3, G.int _ ok3, G.mono x3.gr dvb, fun u2 H4 x4 ok4 du2 => ?_⟩
            have x24 := x23.trans x4
            obtain ⟨d4, e4, h1, h2, h3, h4, h5⟩ := bk_apart (I3 hF) ok4 du2 (G.mono x24.gr hhead) bk2 hht
            refine ⟨_, rfl, d4, e4, h1, h2, h3, h4, ?_⟩
            rw [h5]
            have := q1 H4 x24 (G.less ok4 (by omega))
            rw [show decide (0 < ((o : Nat) : Int) ∧ ((o : Nat) : Int) ≤ (n : Int) ∧ ps.length = glen o n ∧ Tm.sl "book" (.int ((o : Nat) : Int)) (regT o n ps).1 = said ∧ Tm.sl "book" (.int (n : Int)) (regT o n ps).2 = ht) = decide (Tm.sl "book" (.int (n : Int)) (regT o n ps).2 = ht) from decide_eq_decide.mpr ⟨fun h => h.2.2.2.2, fun h => ⟨c1', c2, hlen, b1', h⟩⟩] at this
            exact this
          · have b1' := of_decide_eq_false (Bool.eq_false_iff.mpr b1)
            have := q1 H3 x23 (G.less ok3 (by omega))
            rw [decide_eq_false (show ¬ (0 < ((o : Nat) : Int) ∧ ((o : Nat) : Int) ≤ (n : Int) ∧ ps.length = glen o n ∧ Tm.sl "book" (.int ((o : Nat) : Int)) (regT o n ps).1 = said ∧ Tm.sl "book" (.int (n : Int)) (regT o n ps).2 = ht) from fun h => b1' h.2.2.2.1)] at this
            exact this
      · rw [decide_eq_false c2]
        refine iteT ?_
        have := q1 H (Ext.refl _) (G.less hok (by omega))
        rw [bad fun z => c2 z.2] at this
        exact this
    · have c1' : ¬ (0 : Int) < old := of_decide_eq_false (Bool.eq_false_iff.mpr c1)
      refine ⟨_, rfl, iteT ?_⟩
      have := q1 H (Ext.refl _) (G.less hok (by omega))
      rw [bad fun z => c1' z.1] at this
      exact this
def spJudgedG (K : PySem.W.Frag) (C : Addr) (Fam : Sys → Prop) : Sp := fun vs H Q _ => ∃ (S : Sys) (p dx : Addr) (old : Int) (bv : V) (said : Tm) (n : Nat) (ht : Tm) (head v : V) (paper : Option (List Tm)) (r : Nat), Fam S ∧ vs = [.ref p, .ref S.f, .int (n : Int), head, v] ∧ H p = some (.ins C dx (grF old bv)) ∧ S.den H bv said ∧ BkT said ∧ n ≤ 1000 ∧
  S.den H head ht ∧ BkT ht ∧ Pap K S H v paper ∧ S.ok H (r + 60) ∧ (∀ H', Ext H H' → S.ok H' r → Q (.bl (judgeG old n said ht paper)) H')
theorem ok_judgedG {cc : Addr} (T : Txt K mg cc) (A : SlA P w K mg base Fam) (I3 : ∀ {S}, Fam S → S.Inj K) (KS : K_Grows K mg C) : Met P w K mg base 5 C "judged" (spJudgedG K C Fam) [] := by
  obtain ⟨C_BadPaper, g_BadPaper, F_BadPaper⟩ := T.x_BadPaper.ex
  have M_shown := ok_shownG T A I3 KS
  refine met_of KS.cl KS.m_judged sc_Claim_judged (fun vs H Q E h => ?_) (fun f cdv A' outer s H vs Q E hr h => ?_)
  · obtain ⟨S, p, dx, old, bv, said, n, ht, head, v, paper, r, _, rfl, _⟩ := h
    rfl
  obtain ⟨S, p, dx, old, bv, said, n, ht, head, v, paper, r, hF, rfl, hp, hbv, hsaid, hn, hhead, hht, hpap, hok, q⟩ := h
  refine ⟨_, (pss_one (ps_try_onlyE (pss_one (ps_ret (pv 5))) rfl rfl ⟨rfl, by decide, .inl g_BadPaper⟩ takes0 (fun W pn xe tk po => (pss_one (ps_set (i := 5) sc_Claim_judged.nd rfl (Or.inl rfl) (pe_mtx M_shown tk hr (by omega) (pv 0) (pa_cons (pv 1) (pa_cons (pv 2) (pa_cons (pv 3) (pa_cons (pv 4) pa_nil)))))))) (fun a oe cls d pn hz hf => (pss_when (P := cls = .ref C_BadPaper ∧ d = none) fun hsu => (pss_one (ps_ret pe_bl)))))), ?_⟩
  refine ⟨_, rfl, p, dx, _, rfl, hp, (grF_no _ _).2, _, rfl, _, rfl, _, rfl, _, rfl, S, p, dx, old, bv, said, n, ht, head, v, paper, r, hF, rfl, hp, hbv, hsaid, hn, hhead, hht, hpap, hok, fun H' e ok => ⟨_, rfl, q H' e ok⟩, fun hj D H' hD e ok => ?_⟩
  rw [g_BadPaper] at hD
  cases hD
  refine ⟨true, F_BadPaper.eP, fun _ p2 hp2 => ⟨⟨rfl, rfl⟩, ?_⟩, fun z => nomatch z⟩
  have := q H' e ok
  rw [hj] at this
  exact this
end

/-! ### a follower -/
def fwF (f : Addr) (n : Int) (hv : V) : List (Str × V) := [("seal", .ref f), ("count", .int n), ("newest", hv)]
theorem fwF_seal (f : Addr) (n : Int) (hv : V) : (fwF f n hv).lookup ("seal" : Str) = some (.ref f) := by kernel_rfl
theorem fwF_count (f : Addr) (n : Int) (hv : V) : (fwF f n hv).lookup ("count" : Str) = some (.int n) := by kernel_rfl
theorem fwF_newest (f : Addr) (n : Int) (hv : V) : (fwF f n hv).lookup ("newest" : Str) = some hv := by kernel_rfl
theorem fwF_no (f : Addr) (n : Int) (hv : V) : (fwF f n hv).lookup ("take" : Str) = none ∧ (fwF f n hv).lookup ("judge" : Str) = none ∧ (fwF f n hv).lookup ("size" : Str) = none ∧ (fwF f n hv).lookup ("head" : Str) = none := ⟨by kernel_rfl, by kernel_rfl, by kernel_rfl, by kernel_rfl⟩
theorem fwF_mk (f : Addr) (n : Int) (hv : V) : putF "newest" hv (putF "count" (.int n) (putF "seal" (.ref f) [])) = fwF f n hv := by kernel_rfl
theorem fwF_pc (f : Addr) (n m : Int) (hv : V) : putF "count" (.int m) (fwF f n hv) = fwF f m hv := by kernel_rfl
theorem fwF_pn (f : Addr) (n : Int) (hv w : V) : putF "newest" w (fwF f n hv) = fwF f n w := by kernel_rfl
section
variable {P : Program} {w : World} {K : PySem.W.Frag} {mg : Str → Option Value} {base : Heap} {Fam : Sys → Prop} {C CG : Addr}
def spFwInit (C : Addr) (Fam : Sys → Prop) : Sp := fun vs H Q _ => ∃ (S : Sys) (p dx : Addr) (r : Nat), Fam S ∧ vs = [.ref p, .ref S.f] ∧ H p = some (.ins C dx []) ∧ S.ok H (r + 2) ∧ ∀ H' hv, ExtO p H H' → S.ok H' r → H' p = some (.ins C dx (fwF S.f 0 hv)) → S.den H' hv emptyT → Q .non H'
theorem ok_fwinit {cc : Addr} (T : Txt K mg cc) (A : SlA P w K mg base Fam) (KF : K_Follower K mg C) : Mak P w K mg base 3 "Follower" C (spFwInit C Fam) [] := by
  have C_none_seal := ok_none_seal T A
  have C_book_seal := ok_book_seal T A
  refine mak_of KF.mgC KF.made sc_Follower___init__ (fun vs H Q E h => ?_) (fun f cdv A' outer s H vs Q E hr h => ?_)
  · obtain ⟨S, p, dx, r, _, rfl, _⟩ := h
    rfl
  obtain ⟨S, p, dx, r, hF, rfl, hp, hok, q⟩ := h
  have G := A.good hF
  refine ⟨_, (pss_cons (ps_fld (pv 0) (pv 1) rfl)
  (pss_cons (ps_fld (pv 0) pe_int rfl)
  (pss_one (ps_fld (pv 0) (pe_c C_book_seal hr (by omega) rfl (pa_cons (pv 1) (pa_cons pe_int (pa_cons (pe_c C_none_seal hr (by omega) rfl (pa_cons (pv 1) pa_nil)) pa_nil)))) rfl)))), ?_⟩
  refine ⟨_, rfl, _, rfl, p, C, dx, _, rfl, hp, KF.cl, KF.n_seal, by show 0 < 1000; decide, ?_⟩
  have x1 := ExtO.put (o := .ins C dx (putF "seal" (.ref S.f) [])) hp
  have k1 := Kp.ins (o := .ins C dx (putF "seal" (.ref S.f) [])) hp
  have h1 : upd H p (.ins C dx (putF "seal" (.ref S.f) [])) p = some (.ins C dx (putF "seal" (.ref S.f) [])) := upd_same
  generalize upd H p (.ins C dx (putF "seal" (.ref S.f) [])) = H1 at x1 k1 h1 ⊢
  refine ⟨_, rfl, p, C, dx, _, rfl, h1, KF.cl, KF.n_count, by show 1 < 1000; decide, ?_⟩
  have x2 := x1.trans (ExtO.put (o := .ins C dx (putF "count" (.int 0) (putF "seal" (.ref S.f) []))) h1)
  have k2 := k1.trans (Kp.ins (o := .ins C dx (putF "count" (.int 0) (putF "seal" (.ref S.f) []))) h1)
  have h2 : upd H1 p (.ins C dx (putF "count" (.int 0) (putF "seal" (.ref S.f) []))) p = some (.ins C dx (putF "count" (.int 0) (putF "seal" (.ref S.f) []))) := upd_same
  generalize upd H1 p (.ins C dx (putF "count" (.int 0) (putF "seal" (.ref S.f) []))) = H2 at x2 k2 h2 ⊢
  have ok2 := G.keep k2 hok
  refine ⟨_, rfl, _, rfl, S, r + 1, hF, rfl, ok2, fun v0 H3 x3 ok3 d3 => ?_⟩
  refine ⟨S, .int 0, v0, .int 0, nonT, r, hF, rfl, ok3, G.int _ ok3, d3, fun ve H4 x4 ok4 d4 => ?_⟩
  have h4 := (x3.trans x4).ins h2
  refine ⟨_, rfl, p, C, dx, _, rfl, h4, KF.cl, KF.n_newest, by show 2 < 1000; decide, ?_⟩
  have k5 := Kp.ins (o := .ins C dx (putF "newest" ve (putF "count" (.int 0) (putF "seal" (.ref S.f) [])))) h4
  refine q _ ve ((x2.trans (x3.trans x4).o).trans (ExtO.put h4)) (G.keep k5 ok4) ?_ (G.mono k5.gr d4)
  rw [upd_same, fwF_mk]
def takeB (cnt n : Nat) (t0 ht : Tm) (paper : Option (List Tm)) : Bool := decide (cnt ≤ n) && judgeG (cnt : Int) n t0 ht paper
def spFwTake (K : PySem.W.Frag) (C : Addr) (Fam : Sys → Prop) : Sp := fun vs H Q _ => ∃ (S : Sys) (p dx : Addr) (cnt : Nat) (hv : V) (t0 : Tm) (n : Nat) (head : V) (ht : Tm) (v : V) (paper : Option (List Tm)) (r : Nat), Fam S ∧ vs = [.ref p, .int (n : Int), head, v] ∧ H p = some (.ins C dx (fwF S.f (cnt : Int) hv)) ∧ S.den H hv t0 ∧ BkT t0 ∧ n ≤ 1000 ∧
  S.den H head ht ∧ BkT ht ∧ Pap K S H v paper ∧ S.ok H (r + 60) ∧ ∀ H', ExtO p H H' → S.ok H' r → H' p = some (.ins C dx (if takeB cnt n t0 ht paper = true then fwF S.f (n : Int) head else fwF S.f (cnt : Int) hv)) → Q (.bl (takeB cnt n t0 ht paper)) H'
theorem ok_fwtake {cc : Addr} (T : Txt K mg cc) (A : SlA P w K mg base Fam) (I3 : ∀ {S}, Fam S → S.Inj K) (KF : K_Follower K mg C) (KG : K_Grows K mg CG) : Met P w K mg base 6 C "take" (spFwTake K C Fam) [] := by
  have C_Grows := ok_grinit (P := P) (w := w) (base := base) KG
  have M_judged := ok_judgedG T A I3 KG
  refine met_of KF.cl KF.m_take sc_Follower_take (fun vs H Q E h => ?_) (fun f cdv A' outer s H vs Q E hr h => ?_)
  · obtain ⟨S, p, dx, cnt, hv, t0, n, head, ht, v, paper, r, _, rfl, _⟩ := h
    rfl
  obtain ⟨S, p, dx, cnt, hv, t0, n, head, ht, v, paper, r, hF, rfl, hp, hhv, ht0, hn, hhead, hht, hpap, hok, q⟩ := h
  have G := A.good hF
  refine ⟨_, (pss_cons (ps_set (i := 4) sc_Follower_take.nd rfl (Or.inl rfl) (pe_mk C_Grows hr (by omega) rfl (pa_cons (pe_fld (pv 0) rfl) (pa_cons (pe_fld (pv 0) rfl) pa_nil))))
  (pss_cons (ps_if (PW.pt (pw_or (pt_cmpR op_lt (pv 1) (pe_fld (pv 0) rfl) (nomark _)) (pw_or1 (pt_not (pt_val (pe_mt M_judged hr (by omega) (pv 4) (pa_cons (pe_fld (pv 0) rfl) (pa_cons (pv 1) (pa_cons (pv 2) (pa_cons (pv 3) pa_nil)))))))))) (pss_one (ps_ret pe_bl)) pss_nil)
  (pss_cons (ps_fld (pv 0) (pv 1) rfl)
  (pss_cons (ps_fld (pv 0) (pv 2) rfl)
  (pss_one (ps_ret pe_bl)))))), ?_⟩
  refine ⟨_, rfl, p, C, dx, _, _, rfl, hp, KF.cl, KF.n_count, fwF_count _ _ _, _, rfl, p, C, dx, _, _, rfl, hp, KF.cl, KF.n_newest, fwF_newest _ _ _, fun gp gdx ngp ngdx nex => ?_⟩
  have y1 : Ext H (upd (upd H gdx (.own gp)) gp (.ins CG gdx [])) := (Ext.new ngdx).trans (Ext.new (by rw [upd_ne nex.symm]; exact ngp))
  have ky1 : Kp H (upd (upd H gdx (.own gp)) gp (.ins CG gdx [])) := (Kp.new ngdx).trans (Kp.new (show upd H gdx (.own gp) gp = none by rw [upd_ne nex.symm]; exact ngp))
  refine ⟨gp, gdx, (cnt : Int), hv, rfl, upd_same, fun H1 xo kp hg => ⟨rfl, ?_⟩⟩
  have x1 := xo.ext y1 ngp
  have ok1 := G.keep (ky1.trans kp) hok
  have hp1 := x1.ins hp
  refine ⟨_, rfl, _, rfl, p, C, dx, _, _, rfl, hp1, KF.cl, KF.n_count, fwF_count _ _ _, _, _, rfl, rfl, _, rfl, ite2 (fun c => ?_) (fun c => ?_)⟩
  · have c' : (n : Int) < (cnt : Int) := of_decide_eq_true c
    have tb : takeB cnt n t0 ht paper = false := by
      unfold takeB
      rw [decide_eq_false (show ¬ cnt ≤ n by omega)]
      rfl
    refine iteT ?_
    have := q H1 x1.o (G.less ok1 (by omega)) (by rw [tb]; exact hp1)
    rw [tb] at this
    exact this
  · have c' : ¬ (n : Int) < (cnt : Int) := of_decide_eq_false (Bool.eq_false_iff.mpr c)
    have tb : takeB cnt n t0 ht paper = judgeG (cnt : Int) n t0 ht paper := by
      unfold takeB
      rw [decide_eq_true (show cnt ≤ n by omega)]
      rfl
    rw [tb] at q
    refine ⟨_, rfl, gp, gdx, _, rfl, hg, (grF_no _ _).1, _, rfl, p, C, dx, _, _, rfl, hp1, KF.cl, KF.n_seal, fwF_seal _ _ _, _, rfl, _, rfl, _, rfl, S, gp, gdx, (cnt : Int), hv, t0, n, ht, head, v, paper, r, hF, rfl, hg, G.mono x1.gr hhv, ht0, hn, G.mono x1.gr hhead, hht, hpap.ext G x1, ok1, fun H2 x2 ok2 => ?_⟩
    have hp2 := x2.ins hp1
    have x12 := x1.trans x2
    refine ⟨_, rfl, ?_⟩
    cases hb : judgeG (cnt : Int) n t0 ht paper with
    | false =>
      rw [hb] at q
      refine iteT ?_
      exact q H2 x12.o ok2 hp2
    | true =>
      rw [hb] at q
      refine iteF ?_
      refine ⟨_, rfl, _, rfl, p, C, dx, _, rfl, hp2, KF.cl, KF.n_count, by show 3 < 1000; decide, ?_⟩
      rw [fwF_pc]
      have x3 := ExtO.put (o := .ins C dx (fwF S.f (n : Int) hv)) hp2
      have k3 := Kp.ins (o := .ins C dx (fwF S.f (n : Int) hv)) hp2
      refine ⟨_, rfl, _, rfl, p, C, dx, _, rfl, upd_same, KF.cl, KF.n_newest, by show 3 < 1000; decide, ?_⟩
      rw [fwF_pn]
      exact q _ ((x12.o.trans x3).trans (ExtO.put upd_same)) (G.keep (k3.trans (Kp.ins upd_same)) ok2) upd_same
def spFwJudgeS (K : PySem.W.Frag) (C CS : Addr) (Fam : Sys → Prop) : Sp := fun vs H Q _ => ∃ (S : Sys) (p dx g gdx : Addr) (n : Nat) (hv : V) (place : Int) (x : Str) (tv : V) (ta : Tm) (m : Int) (Y : Tm) (v : V) (paper : Option (List Tm)) (r : Nat), Fam S ∧ vs = [.ref p, .ref g, v] ∧ H p = some (.ins C dx (fwF S.f (n : Int) hv)) ∧
  H g = some (.ins CS gdx (stF place x tv)) ∧ txtOk x = true ∧ S.den H tv ta ∧ WS ta ∧ ta.dep ≤ 18 ∧ n ≤ 1000 ∧ S.den H hv (.sl "book" (.int m) Y) ∧ WS Y ∧ Y.dep ≤ 40 ∧ Pap K S H v paper ∧ S.ok H (r + 20) ∧
  ∀ H', Ext H H' → S.ok H' r → Q (.bl (judgeS place (.sl "leaf" (.str x) ta) n (.sl "book" (.int m) Y) paper)) H'
theorem ok_fwjudgeS {CS cc : Addr} (T : Txt K mg cc) (A : SlA P w K mg base Fam) (I3 : ∀ {S}, Fam S → S.Inj K) (KF : K_Follower K mg C) (KS : K_Stands K mg CS) : Met P w K mg base 6 C "judge" (spFwJudgeS K C CS Fam) [] := by
  have M_judged := ok_judgedS T A I3 KS
  refine met_of KF.cl KF.m_judge sc_Follower_judge (fun vs H Q E h => ?_) (fun f cdv A' outer s H vs Q E hr h => ?_)
  · obtain ⟨S, p, dx, g, gdx, n, hv, place, x, tv, ta, m, Y, v, paper, r, _, rfl, _⟩ := h
    rfl
  obtain ⟨S, p, dx, g, gdx, n, hv, place, x, tv, ta, m, Y, v, paper, r, hF, rfl, hp, hg, hx, htv, hws, hta, hn, hhv, hY, hYd, hpap, hok, q⟩ := h
  refine ⟨_, (pss_one (ps_ret (pe_mt M_judged hr (by omega) (pv 1) (pa_cons (pe_fld (pv 0) rfl) (pa_cons (pe_fld (pv 0) rfl) (pa_cons (pe_fld (pv 0) rfl) (pa_cons (pv 2) pa_nil))))))), ?_⟩
  exact ⟨_, rfl, g, gdx, _, rfl, hg, (stF_no _ _ _).1, _, rfl, p, C, dx, _, _, rfl, hp, KF.cl, KF.n_seal, fwF_seal _ _ _, _, rfl, p, C, dx, _, _, rfl, hp, KF.cl, KF.n_count, fwF_count _ _ _, _, rfl, p, C, dx, _, _, rfl, hp, KF.cl, KF.n_newest, fwF_newest _ _ _, _, rfl, S, g, gdx, place, x, tv, ta, n, m, Y, hv, v, paper, r, hF, rfl, hg, hx, htv, hws, hta, hn, hhv, hY, hYd, hpap, hok, q⟩
def spFwSize (C : Addr) : Sp := fun vs H Q _ => ∃ (p dx f : Addr) (n : Int) (hv : V), vs = [.ref p] ∧ H p = some (.ins C dx (fwF f n hv)) ∧ Q (.int n) H
theorem ok_fwsize {cc : Addr} (T : Txt K mg cc) (KF : K_Follower K mg C) : Met P w K mg base 1 C "size" (spFwSize C) [] := by
  refine met_of KF.cl KF.m_size sc_Follower_size (fun vs H Q E h => ?_) (fun f cdv A' outer s H vs Q E hr h => ?_)
  · obtain ⟨p, dx, f, n, hv, rfl, _⟩ := h
    rfl
  obtain ⟨p, dx, f, n, hv, rfl, hp, q⟩ := h
  refine ⟨_, (pss_one (ps_ret (pe_fld (pv 0) rfl))), ?_⟩
  exact ⟨_, rfl, p, C, dx, _, _, rfl, hp, KF.cl, KF.n_count, fwF_count _ _ _, q⟩
def spFwHead (C : Addr) : Sp := fun vs H Q _ => ∃ (p dx f : Addr) (n : Int) (hv : V), vs = [.ref p] ∧ H p = some (.ins C dx (fwF f n hv)) ∧ Q hv H
theorem ok_fwhead {cc : Addr} (T : Txt K mg cc) (KF : K_Follower K mg C) : Met P w K mg base 1 C "head" (spFwHead C) [] := by
  refine met_of KF.cl KF.m_head sc_Follower_head (fun vs H Q E h => ?_) (fun f cdv A' outer s H vs Q E hr h => ?_)
  · obtain ⟨p, dx, f, n, hv, rfl, _⟩ := h
    rfl
  obtain ⟨p, dx, f, n, hv, rfl, hp, q⟩ := h
  refine ⟨_, (pss_one (ps_ret (pe_fld (pv 0) rfl))), ?_⟩
  exact ⟨_, rfl, p, C, dx, _, _, rfl, hp, KF.cl, KF.n_newest, fwF_newest _ _ _, q⟩
end

/-! ### papers bent -/
section
variable {P : Program} {w : World} {K : PySem.W.Frag} {mg : Str → Option Value} {base : Heap} {Fam : Sys → Prop}
def OkT (t : Tm) : Prop := WS t ∧ t.dep ≤ 28
theorem odd_tup {S : Sys} (G : S.Good K) {H : Hp} {q : Addr} {ys : List V} {ps : List Tm} (hq : H q = some (.tup ys)) (hd : DenL S H ys ps) (hp : ∀ t ∈ ps, OkT t) : ∀ H', Ext H H' → Odd K H' (.ref q) := by
  intro H' e
  have ht' := e.tup hq
  refine ⟨⟨.type "tuple", .base (.tup ht'), kit_ty (by decide +kernel)⟩, ?_⟩
  have hdx := hd.mono G e.gr
  obtain ⟨ds, m1, _, m3, m4⟩ := DenL.same (K := K) (n := 28) G hdx hdx fun t ht => (hp t ht).2
  exact ⟨.tuple ds, .tup (SqT.of ht') m1, shaped_of m3 (by show PyData.depthAll ds + 1 ≤ 64; omega), rfl⟩
theorem odd_non {H : Hp} : ∀ H', Ext H H' → Odd K H' .non := fun _ _ => ⟨⟨_, .base .non, kit_ty (by decide +kernel)⟩, .none, .non, by decide +kernel, rfl⟩
theorem odd_str {H : Hp} : ∀ H', Ext H H' → Odd K H' (.str "ab") := fun _ _ => ⟨⟨_, .base (.str _), kit_ty (by decide +kernel)⟩, .str "ab", .str _, by decide +kernel, rfl⟩
theorem odd_int {H : Hp} : ∀ H', Ext H H' → Odd K H' (.int 5) := fun _ _ => ⟨⟨_, .base (.int _), kit_ty (by decide +kernel)⟩, .int 5, .int _, by decide +kernel, rfl⟩
theorem four_at {v0 v1 v2 v3 : V} {z : Int} (h0 : 0 ≤ z) (h1 : z < 4) : ∃ v, atI [v0, v1, v2, v3] z = some v ∧ (v = v0 ∨ v = v1 ∨ v = v2 ∨ v = v3) := by
  have : z = 0 ∨ z = 1 ∨ z = 2 ∨ z = 3 := by omega
  rcases this with rfl | rfl | rfl | rfl
  · exact ⟨v0, rfl, .inl rfl⟩
  · exact ⟨v1, rfl, .inr (.inl rfl)⟩
  · exact ⟨v2, rfl, .inr (.inr (.inl rfl))⟩
  · exact ⟨v3, rfl, .inr (.inr (.inr rfl))⟩
theorem DenL.at_mem {S : Sys} {H : Hp} {xs : List V} {ts : List Tm} (h : DenL S H xs ts) {i : Int} (h0 : 0 ≤ i) (h1 : i < (ts.length : Int)) : ∃ v t, atI xs i = some v ∧ S.den H v t ∧ t ∈ ts := by
  obtain ⟨n, rfl⟩ := Int.eq_ofNat_of_zero_le h0
  have hn : n < ts.length := by omega
  obtain ⟨v, e, d⟩ := h.get hn
  exact ⟨v, _, atI_nat e, d, List.getElem_mem hn⟩
theorem DenL.reverse {S : Sys} {H : Hp} {vs : List V} {ts : List Tm} (h : DenL S H vs ts) : DenL S H vs.reverse ts.reverse := by
  have hl := h.len
  refine ⟨by rw [List.length_reverse, List.length_reverse, hl], fun i v t a b => ?_⟩
  have hi : i < vs.length := by
    have := (List.getElem?_eq_some_iff.mp a).1
    rwa [List.length_reverse] at this
  rw [List.getElem?_reverse hi] at a
  rw [List.getElem?_reverse (by omega), ← hl] at b
  exact h.at_ _ v t a b
end

/-! ### a way comes to one top alone -/
def forkT (a b : Tm) : Tm := .sl "fork" a b
def rowT (k : Int) (x : Str) : Tm := .sl "row" (.int k) (.str x)
theorem forkT_inj {a b c d : Tm} (h : forkT a b = forkT c d) : a = c ∧ b = d := ⟨(Tm.sl.inj h).2.1, (Tm.sl.inj h).2.2⟩
/-- what stands at the end of a way -/
def endT : List (Int × Str) → Tm
  | [] => nonT
  | e :: _ => rowT e.1 e.2
theorem endT_nf (r : List (Int × Str)) (a b : Tm) : endT r ≠ forkT a b := by
  cases r with
  | nil => exact fun h => absurd (Tm.sl.inj h).1 (by decide +kernel)
  | cons e r => exact fun h => absurd (Tm.sl.inj h).1 (by decide +kernel)
theorem endT_inj {r s : List (Int × Str)} (hr : r.length ≤ 1) (hs : s.length ≤ 1) (h : endT r = endT s) : r = s := by
  match r, s, hr, hs, h with
  | [], [], _, _, _ => rfl
  | [], _ :: _, _, _, h => exact absurd (Tm.sl.inj h).1 (by decide +kernel)
  | _ :: _, [], _, _, h => exact absurd (Tm.sl.inj h).1 (by decide +kernel)
  | [e], [f], _, _, h =>
    have h2 := (Tm.sl.inj h).2
    have a := Tm.int.inj h2.1
    have b := Tm.str.inj h2.2
    rw [show e = f from Prod.ext a b]
  | _ :: _ :: _, _, hr, _, _ => simp at hr
  | _, _ :: _ :: _, _, hs, _ => simp at hs
theorem endT_part (l : Nat) {r : List (Int × Str)} (hr : r.length ≤ 1) : partT l r = endT r := by
  match r, hr with
  | [], _ => exact partT_nil l
  | [e], _ => exact partT_one l e
  | _ :: _ :: _, hr => simp at hr
def climbT (k : Int) : Nat → List Tm → Tm → Tm
  | _, [], e => e
  | 0, _ :: _, _ => nonT
  | l + 1, o :: os, e => if k / 2 ^ l % 2 = 0 then forkT (climbT k l os e) o else forkT o (climbT k l os e)
theorem climbT_nil (k : Int) (l : Nat) (e : Tm) : climbT k l [] e = e := by cases l <;> rfl
/-- the way of a key climbs to the table's top, and no other one does -/
theorem climb_inj (k : Int) : ∀ (l : Nat) (os : List Tm) (r rows : List (Int × Str)), os.length ≤ l → r.length ≤ 1 → RowsOk l rows → (climbT k l os (endT r) = partT l rows ↔ (os, r) = wayT l rows k)
  | l, [], r, rows, _, hr, hrows => by
    rw [climbT_nil]
    by_cases c : rows.length ≤ 1
    · rw [wayT_few c, endT_part l c]
      exact ⟨fun h => by rw [endT_inj hr c h], fun h => by rw [show r = rows from (Prod.ext_iff.mp h).2]⟩
    · cases l with
      | zero => exact absurd hrows.zero c
      | succ l =>
        rw [partT_more (by omega), wayT_more (by omega)]
        exact ⟨fun h => absurd h (endT_nf _ _ _), fun h => by have := (Prod.ext_iff.mp h).1; cases this⟩
  | 0, _ :: _, _, _, hl, _, _ => absurd hl (by simp)
  | l + 1, o :: os, r, rows, hl, hr, hrows => by
    by_cases c : rows.length ≤ 1
    · rw [wayT_few c, endT_part _ c]
      refine ⟨fun h => ?_, fun h => by have := (Prod.ext_iff.mp h).1; cases this⟩
      unfold climbT at h
      split at h
      · exact absurd h.symm (endT_nf _ _ _)
      · exact absurd h.symm (endT_nf _ _ _)
    · rw [partT_more (by omega), wayT_more (by omega)]
      have hl' : os.length ≤ l := by simpa using hl
      unfold climbT
      rcases bit01 k l with h | h
      · rw [if_pos h, h]
        have ih := climb_inj k l os r (rows.filter (bitK l 0)) hl' hr hrows.part
        constructor
        · intro q
          obtain ⟨q1, q2⟩ := forkT_inj q
          have q3 := ih.mp q1
          rw [← (Prod.ext_iff.mp q3).1, ← (Prod.ext_iff.mp q3).2, q2]
          rfl
        · intro q
          have q1 := (Prod.ext_iff.mp q).1
          have q2 := (Prod.ext_iff.mp q).2
          injection q1 with q3 q4
          rw [ih.mpr (Prod.ext q4 q2), q3]
          rfl
      · rw [if_neg (by rw [h]; decide), h]
        have ih := climb_inj k l os r (rows.filter (bitK l 1)) hl' hr hrows.part
        constructor
        · intro q
          obtain ⟨q1, q2⟩ := forkT_inj q
          have q3 := ih.mp q2
          rw [← (Prod.ext_iff.mp q3).1, ← (Prod.ext_iff.mp q3).2, q1]
          rfl
        · intro q
          have q1 := (Prod.ext_iff.mp q).1
          have q2 := (Prod.ext_iff.mp q).2
          injection q1 with q3 q4
          rw [ih.mpr (Prod.ext q4 q2), q3]
          rfl
theorem climb_dep {k : Int} {d : Nat} : ∀ (l : Nat) (os : List Tm) (e : Tm), e.dep ≤ d → (∀ t ∈ os, t.dep ≤ d) → (climbT k l os e).dep ≤ d + os.length
  | l, [], e, he, _ => by rw [climbT_nil]; exact Nat.le_trans he (Nat.le_add_right _ _)
  | 0, _ :: os, e, _, _ => by show max 0 0 + 1 ≤ d + (os.length + 1); omega
  | l + 1, o :: os, e, he, ho => by
    have ih := climb_dep (k := k) (d := d) l os e he fun t ht => ho t (List.mem_cons_of_mem _ ht)
    have h1 := ho o List.mem_cons_self
    unfold climbT
    split
    · show max (climbT k l os e).dep o.dep + 1 ≤ d + (os.length + 1)
      omega
    · show max o.dep (climbT k l os e).dep + 1 ≤ d + (os.length + 1)
      omega
theorem climb_ws {k : Int} : ∀ (l : Nat) (os : List Tm) (e : Tm), WS e → (∀ t ∈ os, WS t) → WS (climbT k l os e)
  | l, [], e, he, _ => by rw [climbT_nil]; exact he
  | 0, _ :: _, _, _, _ => .non
  | l + 1, o :: os, e, he, ho => by
    have ih := climb_ws (k := k) l os e he fun t ht => ho t (List.mem_cons_of_mem _ ht)
    have h1 := ho o List.mem_cons_self
    unfold climbT
    split
    · exact .fork ih h1
    · exact .fork h1 ih
theorem endT_ws (r : List (Int × Str)) : WS (endT r) := by
  cases r with
  | nil => exact .non
  | cons e r => exact .row _ _
theorem endT_dep (r : List (Int × Str)) : (endT r).dep ≤ 1 := by
  cases r with
  | nil => exact Nat.le_refl _
  | cons e r => exact Nat.le_refl _
theorem partT_ws : ∀ (l : Nat) (rows : List (Int × Str)), WS (partT l rows)
  | l, [] => by rw [partT_nil]; exact .non
  | l, [e] => by rw [partT_one]; exact .row _ _
  | 0, _ :: _ :: _ => .non
  | l + 1, a :: b :: r => .fork (partT_ws l _) (partT_ws l _)
theorem wayT_ws : ∀ (l : Nat) (rows : List (Int × Str)) (k : Int), ∀ t ∈ (wayT l rows k).1, WS t
  | 0, _, _ => fun t h => nomatch h
  | l + 1, rows, k => by
    by_cases h : rows.length ≤ 1
    · rw [wayT_few h]
      exact fun t h => nomatch h
    · rw [wayT_more (by omega)]
      intro t ht
      rcases List.mem_cons.mp ht with rfl | ht
      · exact partT_ws l _
      · exact wayT_ws l _ k t ht
/-- one step of the climbing -/
def upT (k : Int) (l : Nat) (t o : Tm) : Tm := if k / 2 ^ l % 2 = 0 then forkT t o else forkT o t
theorem climb_drop (k : Int) (e : Tm) : ∀ (l : Nat) (os : List Tm) (i : Nat) (o : Tm), os.length ≤ l → os[i]? = some o → climbT k (l - i) (os.drop i) e = upT k (l - i - 1) (climbT k (l - i - 1) (os.drop (i + 1)) e) o
  | l, os, i, o, hl, ho => by
    obtain ⟨hi, hx⟩ := List.getElem?_eq_some_iff.mp ho
    obtain ⟨m, hm⟩ : ∃ m, l - i = m + 1 := ⟨l - i - 1, by omega⟩
    rw [hm, List.drop_eq_getElem_cons hi, hx]
    rfl

/-! ### papers of a key -/
abbrev EndM := Option (List (Int × Str))
abbrev WayM := Option (List Tm × EndM)
abbrev PapM := Option (Str × Tm × Option (List Tm) × WayM)
def NoT (K : PySem.W.Frag) (H : Hp) (v : V) (T : String) : Prop := ∀ H', Ext H H' → ∃ t, TyX K H' v t ∧ PySem.W.kitOne K t (.type T) = some false
def OddD (K : PySem.W.Frag) (H : Hp) (v : V) (P : PyData → Prop) : Prop := ∀ H', Ext H H' → ∃ d, Dp K H' v d ∧ d.canLay0 = true ∧ d.depth ≤ 50 ∧ P d
def EndAt (K : PySem.W.Frag) (H : Hp) (e : V) : EndM → Prop
  | some rr => EndV H e rr
  | none => e ≠ .non ∧ (NoT K H e "tuple" ∨ ∃ q ys, e = .ref q ∧ H q = some (.tup ys) ∧ ys.length ≠ 2) ∧ OddD K H e fun d => d ≠ .none ∧ ∀ a b, d ≠ .tuple [a, b]
def WayAt (K : PySem.W.Frag) (S0 : Sys) (H : Hp) (v : V) : WayM → Prop
  | some (os, e) => ∃ q o ev ys, v = .ref q ∧ H q = some (.tup [.ref o, ev]) ∧ H o = some (.lst ys) ∧ DenL S0 H ys os ∧ (∀ t ∈ os, WS t ∧ t.dep ≤ 20) ∧ os.length ≤ 20 ∧ EndAt K H ev e
  | none => (NoT K H v "tuple" ∨ ∃ q ys, v = .ref q ∧ H q = some (.tup ys) ∧ (ys.length ≠ 2 ∨ ∃ u e, ys = [u, e] ∧ NoT K H u "list")) ∧ OddD K H v fun d => ∀ a b, d ≠ .tuple [.list a, b]
def PathAt (K : PySem.W.Frag) (S0 : Sys) (H : Hp) (v : V) (p : Option (List Tm)) : Prop := Pap K S0 H v p ∧ (p = none → OddD K H v fun d => ∀ a, d ≠ .list a)
def PapAt (K : PySem.W.Frag) (S0 : Sys) (H : Hp) (v : V) : PapM → Prop
  | some (x, tt, path, way) => ∃ q tv pv wv, v = .ref q ∧ H q = some (.tup [.str x, tv, pv, wv]) ∧ txtOk x = true ∧ S0.den H tv tt ∧ WS tt ∧ tt.dep ≤ 18 ∧ PathAt K S0 H pv path ∧ WayAt K S0 H wv way
  | none => (NoT K H v "tuple" ∨ ∃ q ys, v = .ref q ∧ H q = some (.tup ys) ∧ ys.length ≠ 4) ∧ OddD K H v fun d => ∀ a b c e, d ≠ .tuple [a, b, c, e]
section
variable {K : PySem.W.Frag} {S0 : Sys} {H H' : Hp} {v : V}
theorem NoT.ext {T : String} (h : NoT K H v T) (x : Ext H H') : NoT K H' v T := fun H2 y => h H2 (x.trans y)
theorem OddD.ext {P : PyData → Prop} (h : OddD K H v P) (x : Ext H H') : OddD K H' v P := fun H2 y => h H2 (x.trans y)
theorem EndAt.ext {e : EndM} (h : EndAt K H v e) (x : Ext H H') : EndAt K H' v e := by
  cases e with
  | some rr => exact EndV.gr h x.gr
  | none =>
    obtain ⟨a, b, c⟩ := h
    refine ⟨a, ?_, c.ext x⟩
    rcases b with b | ⟨q, ys, rfl, g1, g2⟩
    · exact .inl (b.ext x)
    · exact .inr ⟨q, ys, rfl, x.tup g1, g2⟩
theorem WayAt.ext (G : S0.Good K) {w : WayM} (h : WayAt K S0 H v w) (x : Ext H H') : WayAt K S0 H' v w := by
  cases w with
  | some p =>
    obtain ⟨os, e⟩ := p
    obtain ⟨q, o, ev, ys, rfl, g1, g2, g3, g4, g5, g6⟩ := h
    exact ⟨q, o, ev, ys, rfl, x.tup g1, x.lst g2, g3.mono G x.gr, g4, g5, g6.ext x⟩
  | none =>
    obtain ⟨b, c⟩ := h
    refine ⟨?_, c.ext x⟩
    rcases b with b | ⟨q, ys, rfl, g1, g2⟩
    · exact .inl (b.ext x)
    · refine .inr ⟨q, ys, rfl, x.tup g1, ?_⟩
      rcases g2 with g2 | ⟨u, e, g3, g4⟩
      · exact .inl g2
      · exact .inr ⟨u, e, g3, g4.ext x⟩
theorem PathAt.ext (G : S0.Good K) {p : Option (List Tm)} (h : PathAt K S0 H v p) (x : Ext H H') : PathAt K S0 H' v p := ⟨h.1.ext G x, fun e => (h.2 e).ext x⟩
theorem PapAt.ext (G : S0.Good K) {p : PapM} (h : PapAt K S0 H v p) (x : Ext H H') : PapAt K S0 H' v p := by
  cases p with
  | some p =>
    obtain ⟨tx, tt, path, way⟩ := p
    obtain ⟨q, tv, pv, wv, rfl, g1, g2, g3, g4, g5, g6, g7⟩ := h
    exact ⟨q, tv, pv, wv, rfl, x.tup g1, g2, G.mono x.gr g3, g4, g5, g6.ext G x, g7.ext G x⟩
  | none =>
    obtain ⟨b, c⟩ := h
    refine ⟨?_, c.ext x⟩
    rcases b with b | ⟨q, ys, rfl, g1, g2⟩
    · exact .inl (b.ext x)
    · exact .inr ⟨q, ys, rfl, x.tup g1, g2⟩
end
def climbO (k : Int) (l : Nat) : WayM → Option Tm
  | some (os, some rr) => if os.length ≤ l then some (climbT k l os (endT rr)) else none
  | _ => none
section
variable {P : Program} {w : World} {K : PySem.W.Frag} {mg : Str → Option Value} {base : Heap} {Fam : Sys → Prop}
def spClimbed (K : PySem.W.Frag) (mg : Str → Option Value) (Fam : Sys → Prop) : Sp := fun vs H Q E => ∃ (S0 : Sys) (k : Int) (l : Nat) (v : V) (wm : WayM) (r : Nat), Fam S0 ∧ vs = [.ref S0.f, .int k, .int (l : Int), v] ∧ 0 ≤ k ∧ l ≤ 1000 ∧ WayAt K S0 H v wm ∧ S0.ok H (r + 25) ∧
  (∀ t, climbO k l wm = some t → ∀ u H', Ext H H' → S0.ok H' r → S0.den H' u t → Q u H') ∧ (climbO k l wm = none → ∀ D, mg "BadPaper" = some (.ref D) → E (.ref D) none H)
theorem ok_climbed {cc : Addr} (T : Txt K mg cc) (A : SlA P w K mg base Fam) : CalX P w K mg base 3 "climbed" (spClimbed K mg Fam) := by
  have Z := T.Z
  obtain ⟨C_BadPaper, g_BadPaper, F_BadPaper⟩ := T.x_BadPaper.ex
  have C_none_seal := ok_none_seal T A
  refine calX_of T.d_climbed sc_climbed (fun vs H Q E h => ?_) (fun f cdv A' outer s H vs Q E hr h => ?_)
  · obtain ⟨S0, k, l, v, wm, r, _, rfl, _⟩ := h
    rfl
  obtain ⟨S0, k, l, v, wm, r, hF, rfl, hk, hl, hw, hok, q1, q2⟩ := h
  have G := A.good hF
  refine ⟨_, (pss_cons (ps_if (PW.pt (pw_or (pt_not (pt_val (pe_callB call_isi rfl Z.isinstance (by decide +kernel) (pa_cons (pv 3) (pa_cons (pe_bltn (v := .ty "tuple") rfl Z.tuple (by decide +kernel) rfl) pa_nil))))) (pw_or (pt_cmpR op_ne (pe_callB call_len_seq rfl Z.len PySem.boot_len (pa_cons (pv 3) pa_nil)) pe_int (nomark _)) (pw_or (pt_not (pt_val (pe_callB call_isi rfl Z.isinstance (by decide +kernel) (pa_cons (pe_ix ix_tup (pv 3) pe_int (fun _ _ => rfl)) (pa_cons (pe_bltn (v := .ty "list") rfl Z.list (by decide +kernel) rfl) pa_nil))))) (pw_or1 (pt_cmpR op_gt (pe_callB call_len_seq rfl Z.len PySem.boot_len (pa_cons (pe_ix ix_tup (pv 3) pe_int (fun _ _ => rfl)) pa_nil)) (pv 2) (nomark _))))))) (pss_one (ps_raiseX F_BadPaper g_BadPaper rfl (takes_of rfl rfl rfl rfl) rfl)) pss_nil)
  (pss_cons (ps_set (i := 4) sc_climbed.nd rfl (Or.inl rfl) (pe_ix ix_tup (pv 3) pe_int (fun _ _ => rfl)))
  (Evl.pss_cut (ps_if (pt_cmpR op_isN (pv 4) pe_non (nomark _)) (pss_one (ps_set (i := 5) sc_climbed.nd rfl (Or.inl rfl) (pe_c C_none_seal hr (by omega) rfl (pa_cons (pv 0) pa_nil)))) (pss_one (ps_if (PW.pt (pw_and (pt_val (pe_callB call_isi rfl Z.isinstance (by decide +kernel) (pa_cons (pv 4) (pa_cons (pe_bltn (v := .ty "tuple") rfl Z.tuple (by decide +kernel) rfl) pa_nil)))) (pw_and1 (pt_cmpR op_eq (pe_callB call_len_seq rfl Z.len PySem.boot_len (pa_cons (pv 4) pa_nil)) pe_int (nomark _))))) (pss_one (ps_set (i := 5) sc_climbed.nd rfl (Or.inl rfl) (pe_sl (i := 0) A.held hr (by omega) rfl (by first | exact Or.inl rfl | exact Or.inr (Or.inl rfl) | exact Or.inr (Or.inr rfl)) (pa_cons pe_str (pa_cons (pe_ix ix_tup (pv 4) pe_int (fun _ _ => rfl)) (pa_cons (pe_ix ix_tup (pv 4) pe_int (fun _ _ => rfl)) pa_nil)))))) (pss_one (ps_raiseX F_BadPaper g_BadPaper rfl (takes_of rfl rfl rfl rfl) rfl)))))
  (pss_cons (ps_set (i := 6) sc_climbed.nd rfl (Or.inl rfl) (pe_op op_sub (pv 2) (pe_callB call_len_seq rfl Z.len PySem.boot_len (pa_cons (pe_ix ix_tup (pv 3) pe_int (fun _ _ => rfl)) pa_nil))))
  (pss_cons (ps_for (passes_of rfl) rfl (pi_reversed rfl Z.reversed (pa_cons (pe_ix ix_tup (pv 3) pe_int (fun _ _ => rfl)) pa_nil)) (pg_name (i := 7) sc_climbed.nd rfl (Or.inl rfl)) (pss_cons (ps_if (pt_cmpR op_eq (pe_op op_odd (pe_op op_shrN (pv 1) (pv 6)) pe_int) pe_int (nomark _)) (pss_one (ps_set (i := 5) sc_climbed.nd rfl (Or.inl rfl) (pe_sl (i := 0) A.held hr (by omega) rfl (by first | exact Or.inl rfl | exact Or.inr (Or.inl rfl) | exact Or.inr (Or.inr rfl)) (pa_cons pe_str (pa_cons (pv 5) (pa_cons (pv 7) pa_nil)))))) (pss_one (ps_set (i := 5) sc_climbed.nd rfl (Or.inl rfl) (pe_sl (i := 0) A.held hr (by omega) rfl (by first | exact Or.inl rfl | exact Or.inr (Or.inl rfl) | exact Or.inr (Or.inr rfl)) (pa_cons pe_str (pa_cons (pv 7) (pa_cons (pv 5) pa_nil)))))))
  (pss_one (ps_aug (i := 6) sc_climbed.nd rfl (Or.inl rfl) pe_int ip_add))))
  (pss_one (ps_ret (pv 5)))))))), ?_⟩
  cases wm with
  | none =>
    obtain ⟨b, c⟩ := hw
    rcases b with b | ⟨q, ys, rfl, hq, b⟩
    · obtain ⟨t, hty, hkt⟩ := b H (Ext.refl H)
      exact ⟨_, rfl, v, .ty "tuple", _, _, false, rfl, .ty "tuple", hty, hkt, false, rfl, q2 rfl _ g_BadPaper⟩
    · refine ⟨_, rfl, .ref q, .ty "tuple", _, _, true, rfl, .ty "tuple", .base (.tup hq), kit_ty (by decide +kernel), true, rfl, ?_⟩
      refine ⟨_, rfl, q, ys, rfl, .inr (SqT.of hq), rfl, _, rfl, ?_⟩
      by_cases c2 : ys.length = 2
      · rw [decide_eq_true (show V.int (ys.length : Int) = V.int 2 by rw [c2]; rfl)]
        refine iteF ?_
        obtain ⟨u, e, rfl, hu⟩ := b.resolve_left fun z => z c2
        obtain ⟨t, hty, hkt⟩ := hu H (Ext.refl H)
        exact ⟨_, rfl, q, _, 0, u, rfl, rfl, SqT.of hq, rfl, u, .ty "list", _, _, false, rfl, .ty "list", hty, hkt, false, rfl, q2 rfl _ g_BadPaper⟩
      · rw [decide_eq_false (fun z => c2 (by have := V.int.inj z; omega))]
        refine iteT ?_
        refine iteT ?_
        exact q2 rfl _ g_BadPaper
  | some wp =>
    obtain ⟨os, e⟩ := wp
    obtain ⟨wq, o, ev, ys, rfl, hwq, ho, hd, hos, hosl, hev⟩ := hw
    have hyl := hd.len
    refine ⟨_, rfl, .ref wq, .ty "tuple", _, _, true, rfl, .ty "tuple", .base (.tup hwq), kit_ty (by decide +kernel), true, rfl, ?_⟩
    refine ⟨_, rfl, wq, _, rfl, .inr (SqT.of hwq), rfl, _, rfl, ?_⟩
    refine iteF ?_
    refine ⟨_, rfl, wq, _, 0, .ref o, rfl, rfl, SqT.of hwq, rfl, .ref o, .ty "list", _, _, true, rfl, .ty "list", .base (.lst ho), kit_ty (by decide +kernel), true, rfl, ?_⟩
    refine ⟨_, rfl, wq, _, 0, .ref o, rfl, rfl, SqT.of hwq, rfl, o, ys, rfl, .inl (SqL.of ho), _, rfl, _, _, rfl, rfl, _, rfl, ?_⟩
    by_cases c1 : os.length ≤ l
    · rw [decide_eq_false (show ¬ (l : Int) < (ys.length : Int) by omega)]
      refine iteF ?_
      refine ⟨_, rfl, wq, _, 1, ev, rfl, rfl, SqT.of hwq, rfl, ?_⟩
      cases e with
      | none =>
        obtain ⟨e1, e2, _⟩ := hev
        have q2 := q2 rfl _ g_BadPaper
        refine ⟨fun _ _ => False, ?_, fun _ _ z => z.elim⟩
        refine ⟨_, rfl, rfl, _, rfl, ?_⟩
        rw [decide_eq_false e1]
        refine iteF ?_
        rcases e2 with e2 | ⟨q, zs, rfl, hq, e2⟩
        · obtain ⟨t, hty, hkt⟩ := e2 H (Ext.refl H)
          exact ⟨_, rfl, ev, .ty "tuple", _, _, false, rfl, .ty "tuple", hty, hkt, false, rfl, q2⟩
        · refine ⟨_, rfl, .ref q, .ty "tuple", _, _, true, rfl, .ty "tuple", .base (.tup hq), kit_ty (by decide +kernel), true, rfl, ?_⟩
          refine ⟨_, rfl, q, zs, rfl, .inr (SqT.of hq), rfl, _, rfl, ?_⟩
          rw [decide_eq_false (fun z => e2 (by have := V.int.inj z; omega))]
          exact q2
      | some rr =>
        refine ⟨fun σ H' => ∃ tv : V, σ = [some (.ref S0.f), some (.int k), some (.int (l : Int)), some (.ref wq), some ev, some tv, none, none] ∧ Ext H H' ∧ S0.ok H' (r + 22) ∧ S0.den H' tv (endT rr), ?_, ?_⟩
        · rcases hev with ⟨rfl, rfl⟩ | ⟨x, qe, rfl, rfl, hqe, htx⟩
          · refine ⟨_, rfl, rfl, _, rfl, ?_⟩
            refine iteT ?_
            refine ⟨_, rfl, S0, r + 24, hF, rfl, hok, fun v0 H3 x3 ok3 d3 => ?_⟩
            exact ⟨v0, rfl, x3, G.less ok3 (by omega), d3⟩
          · refine ⟨_, rfl, rfl, _, rfl, ?_⟩
            rw [decide_eq_false (fun z => nomatch z)]
            refine iteF ?_
            refine ⟨_, rfl, .ref qe, .ty "tuple", _, _, true, rfl, .ty "tuple", .base (.tup hqe), kit_ty (by decide +kernel), true, rfl, ?_⟩
            refine ⟨_, rfl, qe, _, rfl, .inr (SqT.of hqe), rfl, _, rfl, ?_⟩
            refine iteT ?_
            refine ⟨S0, _, hF, rfl, hok, _, rfl, qe, _, 0, _, rfl, rfl, SqT.of hqe, rfl, _, rfl, qe, _, 1, _, rfl, rfl, SqT.of hqe, rfl, r + 24, "row", .int x.1, .str x.2, _, _, rfl, by decide +kernel, hok, G.int _ hok, G.str _ hok htx, fun u H4 x4 ok4 d4 => ?_⟩
            exact ⟨u, rfl, x4, G.less ok4 (by omega), d4⟩
        rintro σ H1 ⟨tv, rfl, x1, ok1, d1⟩
        have q3 := fun u H' e ok d => q1 (climbT k l os (endT rr)) (if_pos c1) u H' e ok d
        have hw1 := x1.tup hwq
        refine ⟨_, rfl, _, rfl, wq, _, 0, .ref o, rfl, rfl, SqT.of hw1, rfl, o, ys, rfl, .inl (SqL.of (x1.lst ho)), _, _, rfl, rfl, ?_⟩
        refine ⟨_, rfl, wq, _, 0, .ref o, rfl, rfl, SqT.of hw1, rfl, o, ys, rfl, SqL.of (x1.lst ho), ?_⟩
        refine RT.for_Itv (K := K) (a := o) (xs := ys) (fun i σ H' => ∃ (tv : V) (y7 : Option V), σ = [some (.ref S0.f), some (.int k), some (.int (l : Int)), some (.ref wq), some ev, some tv, some (.int (((l - os.length + i : Nat)) : Int)), y7] ∧ Ext H1 H' ∧ S0.ok H' (r + 22 - i) ∧ S0.den H' tv (climbT k (l - (os.length - i)) (os.drop (os.length - i)) (endT rr)))
          ⟨tv, none, ?_, Ext.refl _, ok1, ?_⟩ (fun i σ H' ⟨_, _, _, x, _⟩ => SqL.of (x.lst (x1.lst ho))) ?_ ?_
        · rw [show ((l - os.length + 0 : Nat) : Int) = (l : Int) - (ys.length : Int) by omega]
          rfl
        · rw [Nat.sub_zero, List.drop_length, climbT_nil]
          exact d1
        · rintro i x σ H2 hi hx ⟨tv2, y7, rfl, x2, ok2, d2⟩
          obtain ⟨j, hj⟩ : ∃ j, j = os.length - 1 - i := ⟨_, rfl⟩
          have hjl : j < os.length := by omega
          obtain ⟨oj, hoj⟩ : ∃ oj, os[j]? = some oj := ⟨os[j]'hjl, List.getElem?_eq_getElem _⟩
          rw [hyl, ← hj] at hx
          have dx := G.mono (x1.trans x2).gr (hd.at_ j x oj hx hoj)
          have hup := climb_drop k (endT rr) l os j oj c1 hoj
          have e1 : os.length - (i + 1) = j := by omega
          have e2 : os.length - i = j + 1 := by omega
          have e3 : l - os.length + i = l - j - 1 := by omega
          have e4 : l - (j + 1) = l - j - 1 := by omega
          rw [e1, hup]
          rw [e2, e4] at d2
          rw [e3]
          generalize hm : l - j - 1 = m at d2 ⊢
          obtain ⟨n, hn⟩ := Int.eq_ofNat_of_zero_le (Int.ediv_nonneg hk (Int.le_of_lt (show (0 : Int) < 2 ^ m from Int.pow_pos (by decide))))
          have hbit : k / 2 ^ m % 2 = ((n % 2 : Nat) : Int) := by rw [hn]; omega
          have e5 : r + 22 - i = (r + 22 - (i + 1)) + 1 := by omega
          refine ⟨_, rfl, _, rfl, _, m, rfl, rfl, n, by rw [hn], rfl, rfl, _, rfl, ite2 (fun c => ?_) (fun c => ?_)⟩
          · have c' : k / 2 ^ m % 2 = 0 := by rw [hbit]; exact V.int.inj (of_decide_eq_true c)
            refine ⟨S0, _, hF, rfl, ok2, _, rfl, _, rfl, r + 22 - (i + 1), "fork", climbT k m (os.drop (j + 1)) (endT rr), oj, _, _, rfl, by decide +kernel, by rw [← e5]; exact ok2, d2, dx, fun u H4 x4 ok4 d4 => ?_⟩
            refine ⟨_, rfl, _, _, rfl, rfl, ?_⟩
            refine ⟨u, some x, ?_, x2.trans x4, ok4, ?_⟩
            · rw [show ((l - os.length + (i + 1) : Nat) : Int) = (m : Int) + 1 by omega]
              rfl
            · unfold upT
              rw [if_pos c']
              exact d4
          · have c' : ¬ k / 2 ^ m % 2 = 0 := by rw [hbit]; exact fun z => c (decide_eq_true (congrArg V.int z))
            refine ⟨S0, _, hF, rfl, ok2, _, rfl, _, rfl, r + 22 - (i + 1), "fork", oj, climbT k m (os.drop (j + 1)) (endT rr), _, _, rfl, by decide +kernel, by rw [← e5]; exact ok2, dx, d2, fun u H4 x4 ok4 d4 => ?_⟩
            refine ⟨_, rfl, _, _, rfl, rfl, ?_⟩
            refine ⟨u, some x, ?_, x2.trans x4, ok4, ?_⟩
            · rw [show ((l - os.length + (i + 1) : Nat) : Int) = (m : Int) + 1 by omega]
              rfl
            · unfold upT
              rw [if_neg c']
              exact d4
        · rintro σ H2 ⟨tv2, y7, rfl, x2, ok2, d2⟩
          rw [hyl, Nat.sub_self, Nat.sub_zero, List.drop_zero] at d2
          exact ⟨_, rfl, q3 _ _ (x1.trans x2) (G.less ok2 (by omega)) d2⟩
    · rw [decide_eq_true (show (l : Int) < (ys.length : Int) by omega)]
      refine iteT ?_
      exact q2 (by cases e with | none => rfl | some rr => exact if_neg c1) _ g_BadPaper
end

/-! ### claims of a key -/
structure BhCl where
  place : Int
  key : Int
  depth : Int
  said : Option Str
def bhF (c : BhCl) : List (Str × V) := ("place", .int c.place) :: ("key", .int c.key) :: ("depth", .int c.depth) :: (match c.said with | none => [] | some x => [("said", .str x)])
theorem bhF_place (c : BhCl) : (bhF c).lookup ("place" : Str) = some (.int c.place) := by kernel_rfl
theorem bhF_key (c : BhCl) : (bhF c).lookup ("key" : Str) = some (.int c.key) := by kernel_rfl
theorem bhF_depth (c : BhCl) : (bhF c).lookup ("depth" : Str) = some (.int c.depth) := by kernel_rfl
theorem bhF_said {p k d : Int} {x : Str} : (bhF ⟨p, k, d, some x⟩).lookup ("said" : Str) = some (.str x) := by kernel_rfl
theorem bhF_no (c : BhCl) : (bhF c).lookup ("judged" : Str) = none ∧ (bhF c).lookup ("shown" : Str) = none ∧ (bhF c).lookup ("ends" : Str) = none := by
  obtain ⟨p, k, d, s⟩ := c
  cases s with
  | none => exact ⟨by kernel_rfl, by kernel_rfl, by kernel_rfl⟩
  | some x => exact ⟨by kernel_rfl, by kernel_rfl, by kernel_rfl⟩
theorem bhF_mk (p k d : Int) : putF "depth" (.int d) (putF "key" (.int k) (putF "place" (.int p) [])) = bhF ⟨p, k, d, none⟩ := by kernel_rfl
theorem bhF_mk2 (p k d : Int) (x : Str) : putF "said" (.str x) (bhF ⟨p, k, d, none⟩) = bhF ⟨p, k, d, some x⟩ := by kernel_rfl
structure BhC (K : PySem.W.Frag) (C : Addr) : Prop where
  cl : Cls K C
  n_place : NoAttr K C "place"
  n_key : NoAttr K C "key"
  n_depth : NoAttr K C "depth"
structure BhK (K : PySem.W.Frag) (C : Addr) : Prop where
  c : BhC K C
  m_shown : MetX K C "shown" "Behind.shown" s_Behind_shown ["self", "seal", "size", "head", "paper"]
  m_judged : MetX K C "judged" "Claim.judged" s_Claim_judged ["self", "seal", "size", "head", "paper"]
theorem bhk_holds {K : PySem.W.Frag} {mg : Str → Option Value} {C : Addr} (h : K_Holds K mg C) : BhK K C := ⟨⟨h.cl, h.n_place, h.n_key, h.n_depth⟩, h.m_shown, h.m_judged⟩
theorem bhk_lacks {K : PySem.W.Frag} {mg : Str → Option Value} {C : Addr} (h : K_Lacks K mg C) : BhK K C := ⟨⟨h.cl, h.n_place, h.n_key, h.n_depth⟩, h.m_shown, h.m_judged⟩
def endsB (c : BhCl) : List (Int × Str) → Bool
  | [] => c.said.isNone
  | e :: _ => match c.said with
    | none => decide (e.1 ≠ c.key)
    | some x => decide (e.1 = c.key) && decide (e.2 = x)
def judgeW (c : BhCl) (tt : Tm) : WayM → Bool
  | some (os, some rr) => decide (os.length ≤ c.depth.toNat) && (decide (Tm.sl "table" (.int c.depth) (climbT c.key c.depth.toNat os (endT rr)) = tt) && endsB c rr)
  | _ => false
def judgeB (c : BhCl) (n : Nat) (ht : Tm) : PapM → Bool
  | none => false
  | some (x, tt, path, way) => decide (1 ≤ c.depth ∧ c.depth ≤ 16) && (decide (0 ≤ c.key ∧ c.key < 2 ^ c.depth.toNat) && (judgeS c.place (.sl "leaf" (.str x) tt) n ht path && judgeW c tt way))
theorem climbO_none {c : BhCl} {l : Nat} {tt : Tm} (el : c.depth.toNat = l) : ∀ {way : WayM}, climbO c.key l way = none → judgeW c tt way = false
  | none, _ => rfl
  | some (os, none), _ => rfl
  | some (os, some rr), h => by
    by_cases h1 : os.length ≤ l
    · have h : (if os.length ≤ l then some (climbT c.key l os (endT rr)) else none) = none := h
      rw [if_pos h1] at h
      cases h
    · show (decide (os.length ≤ c.depth.toNat) && _) = false
      rw [el, decide_eq_false h1, Bool.false_and]
theorem climbO_some {k : Int} {l : Nat} {t : Tm} : ∀ {way : WayM}, climbO k l way = some t → ∃ os rr, way = some (os, some rr) ∧ os.length ≤ l ∧ t = climbT k l os (endT rr)
  | none, h => (nomatch h)
  | some (os, none), h => (nomatch h)
  | some (os, some rr), h => by
    have h : (if os.length ≤ l then some (climbT k l os (endT rr)) else none) = some t := h
    by_cases h1 : os.length ≤ l
    · rw [if_pos h1] at h
      exact ⟨os, rr, rfl, h1, (Option.some.inj h).symm⟩
    · rw [if_neg h1] at h
      cases h
section
variable {P : Program} {w : World} {K : PySem.W.Frag} {mg : Str → Option Value} {base : Heap} {Fam : Sys → Prop} {C CH CL C_Behind : Addr}
def spBhInit (K : PySem.W.Frag) : Sp := fun vs H Q _ => ∃ (p C dx : Addr) (a b c : Int), BhC K C ∧ vs = [.ref p, .int a, .int b, .int c] ∧ H p = some (.ins C dx []) ∧ ∀ H', ExtO p H H' → Kp H H' → H' p = some (.ins C dx (bhF ⟨a, b, c, none⟩)) → Q .non H'
theorem bhinit_body : ∀ (CX : CXT) (f : Addr) (cdv : Value) (A' : Around) (outer : List Env) (s : Shared) (H : Hp) (vs : List V) (Q : VK) (E : XK), spBhInit K vs H Q E →
      ∃ t, PSs (cxOf CX P w K mg base N_Behind___init__ "Behind.__init__" (defScope s_Behind___init__) f cdv A' outer s H E).nox (defBody s_Behind___init__) t ∧ t { nx := fun _ H' => Q .non H', rt := Q } (start N_Behind___init__ vs) H := by
  intro CX f cdv A' outer s H vs Q E h
  obtain ⟨p, C, dx, a, b, c, KB, rfl, hp, q⟩ := h
  refine ⟨_, (pss_cons (ps_fld (pv 0) (pv 1) rfl)
  (pss_cons (ps_fld (pv 0) (pv 2) rfl)
  (pss_one (ps_fld (pv 0) (pv 3) rfl)))), ?_⟩
  refine ⟨_, rfl, _, rfl, p, C, dx, _, rfl, hp, KB.cl, KB.n_place, by show 0 < 1000; decide, ?_⟩
  refine ⟨_, rfl, _, rfl, p, C, dx, _, rfl, upd_same, KB.cl, KB.n_key, by show 1 < 1000; decide, ?_⟩
  refine ⟨_, rfl, _, rfl, p, C, dx, _, rfl, upd_same, KB.cl, KB.n_depth, by show 2 < 1000; decide, ?_⟩
  have x1 := ExtO.put (o := .ins C dx (putF "place" (.int a) [])) hp
  have k1 := Kp.ins (o := .ins C dx (putF "place" (.int a) [])) hp
  have x2 := x1.trans (ExtO.put (o := .ins C dx (putF "key" (.int b) (putF "place" (.int a) []))) upd_same)
  have k2 := k1.trans (Kp.ins (o := .ins C dx (putF "key" (.int b) (putF "place" (.int a) []))) upd_same)
  refine q _ (x2.trans (ExtO.put upd_same)) (k2.trans (Kp.ins upd_same)) ?_
  rw [upd_same, bhF_mk]
theorem ok_bhinit (D : ClsM K mg C_Behind "Behind" "__init__" "Behind.__init__" s_Behind___init__ ["self", "place", "key", "depth"]) : CalM P w K mg base 1 C_Behind "__init__" (spBhInit K) :=
  calM_of D sc_Behind___init__ (fun vs H Q E h => by obtain ⟨p, C, dx, a, b, c, _, rfl, _⟩ := h; rfl) (fun f cdv A' outer s H vs Q E hr h => by
    obtain ⟨t, h1, h2⟩ := bhinit_body (P := P) (w := w) (K := K) (mg := mg) (base := base) (L2.CX P w) f cdv A' outer s H vs Q E h
    exact ⟨t, h1.nox, h2⟩)
def spLkInit (C : Addr) : Sp := fun vs H Q _ => ∃ (p dx : Addr) (a b c : Int), vs = [.ref p, .int a, .int b, .int c] ∧ H p = some (.ins C dx []) ∧ ∀ H', ExtO p H H' → Kp H H' → H' p = some (.ins C dx (bhF ⟨a, b, c, none⟩)) → Q .non H'
theorem ok_lkinit (KL : K_Lacks K mg CL) : Mak P w K mg base 1 "Lacks" CL (spLkInit CL) [] := by
  refine mak_of KL.mgC KL.made sc_Behind___init__ (fun vs H Q E h => ?_) (fun f cdv A' outer s H vs Q E hr h => ?_)
  · obtain ⟨p, dx, a, b, c, rfl, _⟩ := h
    rfl
  obtain ⟨p, dx, a, b, c, rfl, hp, q⟩ := h
  obtain ⟨t, h1, h2⟩ := bhinit_body (P := P) (w := w) (K := K) (mg := mg) (base := base) _ f cdv A' outer s H _ Q E ⟨p, CL, dx, a, b, c, (bhk_lacks KL).c, rfl, hp, q⟩
  exact ⟨t, h1, h2⟩
def spHoInit (C : Addr) : Sp := fun vs H Q _ => ∃ (p dx : Addr) (a b c : Int) (x : Str), vs = [.ref p, .int a, .int b, .str x, .int c] ∧ H p = some (.ins C dx []) ∧ ∀ H', ExtO p H H' → Kp H H' → H' p = some (.ins C dx (bhF ⟨a, b, c, some x⟩)) → Q .non H'
theorem ok_hoinit (D : ClsM K mg C_Behind "Behind" "__init__" "Behind.__init__" s_Behind___init__ ["self", "place", "key", "depth"]) (KH : K_Holds K mg CH) : Mak P w K mg base 2 "Holds" CH (spHoInit CH) [] := by
  have M_Behind := ok_bhinit (P := P) (w := w) (base := base) D
  have g_Behind := D.gC
  refine mak_of KH.mgC KH.made sc_Holds___init__ (fun vs H Q E h => ?_) (fun f cdv A' outer s H vs Q E hr h => ?_)
  · obtain ⟨p, dx, a, b, c, x, rfl, _⟩ := h
    rfl
  obtain ⟨p, dx, a, b, c, x, rfl, hp, q⟩ := h
  refine ⟨_, (pss_cons (ps_expr (pe_clm M_Behind takes0 hr (by omega) (pe_glob (v := .ref C_Behind) rfl g_Behind rfl) (pa_cons (pv 0) (pa_cons (pv 1) (pa_cons (pv 2) (pa_cons (pv 4) pa_nil))))))
  (pss_one (ps_fld (pv 0) (pv 3) rfl))), ?_⟩
  refine ⟨rfl, _, rfl, _, rfl, _, rfl, _, rfl, p, CH, dx, a, b, c, (bhk_holds KH).c, rfl, hp, fun H1 x1 k1 h1 => ?_⟩
  refine ⟨_, rfl, _, rfl, p, CH, dx, _, rfl, h1, KH.cl, KH.n_said, by show 3 < 1000; decide, ?_⟩
  rw [bhF_mk2]
  exact q _ (x1.trans (ExtO.put h1)) (k1.trans (Kp.ins h1)) upd_same
def spEnds (C : Addr) (isH : Bool) : Sp := fun vs H Q _ => ∃ (p dx : Addr) (c : BhCl) (e : V) (rr : List (Int × Str)), c.said.isSome = isH ∧ vs = [.ref p, e] ∧ H p = some (.ins C dx (bhF c)) ∧ EndV H e rr ∧ Q (.bl (endsB c rr)) H
theorem ok_hends (KH : K_Holds K mg CH) : Met P w K mg base 1 CH "ends" (spEnds CH true) [] := by
  refine met_of KH.cl KH.m_ends sc_Holds_ends (fun vs H Q E h => ?_) (fun f cdv A' outer s H vs Q E hr h => ?_)
  · obtain ⟨p, dx, c, e, rr, _, rfl, _⟩ := h
    rfl
  obtain ⟨p, dx, c, e, rr, hs, rfl, hp, he, q⟩ := h
  refine ⟨_, (pss_one (ps_ret (pe_and (pe_cmpR op_notN (pv 1) pe_non (nomark _)) (pe_and (pe_cmpR op_eq (pe_ix ix_tup (pv 1) pe_int (fun _ _ => rfl)) (pe_fld (pv 0) rfl) (nomark _)) (pe_one (pe_cmpR op_eq (pe_ix ix_tup (pv 1) pe_int (fun _ _ => rfl)) (pe_fld (pv 0) rfl) (nomark _))))))), ?_⟩
  obtain ⟨cp, ck, cd, cs⟩ := c
  cases cs with
  | none => cases hs
  | some x =>
    rcases he with ⟨rfl, rfl⟩ | ⟨y, qe, rfl, rfl, hqe, _⟩
    · refine ⟨_, rfl, rfl, ?_⟩
      refine ⟨_, rfl, iteF ?_⟩
      exact q
    · refine ⟨_, rfl, rfl, ?_⟩
      rw [decide_eq_false (fun z => nomatch z)]
      refine ⟨_, rfl, iteT ?_⟩
      refine ⟨_, rfl, qe, _, 0, _, rfl, rfl, SqT.of hqe, rfl, _, rfl, p, CH, dx, _, _, rfl, hp, KH.cl, KH.n_key, bhF_key _, rfl, ?_⟩
      by_cases c1 : y.1 = ck
      · rw [decide_eq_true (show V.int y.1 = V.int ck from congrArg V.int c1)]
        refine ⟨_, rfl, iteT ?_⟩
        refine ⟨_, rfl, qe, _, 1, _, rfl, rfl, SqT.of hqe, rfl, _, rfl, p, CH, dx, _, _, rfl, hp, KH.cl, KH.n_said, bhF_said, rfl, ?_⟩
        have e1 : endsB ⟨cp, ck, cd, some x⟩ [y] = decide (V.str y.2 = V.str x) := by
          show (decide (y.1 = ck) && decide (y.2 = x)) = _
          rw [decide_eq_true c1, Bool.true_and]
          exact decide_eq_decide.mpr ⟨fun z => congrArg V.str z, fun z => V.str.inj z⟩
        rw [e1] at q
        exact q
      · rw [decide_eq_false (fun z => c1 (V.int.inj z))]
        refine ⟨_, rfl, iteF ?_⟩
        have e1 : endsB ⟨cp, ck, cd, some x⟩ [y] = false := by
          show (decide (y.1 = ck) && decide (y.2 = x)) = _
          rw [decide_eq_false c1, Bool.false_and]
        rw [e1] at q
        exact q
theorem ok_lends (KL : K_Lacks K mg CL) : Met P w K mg base 1 CL "ends" (spEnds CL false) [] := by
  refine met_of KL.cl KL.m_ends sc_Lacks_ends (fun vs H Q E h => ?_) (fun f cdv A' outer s H vs Q E hr h => ?_)
  · obtain ⟨p, dx, c, e, rr, _, rfl, _⟩ := h
    rfl
  obtain ⟨p, dx, c, e, rr, hs, rfl, hp, he, q⟩ := h
  refine ⟨_, (pss_one (ps_ret (pe_or (pe_cmpR op_isN (pv 1) pe_non (nomark _)) (pe_one (pe_cmpR op_ne (pe_ix ix_tup (pv 1) pe_int (fun _ _ => rfl)) (pe_fld (pv 0) rfl) (nomark _)))))), ?_⟩
  obtain ⟨cp, ck, cd, cs⟩ := c
  cases cs with
  | some x => cases hs
  | none =>
    rcases he with ⟨rfl, rfl⟩ | ⟨y, qe, rfl, rfl, hqe, _⟩
    · refine ⟨_, rfl, rfl, ?_⟩
      refine ⟨_, rfl, iteT ?_⟩
      exact q
    · refine ⟨_, rfl, rfl, ?_⟩
      rw [decide_eq_false (fun z => nomatch z)]
      refine ⟨_, rfl, iteF ?_⟩
      refine ⟨_, rfl, qe, _, 0, _, rfl, rfl, SqT.of hqe, rfl, _, rfl, p, CL, dx, _, _, rfl, hp, KL.cl, KL.n_key, bhF_key _, rfl, ?_⟩
      have e1 : endsB ⟨cp, ck, cd, none⟩ [y] = !decide (V.int y.1 = V.int ck) := by
        show decide (y.1 ≠ ck) = _
        by_cases c1 : y.1 = ck
        · rw [decide_eq_false (fun z => z c1), decide_eq_true (congrArg V.int c1)]; rfl
        · rw [decide_eq_true c1, decide_eq_false (fun z => c1 (V.int.inj z))]; rfl
      rw [e1] at q
      exact q
def spShownB (K : PySem.W.Frag) (mg : Str → Option Value) (C : Addr) (isH : Bool) (Fam : Sys → Prop) : Sp := fun vs H Q E => ∃ (S0 : Sys) (p dx : Addr) (c : BhCl) (n : Nat) (m : Int) (Y : Tm) (head v : V) (paper : PapM) (r : Nat), Fam S0 ∧ vs = [.ref p, .ref S0.f, .int (n : Int), head, v] ∧ H p = some (.ins C dx (bhF c)) ∧ c.said.isSome = isH ∧ n ≤ 1000 ∧
  S0.den H head (.sl "book" (.int m) Y) ∧ WS Y ∧ Y.dep ≤ 40 ∧ PapAt K S0 H v paper ∧ S0.ok H (r + 60) ∧
  (∀ H', Ext H H' → S0.ok H' r → Q (.bl (judgeB c n (.sl "book" (.int m) Y) paper)) H') ∧
  (judgeB c n (.sl "book" (.int m) Y) paper = false → ∀ D H', mg "BadPaper" = some (.ref D) → Ext H H' → S0.ok H' r → E (.ref D) none H')
theorem ok_shownB {cc CS : Addr} {isH : Bool} (T : Txt K mg cc) (A : SlA P w K mg base Fam) (I3 : ∀ {S}, Fam S → S.Inj K) (KS : K_Stands K mg CS) (KB : BhK K C) (M_ends : Met P w K mg base 1 C "ends" (spEnds C isH) []) : MetR P w K mg base 5 C "shown" (spShownB K mg C isH Fam) := by
  have Z := T.Z
  have C_Stands := ok_stinit (P := P) (w := w) (base := base) KS
  have M_shown := ok_shownS T A I3 KS
  have C_climbed := ok_climbed T A
  have C_table_seal := ok_table_seal T A
  refine metR_of KB.c.cl KB.m_shown sc_Behind_shown (fun vs H Q E h => ?_) (fun f cdv A' outer s H vs Q E hr h => ?_)
  · obtain ⟨S0, p, dx, c, n, m, Y, head, v, paper, r, _, rfl, _⟩ := h
    rfl
  obtain ⟨S0, p, dx, c, n, m, Y, head, v, paper, r, hF, rfl, hp, hs, hn, hh, hY, hYd, hpap, hok, q1, q2⟩ := h
  have G := A.good hF
  refine ⟨_, (pss_cons (ps_if (PW.pt (pw_or (pt_not (pt_val (pe_callB call_isi rfl Z.isinstance (by decide +kernel) (pa_cons (pv 4) (pa_cons (pe_bltn (v := .ty "tuple") rfl Z.tuple (by decide +kernel) rfl) pa_nil))))) (pw_or1 (pt_cmpR op_ne (pe_callB call_len_seq rfl Z.len PySem.boot_len (pa_cons (pv 4) pa_nil)) pe_int (nomark _))))) (pss_one (ps_ret pe_bl)) pss_nil)
  (pss_cons (ps_if (PW.pt (pw_or (pt_not (pt_chain op_le op_le pe_int (pe_fld (pv 0) rfl) pe_int)) (pw_or1 (pt_not (pt_chain op_le op_lt pe_int (pe_fld (pv 0) rfl) (pe_op op_oneShl pe_int (pe_fld (pv 0) rfl))))))) (pss_one (ps_ret pe_bl)) pss_nil)
  (pss_cons (ps_set (i := 5) sc_Behind_shown.nd rfl (Or.inl rfl) (pe_mk C_Stands hr (by omega) rfl (pa_cons (pe_fld (pv 0) rfl) (pa_cons (pe_ix ix_tup (pv 4) pe_int (fun _ _ => rfl)) (pa_cons (pe_ix ix_tup (pv 4) pe_int (fun _ _ => rfl)) pa_nil)))))
  (pss_cons (ps_if (pt_not (pt_val (pe_mtx M_shown (takes_of rfl rfl rfl rfl) hr (by omega) (pv 5) (pa_cons (pv 1) (pa_cons (pv 2) (pa_cons (pv 3) (pa_cons (pe_ix ix_tup (pv 4) pe_int (fun _ _ => rfl)) pa_nil))))))) (pss_one (ps_ret pe_bl)) pss_nil)
  (pss_cons (ps_set (i := 6) sc_Behind_shown.nd rfl (Or.inl rfl) (pe_cx C_climbed (takes_of rfl rfl rfl rfl) hr (by omega) rfl (pa_cons (pv 1) (pa_cons (pe_fld (pv 0) rfl) (pa_cons (pe_fld (pv 0) rfl) (pa_cons (pe_ix ix_tup (pv 4) pe_int (fun _ _ => rfl)) pa_nil))))))
  (pss_one (ps_ret (pe_and (pe_cmpR (op_eqD hr.units) (pe_c C_table_seal hr (by omega) rfl (pa_cons (pv 1) (pa_cons (pe_fld (pv 0) rfl) (pa_cons (pv 6) pa_nil)))) (pe_ix ix_tup (pv 4) pe_int (fun _ _ => rfl)) (nomark _)) (pe_one (pe_mt M_ends hr (by omega) (pv 0) (pa_cons (pe_ix ix_tup (pe_ix ix_tup (pv 4) pe_int (fun _ _ => rfl)) pe_int (fun _ _ => rfl)) pa_nil))))))))))), ?_⟩
  cases paper with
  | none =>
    have q1 : Q (.bl false) H := q1 H (Ext.refl H) (G.less hok (by omega))
    obtain ⟨b, _⟩ := hpap
    rcases b with b | ⟨q, ys, rfl, hq, b⟩
    · obtain ⟨t, hty, hkt⟩ := b H (Ext.refl H)
      exact ⟨_, rfl, v, .ty "tuple", _, _, false, rfl, .ty "tuple", hty, hkt, false, rfl, q1⟩
    · refine ⟨_, rfl, .ref q, .ty "tuple", _, _, true, rfl, .ty "tuple", .base (.tup hq), kit_ty (by decide +kernel), true, rfl, ?_⟩
      refine ⟨_, rfl, q, ys, rfl, .inr (SqT.of hq), rfl, _, rfl, ?_⟩
      rw [decide_eq_false (fun z => b (by have := V.int.inj z; omega))]
      exact q1
  | some pp =>
    obtain ⟨x, tt, path, way⟩ := pp
    obtain ⟨pq, tv, pv, wv, rfl, hpq, htx, htv, hws, htd, hpath, hway⟩ := hpap
    have qf : ∀ H', Ext H H' → S0.ok H' r → judgeB c n (.sl "book" (.int m) Y) (some (x, tt, path, way)) = false → Q (.bl false) H' := fun H' e ok z => by
      have := q1 H' e ok
      rw [z] at this
      exact this
    refine ⟨_, rfl, .ref pq, .ty "tuple", _, _, true, rfl, .ty "tuple", .base (.tup hpq), kit_ty (by decide +kernel), true, rfl, ?_⟩
    refine ⟨_, rfl, pq, _, rfl, .inr (SqT.of hpq), rfl, _, rfl, ?_⟩
    refine iteF ?_
    refine ⟨_, rfl, p, C, dx, _, _, rfl, hp, KB.c.cl, KB.c.n_depth, bhF_depth c, _, _, rfl, rfl, _, rfl, ?_⟩
    by_cases c1 : 1 ≤ c.depth
    · rw [decide_eq_true c1]
      refine iteT ?_
      refine ⟨_, _, rfl, rfl, _, rfl, ?_⟩
      by_cases c2 : c.depth ≤ 16
      · rw [decide_eq_true c2]
        obtain ⟨l, hl⟩ := Int.eq_ofNat_of_zero_le (show 0 ≤ c.depth by omega)
        have hl16 : l ≤ 16 := by omega
        have el : c.depth.toNat = l := by omega
        refine iteF ?_
        refine ⟨_, rfl, p, C, dx, _, _, rfl, hp, KB.c.cl, KB.c.n_key, bhF_key c, _, _, rfl, rfl, _, rfl, ?_⟩
        by_cases c3 : 0 ≤ c.key
        · rw [decide_eq_true c3]
          refine iteT ?_
          refine ⟨_, rfl, p, C, dx, _, _, rfl, hp, KB.c.cl, KB.c.n_depth, bhF_depth c, l, rfl, by rw [hl], by omega, ?_⟩
          refine ⟨_, _, rfl, rfl, _, rfl, ?_⟩
          by_cases c4 : c.key < 2 ^ l
          · rw [decide_eq_true c4]
            refine iteF ?_
            have jB : judgeB c n (.sl "book" (.int m) Y) (some (x, tt, path, way)) = (judgeS c.place (.sl "leaf" (.str x) tt) n (.sl "book" (.int m) Y) path && judgeW c tt way) := by
              show (decide _ && (decide _ && _)) = _
              rw [decide_eq_true ⟨c1, c2⟩, decide_eq_true (show 0 ≤ c.key ∧ c.key < 2 ^ c.depth.toNat by rw [el]; exact ⟨c3, c4⟩), Bool.true_and, Bool.true_and]
            rw [jB] at q1 q2 qf
            refine ⟨_, rfl, p, C, dx, _, _, rfl, hp, KB.c.cl, KB.c.n_place, bhF_place c, _, rfl, pq, _, 0, _, rfl, rfl, SqT.of hpq, rfl, _, rfl, pq, _, 1, _, rfl, rfl, SqT.of hpq, rfl, fun sp sdx nsp nsdx snex => ?_⟩
            have y1 : Ext H (upd (upd H sdx (.own sp)) sp (.ins CS sdx [])) := (Ext.new nsdx).trans (Ext.new (by rw [upd_ne snex.symm]; exact nsp))
            have ky1 : Kp H (upd (upd H sdx (.own sp)) sp (.ins CS sdx [])) := (Kp.new nsdx).trans (Kp.new (show upd H sdx (.own sp) sp = none by rw [upd_ne snex.symm]; exact nsp))
            refine ⟨sp, sdx, c.place, x, tv, rfl, upd_same, fun H1 xo kp hg => ⟨rfl, ?_⟩⟩
            have x1 := xo.ext y1 nsp
            have ok1 := G.keep (ky1.trans kp) hok
            have hpq1 := x1.tup hpq
            refine ⟨_, rfl, sp, sdx, _, rfl, hg, (stF_no _ _ _).2, _, rfl, _, rfl, _, rfl, _, rfl, pq, _, 2, _, rfl, rfl, SqT.of hpq1, rfl, S0, sp, sdx, c.place, x, tv, tt, n, m, Y, head, pv, path, r + 40, hF, rfl, hg, htx, G.mono x1.gr htv, hws, htd, hn, G.mono x1.gr hh, hY, hYd, hpath.1.ext G x1, ok1, fun H2 x2 ok2 => ⟨_, rfl, ?_⟩, fun hj D H' hD e ok => q2 (by rw [hj, Bool.false_and]) D H' hD (x1.trans e) (G.less ok (by omega))⟩
            have x12 := x1.trans x2
            cases hj : judgeS c.place (.sl "leaf" (.str x) tt) n (.sl "book" (.int m) Y) path with
            | false =>
              refine iteT ?_
              exact qf H2 x12 (G.less ok2 (by omega)) (by rw [hj, Bool.false_and])
            | true =>
              rw [hj, Bool.true_and] at q1 q2
              refine iteF ?_
              have hp2 := x12.ins hp
              have hpq2 := x12.tup hpq
              refine ⟨_, rfl, _, rfl, p, C, dx, _, _, rfl, hp2, KB.c.cl, KB.c.n_key, bhF_key c, _, rfl, p, C, dx, _, _, rfl, hp2, KB.c.cl, KB.c.n_depth, bhF_depth c, _, rfl, pq, _, 3, _, rfl, rfl, SqT.of hpq2, rfl, S0, c.key, l, wv, way, r + 5, hF, by rw [hl], c3, by omega, hway.ext G x12, G.less ok2 (by omega), fun t ht u H3 x3 ok3 d3 => ?_, fun hno D hD => q2 ?_ D H2 hD x12 (G.less ok2 (by omega))⟩
              · have x13 := x12.trans x3
                have hp3 := x13.ins hp
                have hpq3 := x13.tup hpq
                obtain ⟨os, rr, rfl, hol, rfl⟩ := climbO_some ht
                obtain ⟨wq, o, ev, ys, rfl, hwq, ho, hd, hos, hosl, hev⟩ := hway
                refine ⟨_, rfl, _, rfl, p, C, dx, _, _, rfl, hp3, KB.c.cl, KB.c.n_depth, bhF_depth c, _, rfl, S0, _, u, .int c.depth, _, r + 4, hF, rfl, ok3, G.int _ ok3, d3, fun vt H4 x4 ok4 d4 => ?_⟩
                have x14 := x13.trans x4
                have hpq4 := x14.tup hpq
                have hp4 := x14.ins hp
                have hwq4 := x14.tup hwq
                have htv4 := G.mono x14.gr htv
                have cw : WS (climbT c.key l os (endT rr)) := climb_ws l os _ (endT_ws rr) fun t ht => (hos t ht).1
                have cdp := climb_dep (k := c.key) (d := 20) l os (endT rr) (Nat.le_trans (endT_dep rr) (by decide)) fun t ht => (hos t ht).2
                obtain ⟨d, d', e1, e2, e3, e4, e5, e6, e7⟩ := (I3 hF).inj ok4 d4 htv4 ((WS.tab c.depth cw).cmp hws)
                have dd1 : (Tm.sl "table" (.int c.depth) (climbT c.key l os (endT rr))).dep ≤ 41 := by show max 0 _ + 1 ≤ 41; omega
                refine ⟨_, rfl, pq, _, 1, _, rfl, rfl, SqT.of hpq4, rfl, d, d', e1, e2, shaped_of e3 (by omega), shaped_of e4 (by omega), ?_⟩
                rw [e7]
                have jW : judgeW c tt (some (os, some rr)) = (decide (Tm.sl "table" (.int c.depth) (climbT c.key l os (endT rr)) = tt) && endsB c rr) := by
                  show (decide (os.length ≤ c.depth.toNat) && (decide (Tm.sl "table" (.int c.depth) (climbT c.key c.depth.toNat os (endT rr)) = tt) && endsB c rr)) = _
                  rw [el, decide_eq_true hol, Bool.true_and]
                rw [jW] at q1
                have q1 := q1 H4 x14 (G.less ok4 (by omega))
                cases he : decide (Tm.sl "table" (.int c.depth) (climbT c.key l os (endT rr)) = tt) with
                | false =>
                  rw [he, Bool.false_and] at q1
                  refine ⟨_, rfl, iteF ?_⟩
                  exact q1
                | true =>
                  rw [he, Bool.true_and] at q1
                  refine ⟨_, rfl, iteT ?_⟩
                  exact ⟨_, rfl, p, dx, _, rfl, hp4, (bhF_no c).2.2, _, rfl, pq, _, 3, _, rfl, rfl, SqT.of hpq4, rfl, wq, _, 1, ev, rfl, rfl, SqT.of hwq4, rfl, p, dx, c, ev, rr, hs, rfl, hp4, EndAt.ext hev x14, q1⟩
              · exact climbO_none el hno
          · rw [decide_eq_false c4]
            refine iteT ?_
            refine qf H (Ext.refl H) (G.less hok (by omega)) ?_
            show (decide _ && (decide _ && _)) = _
            rw [decide_eq_false (show ¬ (0 ≤ c.key ∧ c.key < 2 ^ c.depth.toNat) by rw [el]; exact fun z => c4 z.2), Bool.false_and, Bool.and_false]
        · rw [decide_eq_false c3]
          refine ⟨_, rfl, iteT ?_⟩
          refine qf H (Ext.refl H) (G.less hok (by omega)) ?_
          show (decide _ && (decide _ && _)) = _
          rw [decide_eq_false (show ¬ (0 ≤ c.key ∧ c.key < 2 ^ c.depth.toNat) from fun z => c3 z.1), Bool.false_and, Bool.and_false]
      · rw [decide_eq_false c2]
        refine iteT ?_
        refine iteT ?_
        refine qf H (Ext.refl H) (G.less hok (by omega)) ?_
        show (decide _ && _) = _
        rw [decide_eq_false (fun z => c2 z.2), Bool.false_and]
    · rw [decide_eq_false c1]
      refine ⟨_, rfl, ?_⟩
      refine iteT ?_
      refine iteT ?_
      refine qf H (Ext.refl H) (G.less hok (by omega)) ?_
      show (decide _ && _) = _
      rw [decide_eq_false (fun z => c1 z.1), Bool.false_and]
end

section
variable {P : Program} {w : World} {K : PySem.W.Frag} {mg : Str → Option Value} {base : Heap} {Fam : Sys → Prop} {C CH CL CF : Addr}
def spJudgedB (K : PySem.W.Frag) (C : Addr) (isH : Bool) (Fam : Sys → Prop) : Sp := fun vs H Q _ => ∃ (S0 : Sys) (p dx : Addr) (c : BhCl) (n : Nat) (m : Int) (Y : Tm) (head v : V) (paper : PapM) (r : Nat), Fam S0 ∧ vs = [.ref p, .ref S0.f, .int (n : Int), head, v] ∧ H p = some (.ins C dx (bhF c)) ∧ c.said.isSome = isH ∧ n ≤ 1000 ∧
  S0.den H head (.sl "book" (.int m) Y) ∧ WS Y ∧ Y.dep ≤ 40 ∧ PapAt K S0 H v paper ∧ S0.ok H (r + 60) ∧
  (∀ H', Ext H H' → S0.ok H' r → Q (.bl (judgeB c n (.sl "book" (.int m) Y) paper)) H')
theorem ok_judgedB {cc CS : Addr} {isH : Bool} (T : Txt K mg cc) (A : SlA P w K mg base Fam) (I3 : ∀ {S}, Fam S → S.Inj K) (KS : K_Stands K mg CS) (KB : BhK K C) (M_ends : Met P w K mg base 1 C "ends" (spEnds C isH) []) : MetR P w K mg base 6 C "judged" (spJudgedB K C isH Fam) := by
  obtain ⟨C_BadPaper, g_BadPaper, F_BadPaper⟩ := T.x_BadPaper.ex
  have M_shown := ok_shownB T A I3 KS KB M_ends
  refine metR_of KB.c.cl KB.m_judged sc_Claim_judged (fun vs H Q E h => ?_) (fun f cdv A' outer s H vs Q E hr h => ?_)
  · obtain ⟨S0, p, dx, c, n, m, Y, head, v, paper, r, _, rfl, _⟩ := h
    rfl
  obtain ⟨S0, p, dx, c, n, m, Y, head, v, paper, r, hF, rfl, hp, hs, hn, hh, hY, hYd, hpap, hok, q⟩ := h
  refine ⟨_, (pss_one (ps_try_onlyE (pss_one (ps_ret (pv 5))) rfl rfl ⟨rfl, by decide, .inl g_BadPaper⟩ (takes_of rfl rfl rfl rfl) (fun W pn xe tk po => (pss_one (ps_set (i := 5) sc_Claim_judged.nd rfl (Or.inl rfl) (pe_mtx M_shown tk hr (by omega) (pv 0) (pa_cons (pv 1) (pa_cons (pv 2) (pa_cons (pv 3) (pa_cons (pv 4) pa_nil)))))))) (fun a oe cls d pn hz hf => (pss_when (P := cls = .ref C_BadPaper ∧ d = none) fun hsu => (pss_one (ps_ret pe_bl)))))), ?_⟩
  refine ⟨_, rfl, p, dx, _, rfl, hp, (bhF_no c).2.1, _, rfl, _, rfl, _, rfl, _, rfl, S0, p, dx, c, n, m, Y, head, v, paper, r, hF, rfl, hp, hs, hn, hh, hY, hYd, hpap, hok, fun H' e ok => ⟨_, rfl, q H' e ok⟩, fun hj D H' hD e ok => ?_⟩
  rw [g_BadPaper] at hD
  cases hD
  refine ⟨true, F_BadPaper.eP, fun _ p2 hp2 => ⟨⟨rfl, rfl⟩, ?_⟩, fun z => nomatch z⟩
  have := q H' e ok
  rw [hj] at this
  exact this
/-- the claims of a key, by their classes -/
def csB (K : PySem.W.Frag) (CH CL : Addr) (Fam : Sys → Prop) (C : Addr) (sp : Sp) : Prop := (C = CH ∧ sp = spJudgedB K CH true Fam) ∨ (C = CL ∧ sp = spJudgedB K CL false Fam)
theorem ok_csB {cc CS : Addr} (T : Txt K mg cc) (A : SlA P w K mg base Fam) (I3 : ∀ {S}, Fam S → S.Inj K) (KS : K_Stands K mg CS) (KH : K_Holds K mg CH) (KL : K_Lacks K mg CL) : ∀ C sp, csB K CH CL Fam C sp → MetR P w K mg base 6 C "judged" sp := by
  rintro C sp (⟨rfl, rfl⟩ | ⟨rfl, rfl⟩)
  · exact ok_judgedB T A I3 KS (bhk_holds KH) (ok_hends KH)
  · exact ok_judgedB T A I3 KS (bhk_lacks KL) (ok_lends KL)
/-- the class of a claim of a key -/
def clB (CH CL : Addr) (c : BhCl) : Addr := match c.said with
  | some _ => CH
  | none => CL
theorem csB_at (K : PySem.W.Frag) (CH CL : Addr) (Fam : Sys → Prop) (c : BhCl) : csB K CH CL Fam (clB CH CL c) (spJudgedB K (clB CH CL c) c.said.isSome Fam) := by
  obtain ⟨p, k, d, s⟩ := c
  cases s with
  | some x => exact .inl ⟨rfl, rfl⟩
  | none => exact .inr ⟨rfl, rfl⟩
def spFwJudgeB (K : PySem.W.Frag) (CF CH CL : Addr) (Fam : Sys → Prop) : Sp := fun vs H Q _ => ∃ (S0 : Sys) (p dx g gdx : Addr) (c : BhCl) (n : Nat) (hv : V) (m : Int) (Y : Tm) (v : V) (paper : PapM) (r : Nat), Fam S0 ∧ vs = [.ref p, .ref g, v] ∧ H p = some (.ins CF dx (fwF S0.f (n : Int) hv)) ∧
  H g = some (.ins (clB CH CL c) gdx (bhF c)) ∧ n ≤ 1000 ∧ S0.den H hv (.sl "book" (.int m) Y) ∧ WS Y ∧ Y.dep ≤ 40 ∧ PapAt K S0 H v paper ∧ S0.ok H (r + 60) ∧
  ∀ H', Ext H H' → S0.ok H' r → Q (.bl (judgeB c n (.sl "book" (.int m) Y) paper)) H'
theorem ok_fwjudgeB {cc CS : Addr} (T : Txt K mg cc) (A : SlA P w K mg base Fam) (I3 : ∀ {S}, Fam S → S.Inj K) (KF : K_Follower K mg CF) (KS : K_Stands K mg CS) (KH : K_Holds K mg CH) (KL : K_Lacks K mg CL) : Met P w K mg base 7 CF "judge" (spFwJudgeB K CF CH CL Fam) [] := by
  have M_judged := ok_csB T A I3 KS KH KL
  refine met_of KF.cl KF.m_judge sc_Follower_judge (fun vs H Q E h => ?_) (fun f cdv A' outer s H vs Q E hr h => ?_)
  · obtain ⟨S0, p, dx, g, gdx, c, n, hv, m, Y, v, paper, r, _, rfl, _⟩ := h
    rfl
  obtain ⟨S0, p, dx, g, gdx, c, n, hv, m, Y, v, paper, r, hF, rfl, hp, hg, hn, hhv, hY, hYd, hpap, hok, q⟩ := h
  refine ⟨_, (pss_one (ps_ret (pe_mta M_judged takes0 hr (by omega) (pv 1) (pa_cons (pe_fld (pv 0) rfl) (pa_cons (pe_fld (pv 0) rfl) (pa_cons (pe_fld (pv 0) rfl) (pa_cons (pv 2) pa_nil))))))), ?_⟩
  exact ⟨_, rfl, clB CH CL c, _, g, gdx, _, csB_at K CH CL Fam c, rfl, hg, (bhF_no c).1, _, rfl, p, CF, dx, _, _, rfl, hp, KF.cl, KF.n_seal, fwF_seal _ _ _, _, rfl, p, CF, dx, _, _, rfl, hp, KF.cl, KF.n_count, fwF_count _ _ _, _, rfl, p, CF, dx, _, _, rfl, hp, KF.cl, KF.n_newest, fwF_newest _ _ _, _, rfl, S0, g, gdx, c, n, m, Y, hv, v, paper, r, hF, rfl, hg, rfl, hn, hhv, hY, hYd, hpap, hok, q⟩
end

/-! ### a claim of a key is shown just where it holds, by the own paper alone -/
theorem way_end_mem (k : Int) (x : Str) : ∀ (l : Nat) (rows : List (Int × Str)), RowsOk l rows → ((k, x) ∈ rows ↔ (wayT l rows k).2 = [(k, x)])
  | l, rows, h => by
    by_cases c : rows.length ≤ 1
    · rw [wayT_few c]
      match rows, c with
      | [], _ => exact ⟨fun z => (nomatch z), fun z => (nomatch z)⟩
      | [e], _ =>
        exact ⟨fun z => by rw [List.mem_singleton.mp z], fun z => by
          have z : [e] = [(k, x)] := z
          rw [z]
          exact List.mem_singleton_self _⟩
    · match l, h with
      | 0, h => exact absurd h.zero c
      | l + 1, h =>
        rw [wayT_more (by omega)]
        have ih := way_end_mem k x l (rows.filter (bitK l (k / 2 ^ l % 2))) h.part
        rw [List.mem_filter] at ih
        exact ⟨fun z => ih.mp ⟨z, decide_eq_true rfl⟩, fun z => (ih.mpr z).1⟩
/-- what is asked of the key -/
def thereB (c : BhCl) (kv : List (Int × Str)) : Bool := match c.said with
  | none => (getI kv c.key).isNone
  | some x => decide (getI kv c.key = some x)
theorem getI_iff {l : Nat} {kv : List (Int × Str)} (h : TbOk l kv) (k : Int) (x : Str) : getI kv k = some x ↔ (k, x) ∈ srtI kv := by
  rw [(srt_perm kv).mem_iff]
  constructor
  · intro g
    have hk : k ∈ kv.map (·.1) := by
      apply Classical.byContradiction
      intro n
      rw [getI_none n] at g
      cases g
    obtain ⟨t, g1, g2⟩ := getI_mem hk
    rw [g] at g1
    rw [Option.some.inj g1]
    exact g2
  · intro g
    exact getI_of (e := (k, x)) h.nd g
theorem ends_there {l : Nat} {kv : List (Int × Str)} (h : TbOk l kv) (c : BhCl) : endsB c (wayT l (srtI kv) c.key).2 = thereB c kv := by
  have hr := rows_ok h (srt_perm kv)
  have he := wayT_end l (srtI kv) c.key hr
  have hm : ∀ x, getI kv c.key = some x ↔ (wayT l (srtI kv) c.key).2 = [(c.key, x)] := fun x => (getI_iff h c.key x).trans (way_end_mem c.key x l (srtI kv) hr)
  generalize (wayT l (srtI kv) c.key).2 = r at he hm
  obtain ⟨p, k, d, s⟩ := c
  have hm : ∀ x, getI kv k = some x ↔ r = [(k, x)] := hm
  match r, he.1 with
  | [], _ =>
    have g : getI kv k = none := by
      cases g : getI kv k with
      | none => rfl
      | some x => exact nomatch (hm x).mp g
    cases s with
    | none =>
      show true = (getI kv k).isNone
      rw [g]
      rfl
    | some x =>
      show false = decide (getI kv k = some x)
      rw [g]
      rfl
  | [e], _ =>
    by_cases ek : e.1 = k
    · have g : getI kv k = some e.2 := (hm e.2).mpr (by rw [← ek])
      cases s with
      | none =>
        show decide (e.1 ≠ k) = (getI kv k).isNone
        rw [g, decide_eq_false (fun z => z ek)]
        rfl
      | some x =>
        show (decide (e.1 = k) && decide (e.2 = x)) = decide (getI kv k = some x)
        rw [g, decide_eq_true ek, Bool.true_and]
        exact decide_eq_decide.mpr ⟨fun z => congrArg some z, fun z => Option.some.inj z⟩
    · have g : getI kv k = none := by
        cases g : getI kv k with
        | none => rfl
        | some x =>
          have := (hm x).mp g
          exact absurd (Prod.ext_iff.mp (List.cons.inj this).1).1 ek
      cases s with
      | none =>
        show decide (e.1 ≠ k) = (getI kv k).isNone
        rw [g, decide_eq_true ek]
        rfl
      | some x =>
        show (decide (e.1 = k) && decide (e.2 = x)) = decide (getI kv k = some x)
        rw [g, decide_eq_false ek]
        rfl
/-- the own paper -/
def ownPap (l : Nat) (es : List En) (size place : Nat) (k : Int) : PapM := match es[place]? with
  | none => none
  | some e => some (S e.1, headT l e.2, some (pathT ((es.map (leafT l)).take size) place), some ((wayT l (srtI e.2) k).1, some (wayT l (srtI e.2) k).2))
def PapOk : PapM → Prop
  | some (_, _, _, some (_, some rr)) => rr.length ≤ 1
  | _ => True
theorem PapAt.okm {K : PySem.W.Frag} {S0 : Sys} {H : Hp} {v : V} : ∀ {p : PapM}, PapAt K S0 H v p → PapOk p
  | none, _ => trivial
  | some (_, _, _, none), _ => trivial
  | some (_, _, _, some (_, none)), _ => trivial
  | some (_, _, _, some (_, some rr)), h => by
    obtain ⟨q, tv, pv, wv, _, _, _, _, _, _, _, hw⟩ := h
    obtain ⟨wq, o, ev, ys, _, _, _, _, _, _, he⟩ := hw
    show rr.length ≤ 1
    rcases he with ⟨g, _⟩ | ⟨x, qe, g, _⟩
    · rw [g]; exact Nat.zero_le _
    · rw [g]; exact Nat.le_refl _
theorem judge_law {l : Nat} {es : List En} (hes : ∀ e ∈ es, TbOk l e.2) {size held : Nat} (hsz : 0 < size ∧ size ≤ es.length) (hhd : held ≤ es.length) (hl : 1 ≤ l ∧ l ≤ 16) (c : BhCl) (paper : PapM) (hp : PapOk paper) :
    judgeB c size (.sl "book" (.int (held : Int)) (topT ((es.map (leafT l)).take held))) paper = true ↔ (held = size ∧ 0 ≤ c.place ∧ c.place < (size : Int) ∧ c.depth = (l : Int) ∧ 0 ≤ c.key ∧ c.key < 2 ^ l ∧ ∃ e, es[c.place.toNat]? = some e ∧ thereB c e.2 = true ∧ paper = ownPap l es size c.place.toNat c.key) := by
  have tl : ((es.map (leafT l)).take size).length = size := by rw [List.length_take, List.length_map]; omega
  have key : ∀ {pl : Nat}, pl < size → ∃ e, es[pl]? = some e ∧ ((es.map (leafT l)).take size).getD pl nonT = leafT l e := fun {pl} h => by
    have h2 : pl < es.length := by omega
    refine ⟨es[pl], List.getElem?_eq_getElem h2, ?_⟩
    rw [List.getD_eq_getElem?_getD, List.getElem?_take_of_lt h, List.getElem?_map, List.getElem?_eq_getElem h2]
    rfl
  constructor
  · intro j
    match paper, hp with
    | some (x, tt, some ps, some (os, some rr)), hp =>
      have hp : rr.length ≤ 1 := hp
      have j : (decide (1 ≤ c.depth ∧ c.depth ≤ 16) && (decide (0 ≤ c.key ∧ c.key < 2 ^ c.depth.toNat) && (judgeS c.place (.sl "leaf" (.str x) tt) size (.sl "book" (.int (held : Int)) (topT ((es.map (leafT l)).take held))) (some ps) && (decide (os.length ≤ c.depth.toNat) && (decide (Tm.sl "table" (.int c.depth) (climbT c.key c.depth.toNat os (endT rr)) = tt) && endsB c rr))))) = true := j
      rw [Bool.and_eq_true, Bool.and_eq_true, Bool.and_eq_true, Bool.and_eq_true, Bool.and_eq_true] at j
      obtain ⟨j1, j2, j3, j4, j5, j6⟩ := j
      have j1 := of_decide_eq_true j1
      have j2 := of_decide_eq_true j2
      obtain ⟨s1, s2, s3, s4⟩ := of_decide_eq_true j3
      have j4 := of_decide_eq_true j4
      have j5 := of_decide_eq_true j5
      have eh : held = size := by
        have := Tm.int.inj (Tm.sl.inj s4).2.1
        omega
      subst eh
      have hpl : c.place.toNat < held := by omega
      obtain ⟨e, he, hg⟩ := key hpl
      have r1 := (Tm.sl.inj s4).2.2
      have r2 := rise_inj (.sl "leaf" (.str x) tt) ((es.map (leafT l)).take held) c.place.toNat ps (by rw [tl]; exact hpl) (by rw [tl]; exact s3)
      rw [tl, hg] at r2
      obtain ⟨r3, r4⟩ := r2.mp r1
      have r5 := (Tm.sl.inj r3).2
      have ex : x = S e.1 := Tm.str.inj r5.1
      have et : tt = headT l e.2 := r5.2
      rw [et] at j5
      have d1 : c.depth = (l : Int) := Tm.int.inj (Tm.sl.inj j5).2.1
      have d2 := (Tm.sl.inj j5).2.2
      have dn : c.depth.toNat = l := by omega
      rw [dn] at j2 j4 d2
      have hee := hes e (List.mem_of_getElem? he)
      have w := (climb_inj c.key l os rr (srtI e.2) j4 hp (rows_ok hee (srt_perm _))).mp d2
      have w1 : os = (wayT l (srtI e.2) c.key).1 := (Prod.ext_iff.mp w).1
      have w2 : rr = (wayT l (srtI e.2) c.key).2 := (Prod.ext_iff.mp w).2
      refine ⟨rfl, s1, s2, d1, j2.1, j2.2, e, he, ?_, ?_⟩
      · rw [← ends_there hee, ← w2]
        exact j6
      · unfold ownPap
        rw [he, ex, et, r4, w1, w2]
    | none, _ => cases j
    | some (x, tt, none, w), _ =>
      have j : (_ && (_ && (false && _))) = true := j
      rw [Bool.false_and, Bool.and_false, Bool.and_false] at j
      cases j
    | some (x, tt, some ps, none), _ =>
      have j : (_ && (_ && (_ && false))) = true := j
      rw [Bool.and_false, Bool.and_false, Bool.and_false] at j
      cases j
    | some (x, tt, some ps, some (os, none)), _ =>
      have j : (_ && (_ && (_ && false))) = true := j
      rw [Bool.and_false, Bool.and_false, Bool.and_false] at j
      cases j
  · rintro ⟨rfl, s1, s2, d1, k1, k2, e, he, ht, rfl⟩
    have hpl : c.place.toNat < held := by omega
    obtain ⟨e', he', hg⟩ := key hpl
    rw [he] at he'
    cases he'
    have dn : c.depth.toNat = l := by omega
    have hee := hes e (List.mem_of_getElem? he)
    have hr := rows_ok hee (srt_perm e.2)
    unfold ownPap
    rw [he]
    show (decide (1 ≤ c.depth ∧ c.depth ≤ 16) && (decide (0 ≤ c.key ∧ c.key < 2 ^ c.depth.toNat) && (judgeS c.place (.sl "leaf" (.str (S e.1)) (headT l e.2)) held (.sl "book" (.int (held : Int)) (topT ((es.map (leafT l)).take held))) (some _) && (decide ((wayT l (srtI e.2) c.key).1.length ≤ c.depth.toNat) && (decide (Tm.sl "table" (.int c.depth) (climbT c.key c.depth.toNat (wayT l (srtI e.2) c.key).1 (endT (wayT l (srtI e.2) c.key).2)) = headT l e.2) && endsB c (wayT l (srtI e.2) c.key).2))))) = true
    have hwl := wayT_len l (srtI e.2) c.key
    have hwe := (wayT_end l (srtI e.2) c.key hr).1
    have w := (climb_inj c.key l _ _ (srtI e.2) hwl hwe hr).mpr rfl
    have r2 := rise_inj (leafT l e) ((es.map (leafT l)).take held) c.place.toNat (pathT ((es.map (leafT l)).take held) c.place.toNat) (by rw [tl]; exact hpl) (by rw [pathT_len])
    rw [tl, hg] at r2
    have r3 := r2.mpr ⟨rfl, rfl⟩
    rw [Bool.and_eq_true, Bool.and_eq_true, Bool.and_eq_true, Bool.and_eq_true, Bool.and_eq_true]
    refine ⟨decide_eq_true (by omega), decide_eq_true ?_, decide_eq_true ⟨s1, s2, ?_, ?_⟩, decide_eq_true ?_, decide_eq_true ?_, ?_⟩
    · rw [dn]; exact ⟨k1, k2⟩
    · rw [pathT_len, tl]
    · exact congrArg _ r3
    · rw [dn]; exact hwl
    · rw [dn, w, d1]
      rfl
    · rw [ends_there hee]
      exact ht

/-! ### papers told apart -/
set_option synthInstance.maxSize 2000 in
set_option synthInstance.maxHeartbeats 200000 in
instance decW : DecidableEq WayM := inferInstanceAs (DecidableEq (Option (List Tm × Option (List (Int × Str)))))
set_option synthInstance.maxSize 2000 in
set_option synthInstance.maxHeartbeats 200000 in
instance decP : DecidableEq PapM := inferInstanceAs (DecidableEq (Option (Str × (Tm × (Option (List Tm) × WayM)))))
theorem eqv_notL {d : PyData} (h : ∀ a, d ≠ .list a) (xs : List PyData) : PyData.eqv d (.list xs) = false := by
  cases d with
  | list a => exact absurd rfl (h a)
  | none => rw [PyData.eqv]
  | bool _ => rw [PyData.eqv]
  | int _ => rw [PyData.eqv]
  | str _ => rw [PyData.eqv]
  | tuple _ => rw [PyData.eqv]
  | dict _ => rw [PyData.eqv]
theorem eqv_notN {d : PyData} (h : d ≠ .none) : PyData.eqv d .none = false := by
  cases d with
  | none => exact absurd rfl h
  | list _ => rw [PyData.eqv]
  | bool _ => rw [PyData.eqv]
  | int _ => rw [PyData.eqv]
  | str _ => rw [PyData.eqv]
  | tuple _ => rw [PyData.eqv]
  | dict _ => rw [PyData.eqv]
theorem eqv_notT {d : PyData} {ys : List PyData} (h : ∀ a, d = .tuple a → PyData.eqvAll a ys = false) : PyData.eqv d (.tuple ys) = false := by
  cases d with
  | tuple a => rw [PyData.eqv]; exact h a rfl
  | none => rw [PyData.eqv]
  | list _ => rw [PyData.eqv]
  | bool _ => rw [PyData.eqv]
  | int _ => rw [PyData.eqv]
  | str _ => rw [PyData.eqv]
  | dict _ => rw [PyData.eqv]
theorem eqvAll_len : ∀ {a b : List PyData}, a.length ≠ b.length → PyData.eqvAll a b = false
  | [], [], h => absurd rfl h
  | [], _ :: _, _ => by rw [PyData.eqvAll]
  | _ :: _, [], _ => by rw [PyData.eqvAll]
  | x :: a, y :: b, h => by rw [PyData.eqvAll, eqvAll_len (fun e => h (by simp [e])), Bool.and_false]
theorem eqv_not2 {d : PyData} (h : ∀ a b, d ≠ .tuple [a, b]) (x y : PyData) : PyData.eqv d (.tuple [x, y]) = false :=
  eqv_notT fun a e => eqvAll_len fun z => by
    match a, z, e with
    | [p, q], _, e => exact h p q e
theorem eqv_not4 {d : PyData} (h : ∀ a b c e, d ≠ .tuple [a, b, c, e]) (x y z w : PyData) : PyData.eqv d (.tuple [x, y, z, w]) = false :=
  eqv_notT fun a e => eqvAll_len fun l => by
    match a, l, e with
    | [p, q, r, s], _, e => exact h p q r s e
theorem eqv_notW {d : PyData} (h : ∀ a b, d ≠ .tuple [.list a, b]) (xs : List PyData) (y : PyData) : PyData.eqv d (.tuple [.list xs, y]) = false :=
  eqv_notT fun a e => by
    by_cases c : a.length = 2
    · match a, c, e with
      | [p, q], _, e =>
        rw [PyData.eqvAll, eqv_notL (fun l z => h l q (by rw [e, z])) xs, Bool.false_and]
    · exact eqvAll_len c
section
variable {K : PySem.W.Frag} {S0 : Sys} {H : Hp}
/-- ends told apart -/
theorem end_apart {e e' : V} {m : EndM} {rr : List (Int × Str)} (h : EndAt K H e m) (h' : EndV H e' rr) : ∃ d d', Dp K H e d ∧ Dp K H e' d' ∧ d.canLay0 = true ∧ d'.canLay0 = true ∧ d.depth ≤ 50 ∧ d'.depth ≤ 50 ∧ PyData.eqv d d' = decide (m = some rr) := by
  have own : ∃ d', Dp K H e' d' ∧ d'.canLay0 = true ∧ d'.depth ≤ 50 ∧ ((rr = [] ∧ d' = .none) ∨ ∃ x, rr = [x] ∧ d' = .tuple [.int x.1, .str x.2]) := by
    rcases h' with ⟨rfl, rfl⟩ | ⟨x, qe, rfl, rfl, g, t⟩
    · exact ⟨.none, .non, rfl, Nat.zero_le _, .inl ⟨rfl, rfl⟩⟩
    · refine ⟨.tuple [.int x.1, .str x.2], .tup (SqT.of g) (.cons (.int _) (.cons (.str _) .nil)), ?_, by show max 0 (max 0 0) + 1 ≤ 50; decide, .inr ⟨x, rfl, rfl⟩⟩
      show (true && (txtOk x.2 && true)) = true
      rw [t]
      rfl
  obtain ⟨d', a1, a2, a3, a4⟩ := own
  cases m with
  | none =>
    obtain ⟨_, _, h3⟩ := h
    obtain ⟨d, b1, b2, b3, b4, b5⟩ := h3 H (Ext.refl H)
    refine ⟨d, d', b1, a1, b2, a2, b3, a3, ?_⟩
    rw [decide_eq_false (fun z => nomatch z)]
    rcases a4 with ⟨_, rfl⟩ | ⟨x, _, rfl⟩
    · exact eqv_notN b4
    · exact eqv_not2 b5 _ _
  | some qq =>
    rcases h with ⟨rfl, rfl⟩ | ⟨x, qe, rfl, rfl, g, t⟩
    · refine ⟨.none, d', .non, a1, rfl, a2, Nat.zero_le _, a3, ?_⟩
      rcases a4 with ⟨rfl, rfl⟩ | ⟨x, rfl, rfl⟩
      · rw [PyData.eqv]; exact (decide_eq_true rfl).symm
      · rw [PyData.eqv]; exact (decide_eq_false (fun z => nomatch z)).symm
    · have lay : (PyData.tuple [.int x.1, .str x.2]).canLay0 = true := by
        show (true && (txtOk x.2 && true)) = true
        rw [t]
        rfl
      refine ⟨.tuple [.int x.1, .str x.2], d', .tup (SqT.of g) (.cons (.int _) (.cons (.str _) .nil)), a1, lay, a2, by show max 0 (max 0 0) + 1 ≤ 50; decide, a3, ?_⟩
      rcases a4 with ⟨rfl, rfl⟩ | ⟨y, rfl, rfl⟩
      · rw [PyData.eqv]; exact (decide_eq_false (fun z => nomatch z)).symm
      · rw [PyData.eqv, PyData.eqvAll, PyData.eqvAll, PyData.eqvAll, eqv_int, eqv_str]
        obtain ⟨i, u⟩ := x
        obtain ⟨j, v⟩ := y
        by_cases h1 : i = j <;> by_cases h2 : u = v <;> simp [h1, h2]
theorem way_apart (I3 : S0.Inj K) {r : Nat} (ok : S0.ok H r) {v v' : V} {m : WayM} {os' : List Tm} {rr' : List (Int × Str)} (h : WayAt K S0 H v m) (h' : WayAt K S0 H v' (some (os', some rr'))) : ∃ d d', Dp K H v d ∧ Dp K H v' d' ∧ d.canLay0 = true ∧ d'.canLay0 = true ∧ d.depth ≤ 51 ∧ d'.depth ≤ 51 ∧ PyData.eqv d d' = decide (m = some (os', some rr')) := by
  obtain ⟨q', o', ev', ys', rfl, g1, g2, g3, g4, g5, g6⟩ := h'
  have c' : ∀ t ∈ os', cmpT t t := fun t ht => (g4 t ht).1.cmp (g4 t ht).1
  cases m with
  | none =>
    obtain ⟨_, h3⟩ := h
    obtain ⟨d, b1, b2, b3, b4⟩ := h3 H (Ext.refl H)
    obtain ⟨es1, es2, a1, a2, a3, a4, a5, a6, a7⟩ := DenL.apart (K := K) (n := 20) I3 ok g3 g3 (fun t ht u hu => (g4 t ht).1.cmp (g4 u hu).1) (fun t ht => (g4 t ht).2) (fun t ht => (g4 t ht).2) c' c'
    obtain ⟨de, de', f1, f2, f3, f4, f5, f6, f7⟩ := end_apart g6 g6
    refine ⟨d, .tuple [.list es1, de'], b1, .tup (SqT.of g1) (.cons (.lst (SqL.of g2) a1) (.cons f2 .nil)), b2, ?_, by omega, ?_, ?_⟩
    · show (PyData.canLayAll0 es1 && (de'.canLay0 && true)) = true
      rw [a3, f4]
      rfl
    · show max (PyData.depthAll es1 + 1) (max de'.depth 0) + 1 ≤ 51
      omega
    · rw [eqv_notW b4, decide_eq_false (fun z => nomatch z)]
  | some p =>
    obtain ⟨os, m⟩ := p
    obtain ⟨q, o, ev, ys, rfl, k1, k2, k3, k4, k5, k6⟩ := h
    have c1 : ∀ t ∈ os, cmpT t t := fun t ht => (k4 t ht).1.cmp (k4 t ht).1
    obtain ⟨es1, es2, a1, a2, a3, a4, a5, a6, a7⟩ := DenL.apart (K := K) (n := 20) I3 ok k3 g3 (fun t ht u hu => (k4 t ht).1.cmp (g4 u hu).1) (fun t ht => (k4 t ht).2) (fun t ht => (g4 t ht).2) c1 c'
    obtain ⟨de, de', f1, f2, f3, f4, f5, f6, f7⟩ := end_apart k6 g6
    refine ⟨.tuple [.list es1, de], .tuple [.list es2, de'], .tup (SqT.of k1) (.cons (.lst (SqL.of k2) a1) (.cons f1 .nil)), .tup (SqT.of g1) (.cons (.lst (SqL.of g2) a2) (.cons f2 .nil)), ?_, ?_, ?_, ?_, ?_⟩
    · show (PyData.canLayAll0 es1 && (de.canLay0 && true)) = true
      rw [a3, f3]
      rfl
    · show (PyData.canLayAll0 es2 && (de'.canLay0 && true)) = true
      rw [a4, f4]
      rfl
    · show max (PyData.depthAll es1 + 1) (max de.depth 0) + 1 ≤ 51
      omega
    · show max (PyData.depthAll es2 + 1) (max de'.depth 0) + 1 ≤ 51
      omega
    · rw [PyData.eqv, PyData.eqvAll, PyData.eqvAll, PyData.eqvAll, PyData.eqv, a7, f7]
      by_cases h1 : os = os' <;> by_cases h2 : m = some rr' <;> simp [h1, h2]
theorem path_apart (I3 : S0.Inj K) {r : Nat} (ok : S0.ok H r) {v v' : V} {m : Option (List Tm)} {ps' : List Tm} (h : PathAt K S0 H v m) (h' : PathAt K S0 H v' (some ps')) : ∃ d d', Dp K H v d ∧ Dp K H v' d' ∧ d.canLay0 = true ∧ d'.canLay0 = true ∧ d.depth ≤ 51 ∧ d'.depth ≤ 51 ∧ PyData.eqv d d' = decide (m = some ps') := by
  obtain ⟨⟨a', ys', rfl, g1, g2, _, g4⟩, _⟩ := h'
  have c' : ∀ t ∈ ps', cmpT t t := fun t ht => (g4 t ht).1.cmp (g4 t ht).1
  have d' : ∀ t ∈ ps', t.dep ≤ 28 := fun t ht => (g4 t ht).2
  cases m with
  | none =>
    obtain ⟨d, b1, b2, b3, b4⟩ := h.2 rfl H (Ext.refl H)
    obtain ⟨es1, es2, a1, a2, a3, a4, a5, a6, a7⟩ := DenL.apart (K := K) (n := 28) I3 ok g2 g2 (fun t ht u hu => (g4 t ht).1.cmp (g4 u hu).1) d' d' c' c'
    refine ⟨d, .list es1, b1, .lst (SqL.of g1) a1, b2, a3, by omega, by show PyData.depthAll es1 + 1 ≤ 51; omega, ?_⟩
    rw [eqv_notL b4, decide_eq_false (fun z => nomatch z)]
  | some ps =>
    obtain ⟨⟨a, ys, rfl, k1, k2, _, k4⟩, _⟩ := h
    obtain ⟨es1, es2, a1, a2, a3, a4, a5, a6, a7⟩ := DenL.apart (K := K) (n := 28) I3 ok k2 g2 (fun t ht u hu => (k4 t ht).1.cmp (g4 u hu).1) (fun t ht => (k4 t ht).2) d' (fun t ht => (k4 t ht).1.cmp (k4 t ht).1) c'
    refine ⟨.list es1, .list es2, .lst (SqL.of k1) a1, .lst (SqL.of g1) a2, a3, a4, by show PyData.depthAll es1 + 1 ≤ 51; omega, by show PyData.depthAll es2 + 1 ≤ 51; omega, ?_⟩
    rw [PyData.eqv, a7]
    exact decide_eq_decide.mpr ⟨fun z => congrArg some z, fun z => Option.some.inj z⟩
/-- any paper and one that is whole -/
theorem pap_apart (I3 : S0.Inj K) {r : Nat} (ok : S0.ok H r) {v v' : V} {p : PapM} {x' : Str} {tt' : Tm} {ps' os' : List Tm} {rr' : List (Int × Str)} (h : PapAt K S0 H v p) (h' : PapAt K S0 H v' (some (x', tt', some ps', some (os', some rr')))) :
    ∃ d d', Dp K H v d ∧ Dp K H v' d' ∧ SeqAt.shaped d = true ∧ SeqAt.shaped d' = true ∧ PyData.eqv d d' = decide (p = some (x', tt', some ps', some (os', some rr'))) := by
  obtain ⟨q', tv', pv', wv', rfl, g1, g2, g3, g4, g5, g6, g7⟩ := h'
  have txt : ∀ {x : Str}, txtOk x = true → (PyData.str x).canLay0 = true := fun h => h
  cases p with
  | none =>
    obtain ⟨d, b1, b2, b3, b4⟩ := h.2 H (Ext.refl H)
    obtain ⟨dt, dt', t1, t2, t3, t4, t5, t6, t7⟩ := I3.inj ok g3 g3 (g4.cmp g4)
    obtain ⟨dp, dp', p1, p2, p3, p4, p5, p6, p7⟩ := path_apart I3 ok g6 g6
    obtain ⟨dw, dw', w1, w2, w3, w4, w5, w6, w7⟩ := way_apart I3 ok g7 g7
    have lay : (PyData.tuple [.str x', dt, dp, dw]).canLay0 = true := by
      show ((PyData.str x').canLay0 && (dt.canLay0 && (dp.canLay0 && (dw.canLay0 && true)))) = true
      rw [txt g2, t3, p3, w3]
      rfl
    refine ⟨d, .tuple [.str x', dt, dp, dw], b1, .tup (SqT.of g1) (.cons (.str _) (.cons t1 (.cons p1 (.cons w1 .nil)))), shaped_of b2 (by omega), shaped_of lay ?_, ?_⟩
    · show max 0 (max dt.depth (max dp.depth (max dw.depth 0))) + 1 ≤ 64
      omega
    · rw [eqv_not4 b4, decide_eq_false (fun z => nomatch z)]
  | some pp =>
    obtain ⟨x, tt, path, way⟩ := pp
    obtain ⟨q, tv, pv, wv, rfl, k1, k2, k3, k4, k5, k6, k7⟩ := h
    obtain ⟨dt, dt', t1, t2, t3, t4, t5, t6, t7⟩ := I3.inj ok k3 g3 (k4.cmp g4)
    obtain ⟨dp, dp', p1, p2, p3, p4, p5, p6, p7⟩ := path_apart I3 ok k6 g6
    obtain ⟨dw, dw', w1, w2, w3, w4, w5, w6, w7⟩ := way_apart I3 ok k7 g7
    have lay : (PyData.tuple [.str x, dt, dp, dw]).canLay0 = true := by
      show ((PyData.str x).canLay0 && (dt.canLay0 && (dp.canLay0 && (dw.canLay0 && true)))) = true
      rw [txt k2, t3, p3, w3]
      rfl
    have lay' : (PyData.tuple [.str x', dt', dp', dw']).canLay0 = true := by
      show ((PyData.str x').canLay0 && (dt'.canLay0 && (dp'.canLay0 && (dw'.canLay0 && true)))) = true
      rw [txt g2, t4, p4, w4]
      rfl
    refine ⟨.tuple [.str x, dt, dp, dw], .tuple [.str x', dt', dp', dw'], .tup (SqT.of k1) (.cons (.str _) (.cons t1 (.cons p1 (.cons w1 .nil)))), .tup (SqT.of g1) (.cons (.str _) (.cons t2 (.cons p2 (.cons w2 .nil)))), shaped_of lay ?_, shaped_of lay' ?_, ?_⟩
    · show max 0 (max dt.depth (max dp.depth (max dw.depth 0))) + 1 ≤ 64
      omega
    · show max 0 (max dt'.depth (max dp'.depth (max dw'.depth 0))) + 1 ≤ 64
      omega
    · rw [PyData.eqv, PyData.eqvAll, PyData.eqvAll, PyData.eqvAll, PyData.eqvAll, PyData.eqvAll, eqv_str, t7, p7, w7]
      by_cases h1 : x = x' <;> by_cases h2 : tt = tt' <;> by_cases h3 : path = some ps' <;> by_cases h4 : way = some (os', some rr') <;> simp [h1, h2, h3, h4]
end

section
variable {P : Program} {w : World} {K : PySem.W.Frag} {mg : Str → Option Value} {base : Heap}
def onesL (t : List Nat) : List V := (t.map fun c => S [c]).map V.str
theorem onesL_len (t : List Nat) : (onesL t).length = t.length := by unfold onesL; rw [List.length_map, List.length_map]
theorem txt_S {t : List Nat} (h : PrL t) : txtOk (S t) = true := txt_of_tl fun c hc => by
  have := (h c hc).2
  omega
theorem dp_ones {K : PySem.W.Frag} {H : Hp} : ∀ t : List Nat, PrL t → ∃ ds, DpAll K H (onesL t) ds ∧ PyData.canLayAll0 ds = true ∧ PyData.depthAll ds = 0 ∧ PyData.eqv (.list ds) (.list []) = decide (t = [])
  | [], _ => ⟨[], .nil, rfl, rfl, rfl⟩
  | y :: ys, h => by
    obtain ⟨ds, a, b, c, _⟩ := dp_ones ys fun z hz => h z (List.mem_cons_of_mem _ hz)
    refine ⟨.str (S [y]) :: ds, .cons (.str _) a, ?_, ?_, rfl⟩
    · rw [PyData.canLayAll0, b, show (PyData.str (S [y])).canLay0 = true from txt_S fun c hc => by rw [List.mem_singleton.mp hc]; exact h y List.mem_cons_self]
      rfl
    · show max 0 (PyData.depthAll ds) = 0
      omega
theorem onesL_app (t u : List Nat) : onesL (t ++ u) = onesL t ++ onesL u := by unfold onesL; rw [List.map_append, List.map_append]
theorem onesL_sum (t : List Nat) : ((t.map fun c => S [c]).map fun x : Str => x.length).sum = t.length := by
  induction t with
  | nil => rfl
  | cons a t ih =>
    rw [List.map_cons, List.map_cons, List.sum_cons, ih, S_len]
    simp
    omega
theorem same_mut {H H' : Hp} {p : Addr} {o : HO} (e : Same H H') (h : H p = none) : Same H (upd H' p o) := fun a u ha => by
  rw [upd_ne (ne_of_none ha h)]
  exact e a u ha
def spWordS : Sp := fun vs H Q _ => ∃ (c : Int), vs = [.int c] ∧ ∀ (t : List Nat) (H' : Hp), PrL t → t.length ≤ 6 → Same H H' → Q (.str (S t)) H'
theorem ok_wordS {cc : Addr} (T : Txt K mg cc) : Cal P w K mg base 2 "_law_word" spWordS [] := by
  have Z := T.Z
  have C__law_draw := ok_draw (P := P) (w := w) (base := base) T
  refine cal_of T.d__law_word sc__law_word (fun vs H Q E h => ?_) (fun f cdv A' outer s H vs Q E hr h => ?_)
  · obtain ⟨c, rfl, _⟩ := h
    rfl
  obtain ⟨c, rfl, q⟩ := h
  have e16 : sizeLine = 16777216 := sizeLine_eq
  refine ⟨_, (pss_cons (ps_set (i := 1) sc__law_word.nd rfl (Or.inr rfl) pe_str)
  (pss_cons (ps_set (i := 2) sc__law_word.nd rfl (Or.inr rfl) (pe_callB call_len_str rfl Z.len PySem.boot_len (pa_cons (pv 1) pa_nil)))
  (pss_cons (ps_setLc (i := 3) (own := [("_law_k", 4)]) (g := gName 4) (tt := tYes) rfl sc__law_word.nd rfl rfl (sw_true rfl rfl rfl (by decide +kernel)) (pi_range1 rfl Z.range (pa_cons (pe_c C__law_draw hr (by omega) rfl (pa_cons (pv 0) (pa_cons pe_int (pa_cons pe_int pa_nil)))) pa_nil)) (blkOk_by (N := N__law_word) (sc := defScope s__law_word) (by decide +kernel)) (fun _ _ _ _ _ => (pg_name (i := 4) sc__law_word.nd rfl (Or.inl rfl))) (fun _ _ _ _ _ => pts_nil) (fun _ _ _ _ _ => (pe_ix ix_str (pv 1) (pe_c C__law_draw hr (by omega) rfl (pa_cons (pv 0) (pa_cons (pe_op op_add pe_int (pe_op op_mod (pv 4) pe_int)) (pa_cons (pv 2) pa_nil)))) (fun _ _ => rfl))))
  (Evl.pss_cut (ps_if (PW.pt (pw_and (pt_cmpR (op_neD hr.units) (pv 3) (pe_lst pa_nil) (nomark _)) (pw_and1 (pt_cmpR op_eq (pe_c C__law_draw hr (by omega) rfl (pa_cons (pv 0) (pa_cons pe_int (pa_cons pe_int pa_nil)))) pe_int (nomark _))))) (pss_cons (ps_setLc (i := 3) (own := [("_law_sign", 5)]) (g := gName 5) (tt := tYes) rfl sc__law_word.nd rfl rfl (sw_true rfl rfl rfl (by decide +kernel)) (pi_list (pv 3)) (blkOk_by (N := N__law_word) (sc := defScope s__law_word) (by decide +kernel)) (fun _ _ _ _ _ => (pg_name (i := 5) sc__law_word.nd rfl (Or.inl rfl))) (fun _ _ _ _ _ => pts_nil) (fun _ _ _ _ _ => pe_str))
  (pss_one (ps_asg (pe_ix ix_str (pv 1) (pe_c C__law_draw hr (by omega) rfl (pa_cons (pv 0) (pa_cons pe_int (pa_cons (pv 2) pa_nil)))) (fun _ _ => rfl)) (pg_sub (pv 3) (pe_c C__law_draw hr (by omega) rfl (pa_cons (pv 0) (pa_cons pe_int (pa_cons (pe_callB call_len_seq rfl Z.len PySem.boot_len (pa_cons (pv 3) pa_nil)) pa_nil)))) set_list)))) pss_nil)
  (pss_one (ps_ret (pe_join pe_str (pv 3)))))))), ?_⟩
  show tSeq _ _ _ _ _
  rw [someL_S]
  have eNo : Str.ofString "" = S [] := TL.ext_tl (by decide +kernel)
  have eA : Str.ofString "a" = S [97] := TL.ext_tl (by decide +kernel)
  have sl : (S someL).length = 94 := by rw [S_len]; exact someL_at.1
  refine ⟨_, rfl, _, rfl, by omega, ?_⟩
  refine ⟨_, rfl, c, 13, 6, rfl, by decide, by decide, by decide, fun z H1 z0 z1 s1 => ?_⟩
  refine ⟨z, rfl, by omega, by omega, fun D nD => ?_⟩
  refine lc_range (fun i H' => ∃ t : List Nat, t.length = i ∧ Same H1 H' ∧ H' D = some (.lst (onesL t)) ∧ PrL t) ⟨[], rfl, same_upd nD, upd_same, fun _ h => by cases h⟩ ?_ ?_
  · rintro i H' hi ⟨t, rfl, s2, hD, hy⟩
    refine ⟨rfl, _, rfl, _, rfl, _, rfl, _, 4, rfl, rfl, (by show (0 : Int) < 4; decide), _, _, rfl, rfl, _, rfl, c, _, _, rfl, ?_, ?_, by rw [sl]; decide, fun z' H2 z0' z1' s3 => ?_⟩
    · have := Int.emod_nonneg (0 + (t.length : Int)) (show (4 : Int) ≠ 0 by decide)
      omega
    · have := Int.emod_lt_of_pos (0 + (t.length : Int)) (show (0 : Int) < 4 by decide)
      omega
    rw [sl] at z1'
    obtain ⟨ch, hch, o1, o2⟩ := some_get z0' z1'
    refine ⟨S someL, z', ch, rfl, rfl, by omega, hch, onesL t, s3 _ _ hD, by rw [onesL_len]; omega, t ++ [ch], by simp, same_mut (s2.trans s3) nD, by rw [upd_same, onesL_app]; rfl, fun y hy' => ?_⟩
    rcases List.mem_append.mp hy' with h | h
    · exact hy y h
    · rw [List.mem_singleton.mp h]
      exact ⟨o1, o2⟩
  · rintro H2 ⟨t, htl, s2, hD, ht⟩
    have hy6 : t.length ≤ 6 := by omega
    refine ⟨fun σ H' => ∃ (D : Addr) (t : List Nat) (y4 y5 : Option V), σ = [some (.int c), some (.str (S someL)), some (.int ((S someL).length : Int)), some (.ref D), y4, y5] ∧ Same H H' ∧ H' D = some (.lst (onesL t)) ∧ t.length ≤ 6 ∧ PrL t, ?_, ?_⟩
    · refine ⟨_, rfl, by show 0 ≤ sizeLine; decide, fun p hp => ?_⟩
      have hD3 : upd H2 p (.lst []) D = some (.lst (onesL t)) := by rw [upd_ne (ne_of_none hD hp)]; exact hD
      have s3 := (s1.trans s2).trans (same_upd (o := .lst []) hp)
      obtain ⟨ds, d1, d2, d3, d4⟩ := dp_ones (K := K) (H := upd H2 p (.lst [])) t ht
      refine ⟨.list ds, .list [], .lst (SqL.of hD3) d1, .lst (SqL.of upd_same) .nil, shaped_of d2 (by show PyData.depthAll ds + 1 ≤ 64; omega), by decide +kernel, _, rfl, ?_⟩
      rw [d4]
      generalize upd H2 p (.lst []) = H3 at hD3 s3 ⊢
      by_cases e : t = []
      · rw [decide_eq_true e]
        exact ⟨D, t, _, _, rfl, s3, hD3, hy6, ht⟩
      · rw [decide_eq_false e]
        refine iteT ?_
        refine ⟨_, rfl, c, 14, 3, rfl, by decide, by decide, by decide, fun z3 H4 _ _ s4 => ?_⟩
        have hD4 := s4 _ _ hD3
        refine ⟨rfl, _, rfl, ite2 (fun _ => ?_) (fun _ => ⟨D, t, _, _, rfl, s3.trans s4, hD4, hy6, ht⟩)⟩
        refine ⟨_, rfl, D, rfl, ⟨_, SqL.of hD4⟩, fun D2 nD2 => ?_⟩
        rw [eA]
        refine lc_list (K := K) (a := D) (xs := onesL t) (fun i H' => Same H4 H' ∧ H' D2 = some (.lst (onesL (List.replicate i 97)))) ⟨same_upd nD2, upd_same⟩ (fun i H' _ ⟨s, _⟩ => SqL.of (s _ _ hD4)) ?_ ?_
        · rintro i y H' hi ⟨s5, hD5⟩
          have hlt := (List.getElem?_eq_some_iff.mp hi).1
          rw [onesL_len] at hlt
          refine ⟨rfl, _, hD5, by rw [onesL_len, List.length_replicate]; omega, same_mut s5 nD2, ?_⟩
          rw [upd_same, List.replicate_succ', onesL_app]
          rfl
        · rintro H5 ⟨s5, hD5⟩
          rw [onesL_len] at hD5
          refine ⟨_, rfl, _, rfl, _, rfl, c, 12, _, rfl, by decide, by decide, by rw [sl]; decide, fun z5 H6 z50 z51 s6 => ?_⟩
          rw [sl] at z51
          obtain ⟨ch, hch, o1, o2⟩ := some_get z50 z51
          refine ⟨S someL, z5, ch, rfl, rfl, by omega, hch, ?_⟩
          have hD6 := s6 _ _ hD5
          have ep : 0 < t.length := List.length_pos_iff.mpr e
          refine ⟨_, rfl, _, rfl, _, rfl, D2, _, rfl, .inl (SqL.of hD6), c, 15, _, rfl, by decide, by decide, ?_, fun z6 H7 z60 z61 s7 => ?_⟩
          · rw [onesL_len, List.length_replicate]
            omega
          rw [onesL_len, List.length_replicate] at z61
          have hD7 := s7 _ _ hD6
          obtain ⟨j, rfl⟩ := Int.eq_ofNat_of_zero_le z60
          refine ⟨D2, _, _, j, rfl, rfl, hD7, ?_, ?_⟩
          · exact Evl.ixN_nat (by rw [onesL_len, List.length_replicate]; omega)
          refine ⟨D2, (List.replicate t.length 97).set j ch, _, _, rfl, ?_, ?_, ?_, ?_⟩
          · exact same_mut (((s3.trans s4).trans (s5.trans s6)).trans s7) (Same.free (s3.trans s4) nD2)
          · rw [upd_same]
            unfold onesL
            rw [List.map_set, List.map_set]
          · rw [List.length_set, List.length_replicate]
            omega
          · intro y hy'
            rcases List.mem_or_eq_of_mem_set hy' with h | h
            · rw [List.eq_of_mem_replicate h]
              decide
            · rw [h]
              exact ⟨o1, o2⟩
    rintro σ H3 ⟨D, t, y4, y5, rfl, s3, hD3, hyl3, hy3⟩
    refine ⟨⟨_, rfl⟩, _, rfl, _, D, t.map fun c => S [c], rfl, rfl, .inl (SqL.of hD3), ?_, ?_⟩
    · rw [onesL_sum, List.length_map, eNo, S_len]
      simp
      omega
    · rw [eNo, join_ones]
      exact q t H3 hy3 hyl3 s3
end

/-! ### a text some times -/
def repS (x : Str) (n : Int) : Str := if n < 1 then Str.empty else if (n == 1 || x.length == 0) = true then x else ⟨(List.replicate n.toNat x.cps).foldl (· ++ ·) #[]⟩
def rRepS : R2 := fun x y H Q => ∃ i k, x = .str i ∧ y = .int k ∧ 0 ≤ k ∧ k ≤ 100000 ∧ i.length ≤ 100 ∧ (repS i k).length ≤ sizeLine ∧ Q (.str (repS i k)) H
theorem op_mulS {X : Cx} : OpR X (binaryOp .Mult) rRepS := by
  intro pins s σ H x y v u Q I rx ry h
  obtain ⟨i, k, rfl, rfl, h0, h1, h2, h3, q⟩ := h
  obtain ⟨t, rfl⟩ := rx
  obtain ⟨t', rfl⟩ := ry
  refine PySem.P.mul_str ?_ (fun _ _ => ?_) (fun _ _ => ?_) ?_
  · have a1 : ¬ k < -(2 ^ 63 : Int) := by omega
    have a2 : ¬ k ≥ 2 ^ 63 := by omega
    rw [decide_eq_false a1, decide_eq_false a2]
    rfl
  · rename_i hk _
    have : (100 : Int) ≤ (2 ^ 63 - 1) / k := by
      refine (Int.le_ediv_iff_mul_le (by omega)).mpr ?_
      omega
    omega
  · have : i.length * k.toNat ≤ 100 * 100000 := Nat.mul_le_mul h2 (by omega)
    refine decide_eq_false ?_
    show ¬ i.length * k.toNat > sizeLine
    rw [sizeLine_eq]
    omega
  · unfold repS at q h3
    by_cases c1 : k < 1
    · rw [if_pos c1] at q h3 ⊢
      exact ⟨by decide, .str _, H, I.tok _, ⟨_, rfl⟩, q⟩
    · rw [if_neg c1] at q h3 ⊢
      by_cases c2 : (k == 1 || i.length == 0) = true
      · rw [if_pos c2] at q h3 ⊢
        exact ⟨.str _, H, I, ⟨_, rfl⟩, q⟩
      · rw [if_neg c2] at q h3 ⊢
        exact ⟨h3, .str _, H, I.tok _, ⟨_, rfl⟩, q⟩

/-! ### the rows as one text -/
theorem join_len : ∀ (ls : List (List Nat)), (∀ l ∈ ls, l.length ≤ 60) → (TL.joinL [10] ls).length ≤ ls.length * 61
  | [], _ => Nat.zero_le _
  | [l], h => by
    have := h l List.mem_cons_self
    show l.length ≤ 1 * 61
    omega
  | l :: m :: ls, h => by
    have h1 := h l List.mem_cons_self
    have h2 := join_len (m :: ls) fun x hx => h x (List.mem_cons_of_mem _ hx)
    show (l ++ ([10] ++ TL.joinL [10] (m :: ls))).length ≤ (ls.length + 1 + 1) * 61
    rw [List.length_append, List.length_append]
    have h2 : (TL.joinL [10] (m :: ls)).length ≤ (ls.length + 1) * 61 := h2
    show l.length + (1 + _) ≤ _
    omega
theorem join_asc : ∀ (ls : List (List Nat)), (∀ l ∈ ls, PrL l) → AscL (TL.joinL [10] ls)
  | [], _ => fun c hc => nomatch hc
  | [l], h => (h l List.mem_cons_self).asc
  | l :: m :: ls, h => by
    have h1 := (h l List.mem_cons_self).asc
    have h2 := join_asc (m :: ls) fun x hx => h x (List.mem_cons_of_mem _ hx)
    intro c hc
    have hc : c ∈ l ++ ([10] ++ TL.joinL [10] (m :: ls)) := hc
    rcases List.mem_append.mp hc with hc | hc
    · exact h1 c hc
    · rcases List.mem_append.mp hc with hc | hc
      · rw [List.mem_singleton.mp hc]; decide
      · exact h2 c hc
theorem sum60 : ∀ (ms : List (List Nat × Due)), (∀ m ∈ ms, m.1.length ≤ 60) → (ms.map fun m => m.1.length).sum ≤ ms.length * 60
  | [], _ => Nat.zero_le _
  | m :: ms, h => by
    have h1 := h m List.mem_cons_self
    have h2 := sum60 ms fun x hx => h x (List.mem_cons_of_mem _ hx)
    rw [List.map_cons, List.sum_cons, List.length_cons]
    omega

/-! ### rows made, and what is done by them -/
abbrev Rw := List Nat × Due
abbrev Dn := Nat × Int × Option (List Nat)
structure RwOk (d : Nat) (m : Rw) : Prop where
  pr : PrL m.1
  ln : m.1.length ≤ 60
  rd : readL m.1 d = dueR m.2
  ok : match m.2 with | .bad => False | .act (.put k t) => 0 ≤ k ∧ k < 2 ^ d ∧ PrL t ∧ t.length ≤ 6 | .act (.cut k) => 0 ≤ k ∧ k < 2 ^ d | .non => True
def dones : Nat → List Rw → List Dn
  | _, [] => []
  | i, m :: ms => match m.2 with
    | .act (.put k t) => (i, k, some t) :: dones (i + 1) ms
    | .act (.cut k) => (i, k, none) :: dones (i + 1) ms
    | _ => dones (i + 1) ms
def doneOf (i : Nat) (m : Rw) : List Dn := match m.2 with
  | .act (.put k t) => [(i, k, some t)]
  | .act (.cut k) => [(i, k, none)]
  | _ => []
theorem dones_cons (i : Nat) (m : Rw) (ms : List Rw) : dones i (m :: ms) = doneOf i m ++ dones (i + 1) ms := by
  rw [dones]
  unfold doneOf
  cases m.2 with
  | non => rfl
  | bad => rfl
  | act a => cases a <;> rfl
theorem dones_snoc : ∀ (ms : List Rw) (i : Nat) (m : Rw), dones i (ms ++ [m]) = dones i ms ++ doneOf (i + ms.length) m
  | [], i, m => by
    show dones i [m] = [] ++ _
    rw [dones_cons]
    show doneOf i m ++ [] = doneOf i m
    rw [List.append_nil]
  | x :: ms, i, m => by
    rw [List.cons_append, dones_cons, dones_cons, dones_snoc ms (i + 1) m, List.append_assoc, List.length_cons, show i + 1 + ms.length = i + (ms.length + 1) by omega]
theorem dones_len : ∀ (ms : List Rw) (i : Nat), (dones i ms).length ≤ ms.length
  | [], i => Nat.le_refl _
  | m :: ms, i => by
    have := dones_len ms (i + 1)
    rw [dones_cons, List.length_append, List.length_cons]
    have h : (doneOf i m).length ≤ 1 := by
      unfold doneOf
      cases m.2 with
      | non => exact Nat.zero_le _
      | bad => exact Nat.zero_le _
      | act a => cases a <;> exact Nat.le_refl _
    omega
def behD : List Dn → List (Int × Str) → Except Nat (List (Int × Str))
  | [], kv => .ok kv
  | (_, k, some t) :: r, kv => behD r (putI kv k (S t))
  | (i, k, none) :: r, kv => match getI kv k with
    | none => .error i
    | some _ => behD r (popI kv k)
theorem run_made {d : Nat} : ∀ (ms : List Rw) (i : Nat) (kv : List (Int × Str)), (∀ m ∈ ms, RwOk d m) → runL d i (ms.map (·.1)) kv = behD (dones i ms) kv
  | [], i, kv, _ => rfl
  | m :: ms, i, kv, h => by
    have h1 := h m List.mem_cons_self
    have ih := fun kv => run_made ms (i + 1) kv fun x hx => h x (List.mem_cons_of_mem _ hx)
    rw [List.map_cons, runL, h1.rd, dones]
    have ho := h1.ok
    cases e : m.2 with
    | non => exact ih kv
    | bad => rw [e] at ho; exact ho.elim
    | act a =>
      cases a with
      | put k t => exact ih _
      | cut k =>
        show (match getI kv k with | none => Except.error i | some _ => runL d (i + 1) (ms.map fun m : Rw => m.1) (popI kv k)) = (match getI kv k with | none => .error i | some _ => behD (dones (i + 1) ms) (popI kv k))
        cases getI kv k with
        | none => rfl
        | some v => exact ih _
theorem beh_ge : ∀ (ms : List Rw) (i : Nat) (kv : List (Int × Str)) (j : Nat), behD (dones i ms) kv = .error j → i ≤ j ∧ j < i + ms.length
  | [], i, kv, j, h => by cases h
  | m :: ms, i, kv, j, h => by
    rw [dones] at h
    have up : ∀ kv, behD (dones (i + 1) ms) kv = .error j → i ≤ j ∧ j < i + (m :: ms).length := fun kv h => by
      have := beh_ge ms (i + 1) kv j h
      rw [List.length_cons]
      omega
    cases e : m.2 with
    | non => rw [e] at h; exact up _ h
    | bad => rw [e] at h; exact up _ h
    | act a =>
      rw [e] at h
      cases a with
      | put k t => exact up _ h
      | cut k =>
        have h : (match getI kv k with | none => Except.error i | some _ => behD (dones (i + 1) ms) (popI kv k)) = .error j := h
        cases g : getI kv k with
        | none =>
          rw [g] at h
          cases h
          rw [List.length_cons]
          omega
        | some v => rw [g] at h; exact up _ h
/-- a row that cannot be read, set among them -/
def spoilR (a : Nat) : Except Nat (List (Int × Str)) → Nat
  | .ok _ => a
  | .error j => if a ≤ j then a else j
theorem run_spoilt {d : Nat} {bad : List Nat} (hb : readL bad d = none) : ∀ (ms : List Rw) (i a : Nat) (kv : List (Int × Str)), (∀ m ∈ ms, RwOk d m) → a ≤ ms.length → runL d i ((ms.map (·.1)).take a ++ bad :: (ms.map (·.1)).drop a) kv = .error (spoilR (i + a) (behD (dones i ms) kv))
  | ms, i, 0, kv, h, _ => by
    show runL d i (bad :: ms.map (·.1)) kv = _
    rw [runL, hb]
    show Except.error i = _
    congr 1
    cases e : behD (dones i ms) kv with
    | ok x => rfl
    | error j =>
      have := (beh_ge ms i kv j e).1
      show i = if i + 0 ≤ j then i + 0 else j
      rw [if_pos (by omega)]
      rfl
  | [], i, a + 1, kv, _, ha => absurd ha (by simp)
  | m :: ms, i, a + 1, kv, h, ha => by
    have h1 := h m List.mem_cons_self
    have ih := fun kv => run_spoilt hb ms (i + 1) a kv (fun x hx => h x (List.mem_cons_of_mem _ hx)) (by rw [List.length_cons] at ha; omega)
    rw [show i + 1 + a = i + (a + 1) by omega] at ih
    rw [List.map_cons, List.take_succ_cons, List.drop_succ_cons, List.cons_append, runL, h1.rd, dones]
    have ho := h1.ok
    cases e : m.2 with
    | non => exact ih kv
    | bad => rw [e] at ho; exact ho.elim
    | act x =>
      cases x with
      | put k t => exact ih _
      | cut k =>
        show (match getI kv k with | none => Except.error i | some _ => runL d (i + 1) _ (popI kv k)) = Except.error (spoilR (i + (a + 1)) (match getI kv k with | none => .error i | some _ => behD (dones (i + 1) ms) (popI kv k)))
        cases getI kv k with
        | none =>
          show Except.error i = Except.error (if i + (a + 1) ≤ i then i + (a + 1) else i)
          rw [if_neg (by omega)]
        | some v => exact ih _
/-- the rows of a text that was made (one, where none was) -/
def rowsM (ms : List Rw) : List Rw := if ms = [] then [([], .non)] else ms
theorem rowsM_ok {d : Nat} {ms : List Rw} (h : ∀ m ∈ ms, RwOk d m) : ∀ m ∈ rowsM ms, RwOk d m := by
  unfold rowsM
  by_cases c : ms = []
  · rw [if_pos c]
    intro m hm
    rw [List.mem_singleton.mp hm]
    exact ⟨pr_nil, by decide, by have := row_none 0 d; exact this, True.intro⟩
  · rw [if_neg c]
    exact h
theorem rowsM_dones (ms : List Rw) : dones 0 (rowsM ms) = dones 0 ms := by
  unfold rowsM
  by_cases c : ms = []
  · rw [if_pos c, c]
    rfl
  · rw [if_neg c]
theorem rowsM_pos (ms : List Rw) : 0 < (rowsM ms).length := by
  unfold rowsM
  by_cases c : ms = []
  · rw [if_pos c]
    decide
  · rw [if_neg c]
    exact List.length_pos_iff.mpr c
theorem rowsM_len {ms : List Rw} (h : ms.length ≤ 3) : (rowsM ms).length ≤ 3 := by
  unfold rowsM
  by_cases c : ms = []
  · rw [if_pos c]
    decide
  · rw [if_neg c]
    exact h
theorem rowsM_join (ms : List Rw) : TL.joinL [10] ((rowsM ms).map (·.1)) = TL.joinL [10] (ms.map (·.1)) := by
  unfold rowsM
  by_cases c : ms = []
  · rw [if_pos c, c]
    rfl
  · rw [if_neg c]
theorem spl_rowsL {ls : List (List Nat)} (h0 : ls ≠ []) (h : ∀ l ∈ ls, PrL l) : TL.spl [10] 0 [] (TL.joinL [10] ls) = ls :=
  SX.spl_join (c := 10) (sep := []) h0 fun p hp hc => by
    have := (h p hp 10 hc).1
    omega
theorem spl_rowsM {d : Nat} {ms : List Rw} (h : ∀ m ∈ ms, RwOk d m) : TL.spl [10] 0 [] (TL.joinL [10] (ms.map (·.1))) = (rowsM ms).map (·.1) := by
  rw [← rowsM_join]
  refine spl_rowsL ?_ fun l hl => ?_
  · have h1 := rowsM_pos ms
    intro z
    have h2 := congrArg List.length z
    rw [List.length_map, List.length_nil] at h2
    omega
  · obtain ⟨m, hm, rfl⟩ := List.mem_map.mp hl
    exact (rowsM_ok h m hm).pr
theorem run_rowsM {d : Nat} {ms : List Rw} (h : ∀ m ∈ ms, RwOk d m) (kv : List (Int × Str)) : runL d 0 (TL.spl [10] 0 [] (TL.joinL [10] (ms.map (·.1)))) kv = behD (dones 0 ms) kv := by
  rw [spl_rowsM h, run_made _ 0 kv (rowsM_ok h), rowsM_dones]
/-! ### what is done, as values -/
def doneV (e : Dn) : List V := [.int (e.1 : Int), .int e.2.1, match e.2.2 with | some t => .str (S t) | none => .non]
structure DoneL (H : Hp) (ys : List V) (ds : List Dn) : Prop where
  len : ys.length = ds.length
  at_ : ∀ (j : Nat) (v : V) (e : Dn), ys[j]? = some v → ds[j]? = some e → ∃ q, v = .ref q ∧ H q = some (.tup (doneV e))
theorem DoneL.gr {H H' : Hp} {ys : List V} {ds : List Dn} (h : DoneL H ys ds) (x : Gr H H') : DoneL H' ys ds := by
  refine ⟨h.len, fun j v e a b => ?_⟩
  obtain ⟨q, h1, h2⟩ := h.at_ j v e a b
  exact ⟨q, h1, x.keep _ _ h2 True.intro (fun _ z => nomatch z)⟩
theorem DoneL.nil {H : Hp} : DoneL H [] [] := ⟨rfl, fun j v e a _ => by simp at a⟩
theorem DoneL.snoc {H : Hp} {ys : List V} {ds : List Dn} {q : Addr} {e : Dn} (h : DoneL H ys ds) (hq : H q = some (.tup (doneV e))) : DoneL H (ys ++ [.ref q]) (ds ++ [e]) := by
  have hl := h.len
  refine ⟨by rw [List.length_append, List.length_append, hl]; rfl, fun i v t a b => ?_⟩
  by_cases c : i < ys.length
  · rw [List.getElem?_append_left c] at a
    rw [List.getElem?_append_left (by omega)] at b
    exact h.at_ i v t a b
  · rw [List.getElem?_append_right (by omega)] at a b
    rw [← hl] at b
    cases hj : i - ys.length with
    | zero =>
      rw [hj] at a b
      cases a
      cases b
      exact ⟨q, rfl, hq⟩
    | succ j =>
      rw [hj] at a
      simp at a

section
variable {P : Program} {w : World} {K : PySem.W.Frag} {mg : Str → Option Value} {base : Heap}
theorem slen_app (x y : Str) : (x ++ y).length = x.length + y.length := by
  show (x.cps ++ y.cps).size = x.cps.size + y.cps.size
  rw [Array.size_append]
theorem rep48 : ∀ n : Nat, n < 4 → repS (S [48]) (n : Int) = S (List.replicate n 48)
  | 0, _ => TL.ext_tl (by decide +kernel)
  | 1, _ => TL.ext_tl (by decide +kernel)
  | 2, _ => TL.ext_tl (by decide +kernel)
  | 3, _ => TL.ext_tl (by decide +kernel)
  | n + 4, h => absurd h (by omega)
theorem xor0 {k : Int} (h : 0 ≤ k) : Builtin.bitXor k 0 = k := by
  obtain ⟨n, rfl⟩ := Int.eq_ofNat_of_zero_le h
  rw [Bits.bitXor_pp h (by decide)]
  show (((n : Int).toNat ^^^ (0 : Int).toNat : Nat) : Int) = _
  rw [Int.toNat_natCast]
  show ((n ^^^ 0 : Nat) : Int) = _
  rw [Nat.xor_zero]
theorem xor01_in {l : Nat} {k z : Int} (h1 : 1 ≤ l) (h : 0 ≤ k ∧ k < 2 ^ l) (z0 : 0 ≤ z) (z1 : z < 2) : 0 ≤ Builtin.bitXor k z ∧ Builtin.bitXor k z < 2 ^ l := by
  have : z = 0 ∨ z = 1 := by omega
  rcases this with rfl | rfl
  · rw [xor0 h.1]
    exact h
  · exact xor1_in h1 h
def spLText : Sp := fun vs H Q _ => ∃ (c : Int) (d : Nat) (near : Addr) (ks : List Int), vs = [.int c, .int (d : Int), .ref near] ∧ H near = some (.lst (ks.map V.int)) ∧ 0 < ks.length ∧ ks.length ≤ 1000 ∧ InL d ks ∧ 1 ≤ d ∧ d ≤ 16 ∧
  ∀ (ms : List Rw) (q D : Addr) (ys : List V) (H' : Hp), ms.length ≤ 3 → (∀ m ∈ ms, RwOk d m) → Same H H' → H D = none → H' q = some (.tup [.str (S (TL.joinL [10] (ms.map (·.1)))), .ref D]) → H' D = some (.lst ys) → DoneL H' ys (dones 0 ms) → Q (.ref q) H'
theorem ok_ltext {cc : Addr} (T : Txt K mg cc) : Cal P w K mg base 3 "_law_text" spLText [] := by
  have Z := T.Z
  have C__law_draw := ok_draw (P := P) (w := w) (base := base) T
  have C__law_word := ok_wordS (P := P) (w := w) (base := base) T
  refine cal_of T.d__law_text sc__law_text (fun vs H Q E h => ?_) (fun f cdv A' outer s H vs Q E hr h => ?_)
  · obtain ⟨c, d, near, ks, rfl, _⟩ := h
    rfl
  obtain ⟨c, d, near, ks, rfl, hn, kp, kl, hin, d1, d16, q⟩ := h
  have e16 : sizeLine = 16777216 := sizeLine_eq
  refine ⟨_, (pss_cons (ps_set (i := 3) sc__law_text.nd rfl (Or.inl rfl) (pe_lst pa_nil))
  (pss_cons (ps_set (i := 4) sc__law_text.nd rfl (Or.inl rfl) (pe_lst pa_nil))
  (pss_cons (ps_for PassesOwn.never rfl (pi_range1 rfl Z.range (pa_cons (pe_c C__law_draw hr (by omega) rfl (pa_cons (pv 0) (pa_cons pe_int (pa_cons pe_int pa_nil)))) pa_nil)) (pg_name (i := 5) sc__law_text.nd rfl (Or.inl rfl)) (pss_cons (ps_set (i := 6) sc__law_text.nd rfl (Or.inl rfl) (pe_op op_add (pe_op op_mul (pv 0) (pe_op op_add (pe_op op_mul pe_int (pv 5)) pe_int)) (pe_op op_mul pe_int (pv 5))))
  (pss_cons (ps_set (i := 7) sc__law_text.nd rfl (Or.inl rfl) (pe_op op_xor (pe_ix ix_list (pv 2) (pe_c C__law_draw hr (by omega) rfl (pa_cons (pv 6) (pa_cons pe_int (pa_cons (pe_callB call_len_seq rfl Z.len PySem.boot_len (pa_cons (pv 2) pa_nil)) pa_nil)))) (fun _ _ => rfl)) (pe_c C__law_draw hr (by omega) rfl (pa_cons (pv 6) (pa_cons pe_int (pa_cons pe_int pa_nil))))))
  (pss_cons (ps_set (i := 8) sc__law_text.nd rfl (Or.inl rfl) (pe_c C__law_draw hr (by omega) rfl (pa_cons (pv 6) (pa_cons pe_int (pa_cons pe_int pa_nil)))))
  (pss_cons (ps_set (i := 9) sc__law_text.nd rfl (Or.inl rfl) (pe_c C__law_word hr (by omega) rfl (pa_cons (pv 6) pa_nil)))
  (pss_one (ps_if (pt_cmpR op_lt (pv 8) pe_int (nomark _)) (pss_cons (ps_expr (pe_bm PySem.F.plainAttrs_list PySem.F.slot_list_append PySem.F.type_list_append mt_append (pv 3) (pa_cons (pe_op op_add_str (pe_op op_add_str (pe_op op_add_str (pe_op op_add_str pe_str (pe_op op_mulS pe_str (pe_c C__law_draw hr (by omega) rfl (pa_cons (pv 6) (pa_cons pe_int (pa_cons pe_int pa_nil)))))) (pe_callTy call_str_int rfl Z.str (by decide +kernel) (pa_cons (pv 7) pa_nil))) pe_str) (pv 9)) pa_nil)))
  (pss_one (ps_expr (pe_bm PySem.F.plainAttrs_list PySem.F.slot_list_append PySem.F.type_list_append mt_append (pv 4) (pa_cons (pe_tup (pa_cons (pv 5) (pa_cons (pv 7) (pa_cons (pv 9) pa_nil)))) pa_nil))))) (pss_one (ps_if (pt_cmpR op_lt (pv 8) pe_int (nomark _)) (pss_cons (ps_expr (pe_bm PySem.F.plainAttrs_list PySem.F.slot_list_append PySem.F.type_list_append mt_append (pv 3) (pa_cons (pe_op op_add_str pe_str (pe_callTy call_str_int rfl Z.str (by decide +kernel) (pa_cons (pv 7) pa_nil))) pa_nil)))
  (pss_one (ps_expr (pe_bm PySem.F.plainAttrs_list PySem.F.slot_list_append PySem.F.type_list_append mt_append (pv 4) (pa_cons (pe_tup (pa_cons (pv 5) (pa_cons (pv 7) (pa_cons pe_non pa_nil)))) pa_nil))))) (pss_one (ps_expr (pe_bm PySem.F.plainAttrs_list PySem.F.slot_list_append PySem.F.type_list_append mt_append (pv 3) (pa_cons (pe_op op_add_str pe_str (pv 9)) pa_nil)))))))))))))
  (pss_one (ps_ret (pe_tup (pa_cons (pe_join pe_str (pv 3)) (pa_cons (pv 4) pa_nil)))))))), ?_⟩
  have lit0 : Str.ofString "\n" = S [10] := TL.ext_tl (by decide +kernel)
  have lit1 : Str.ofString " " = S [32] := TL.ext_tl (by decide +kernel)
  have lit2 : Str.ofString " cut " = S [32, 99, 117, 116, 32] := TL.ext_tl (by decide +kernel)
  have lit3 : Str.ofString "#" = S [35] := TL.ext_tl (by decide +kernel)
  have lit4 : Str.ofString "put " = S [112, 117, 116, 32] := TL.ext_tl (by decide +kernel)
  have lit5 : Str.ofString "0" = S [48] := TL.ext_tl (by decide +kernel)
  rw [lit0, lit1, lit2, lit3, lit4, lit5]
  have h2d : (0 : Int) < 2 ^ d := Int.pow_pos (by decide)
  have h2m : (2 : Nat) ^ d ≤ 65536 := Nat.pow_le_pow_right (by decide) d16
  have h2c : ((2 ^ d : Nat) : Int) = 2 ^ d := by rw [Int.natCast_pow]; rfl
  refine ⟨by show 0 ≤ sizeLine; decide, fun R nR => ?_⟩
  refine ⟨by show 0 ≤ sizeLine; decide, fun D nD => ?_⟩
  have nRH : H R = none := nR
  have s0 := (same_upd (o := .lst []) nR).trans (same_upd (o := .lst []) nD)
  have nDH := (same_upd (o := .lst []) nR).free nD
  have hD0 : upd (upd H R (.lst [])) D (.lst []) D = some (.lst []) := upd_same
  have nRD : R ≠ D := fun z => by rw [← z, upd_same] at nD; cases nD
  have hR0 : upd (upd H R (.lst [])) D (.lst []) R = some (.lst []) := by rw [upd_ne nRD]; exact upd_same
  generalize upd (upd H R (.lst [])) D (.lst []) = H0 at s0 hD0 hR0 ⊢
  refine ⟨_, rfl, _, _, _, rfl, by decide, by decide, by decide, fun z H1 z0 z1 s1 => ⟨z, rfl, by omega, by omega, ?_⟩⟩
  obtain ⟨N, rfl⟩ := Int.eq_ofNat_of_zero_le z0
  rw [Int.toNat_natCast]
  refine for_range (fun i σ H' => ∃ (y5 y6 y7 y8 y9 : Option V) (ms : List Rw) (ys : List V), σ = [some (.int c), some (.int (d : Int)), some (.ref near), some (.ref R), some (.ref D), y5, y6, y7, y8, y9] ∧ ms.length = i ∧ Same H H' ∧ H' R = some (.lst (((ms.map (·.1)).map S).map V.str)) ∧ H' D = some (.lst ys) ∧ DoneL H' ys (dones 0 ms) ∧ ∀ m ∈ ms, RwOk d m)
    ⟨none, none, none, none, none, [], [], rfl, rfl, s0.trans s1, s1 _ _ hR0, s1 _ _ hD0, .nil, fun m hm => nomatch hm⟩ ?_ ?_
  · rintro i σ H' hi ⟨y5, y6, y7, y8, y9, ms, ys, rfl, rfl, sH, hR, hD, hdn, hok⟩
    rw [Int.zero_add]
    have hn' := sH _ _ hn
    refine ⟨_, rfl, _, rfl, _, _, rfl, rfl, .inl ⟨by decide, by decide⟩, _, _, rfl, rfl, _, _, rfl, rfl, .inr ⟨by omega, by omega⟩, _, rfl, _, _, rfl, rfl, .inl ⟨by decide, by decide⟩, _, _, rfl, rfl, ?_⟩
    refine ⟨_, rfl, _, rfl, _, rfl, near, _, rfl, .inl (SqL.of hn'), _, _, _, rfl, by decide, by decide, by rw [List.length_map]; omega, fun z1 H2 z10 z11 s2 => ?_⟩
    rw [List.length_map] at z11
    obtain ⟨j, rfl⟩ := Int.eq_ofNat_of_zero_le z10
    have hj : j < ks.length := by omega
    have hkj : (ks.map V.int)[j]? = some (.int ks[j]) := by rw [List.getElem?_map, List.getElem?_eq_getElem hj]; rfl
    refine ⟨near, _, _, _, rfl, rfl, SqL.of (s2 _ _ hn'), atI_nat hkj, _, rfl, _, _, _, rfl, by decide, by decide, by decide, fun z2 H3 z20 z21 s3 => ⟨_, _, rfl, rfl, ?_⟩⟩
    obtain ⟨b1, b2⟩ := xor01_in d1 (hin _ (List.getElem_mem hj)) z20 z21
    obtain ⟨n, hxn⟩ := Int.eq_ofNat_of_zero_le b1
    show gName 7 (V.int (Builtin.bitXor ks[j] z2)) _ _ _
    rw [hxn]
    rw [hxn] at b2
    have hn2 : n < 2 ^ d := by omega
    have hn1 : n < 100000 := by omega
    refine ⟨_, rfl, _, _, _, rfl, by decide, by decide, by decide, fun z3 H4 _ _ s4 => ?_⟩
    refine ⟨_, rfl, _, rfl, fun t H5 pt lt s5 => ?_⟩
    have s5' := ((s2.trans s3).trans s4).trans s5
    have hnl : (TL.numL n).length ≤ 5 := TL.numL_len (by decide) (by omega)
    refine ⟨_, rfl, _, _, rfl, rfl, _, rfl, ite2 (fun _ => ?_) (fun _ => ?_)⟩
    · refine ⟨_, rfl, .inl ⟨rfl, _, SqL.of (s5' _ _ hR)⟩, _, rfl, _, _, _, rfl, by decide, by decide, by decide, fun z4 H6 z40 z41 s6 => ?_⟩
      obtain ⟨j4, rfl⟩ := Int.eq_ofNat_of_zero_le z40
      have hr4 := rep48 j4 (by omega)
      refine ⟨_, _, rfl, rfl, z40, by omega, by rw [S_len]; decide, by rw [hr4, S_len, List.length_replicate]; omega, ?_⟩
      rw [hr4]
      refine ⟨_, _, rfl, rfl, by simp only [slen_app, S_len, List.length_append, List.length_replicate, List.length_cons, List.length_nil]; omega, _, rfl, _, rfl, log_small (Int.natCast_nonneg _) (by omega), ?_⟩
      rw [SX.num_S]
      have hR6 := s6 _ _ (s5' _ _ hR)
      refine ⟨_, _, rfl, rfl, by simp only [slen_app, S_len, List.length_append, List.length_replicate, List.length_cons, List.length_nil]; omega, _, _, rfl, rfl, by simp only [slen_app, S_len, List.length_append, List.length_replicate, List.length_cons, List.length_nil]; omega, _, rfl, _, _, rfl, rfl, by simp only [slen_app, S_len, List.length_append, List.length_replicate, List.length_cons, List.length_nil]; omega, R, _, _, rfl, rfl, hR6, by rw [List.length_map, List.length_map, List.length_map]; omega, ?_⟩
      have eS : S [112, 117, 116, 32] ++ S (List.replicate j4 48) ++ S (TL.numL n) ++ S [32] ++ S t = S (List.replicate 0 32 ++ (putW ++ 32 :: ((List.replicate j4 48 ++ TL.numL n) ++ 32 :: t))) := by
        simp [S_cat, putW]
      rw [eS]
      have fk : Fig (List.replicate j4 48 ++ TL.numL n) n := fig_num hn1 (by omega)
      have hrow : RwOk d (List.replicate 0 32 ++ (putW ++ 32 :: ((List.replicate j4 48 ++ TL.numL n) ++ 32 :: t)), .act (.put n t)) := by
        refine ⟨?_, ?_, ?_, ⟨Int.natCast_nonneg _, b2, pt, lt⟩⟩
        · exact pr_app (pr_rep 0 (by decide)) (pr_app (fun c hc => by simp [putW] at hc; omega) (pr_cons (by decide) (pr_app fk.pr (pr_cons (by decide) pt))))
        · simp [putW]
          omega
        · have := row_put (m := 0) (d := d) (t := t) fk
          rw [if_pos hn2] at this
          exact this
      generalize List.replicate 0 32 ++ (putW ++ 32 :: ((List.replicate j4 48 ++ TL.numL n) ++ 32 :: t)) = row at hrow ⊢
      have hD6 := s6 _ _ (s5' _ _ hD)
      have s7 := same_mut (o := .lst ((((ms.map (·.1)).map S).map V.str) ++ [.str (S row)])) (sH.trans (s5'.trans s6)) nRH
      have hD7 : upd H6 R (.lst ((((ms.map (·.1)).map S).map V.str) ++ [.str (S row)])) D = some (.lst ys) := by rw [upd_ne nRD.symm]; exact hD6
      have hR7 : upd H6 R (.lst ((((ms.map (·.1)).map S).map V.str) ++ [.str (S row)])) R = some (.lst ((((ms.map (·.1)).map S).map V.str) ++ [.str (S row)])) := upd_same
      have hdn7 := (hdn.gr (kp_same (s5'.trans s6)).gr).gr (Kp.lst (o := .lst ((((ms.map (·.1)).map S).map V.str) ++ [.str (S row)])) hR6).gr
      generalize upd H6 R (.lst ((((ms.map (·.1)).map S).map V.str) ++ [.str (S row)])) = H7 at s7 hD7 hR7 hdn7 ⊢
      have hyl := hdn7.len
      have hdl := dones_len ms 0
      refine ⟨_, rfl, .inl ⟨rfl, _, SqL.of hD7⟩, _, rfl, _, rfl, _, rfl, by show 3 ≤ sizeLine; decide, fun tt ntt => ⟨D, ys, .ref tt, rfl, rfl, (same_upd ntt) _ _ hD7, by omega, ?_⟩⟩
      have hD8 := (same_upd (o := .tup [.int (ms.length : Int), .int (n : Int), .str (S t)]) ntt) _ _ hD7
      refine ⟨_, _, _, _, _, ms ++ [(row, .act (.put n t))], ys ++ [.ref tt], rfl, by rw [List.length_append]; rfl, same_mut (s7.trans (same_upd ntt)) nDH, ?_, upd_same, ?_, fun m hm => ?_⟩
      · rw [upd_ne nRD, (same_upd ntt) _ _ hR7, List.map_append, List.map_append, List.map_append]
        rfl
      · rw [dones_snoc, Nat.zero_add]
        exact ((hdn7.gr (Kp.new ntt).gr).gr (Kp.lst hD8).gr).snoc (e := (ms.length, (n : Int), some t)) ((Kp.lst hD8) _ _ upd_same True.intro)
      · rcases List.mem_append.mp hm with h | h
        · exact hok m h
        · rw [List.mem_singleton.mp h]
          exact hrow
    refine ⟨_, rfl, _, _, rfl, rfl, _, rfl, ite2 (fun _ => ?_) (fun _ => ?_)⟩
    · refine ⟨_, rfl, .inl ⟨rfl, _, SqL.of (s5' _ _ hR)⟩, _, rfl, _, rfl, log_small (Int.natCast_nonneg _) (by omega), ?_⟩
      rw [SX.num_S]
      have hR6 := s5' _ _ hR
      refine ⟨_, _, rfl, rfl, by simp only [slen_app, S_len, List.length_append, List.length_replicate, List.length_cons, List.length_nil]; omega, R, _, _, rfl, rfl, hR6, by rw [List.length_map, List.length_map, List.length_map]; omega, ?_⟩
      have eS : S [32, 99, 117, 116, 32] ++ S (TL.numL n) = S (List.replicate 1 32 ++ (cutW ++ 32 :: (TL.numL n ++ List.replicate 0 32))) := by
        simp [S_cat, cutW]
      rw [eS]
      have fk : Fig (TL.numL n) n := fig_num (z := 0) hn1 (by omega)
      have hrow : RwOk d (List.replicate 1 32 ++ (cutW ++ 32 :: (TL.numL n ++ List.replicate 0 32)), .act (.cut n)) := by
        refine ⟨?_, ?_, ?_, ⟨Int.natCast_nonneg _, b2⟩⟩
        · exact pr_app (pr_rep 1 (by decide)) (pr_app (fun c hc => by simp [cutW] at hc; omega) (pr_cons (by decide) (pr_app fk.pr (pr_rep 0 (by decide)))))
        · simp [cutW]
          omega
        · have := row_cut (m := 1) (j := 0) (d := d) fk
          rw [if_pos hn2] at this
          exact this
      generalize List.replicate 1 32 ++ (cutW ++ 32 :: (TL.numL n ++ List.replicate 0 32)) = row at hrow ⊢
      have hD6 := s5' _ _ hD
      have s7 := same_mut (o := .lst ((((ms.map (·.1)).map S).map V.str) ++ [.str (S row)])) (sH.trans s5') nRH
      have hD7 : upd H5 R (.lst ((((ms.map (·.1)).map S).map V.str) ++ [.str (S row)])) D = some (.lst ys) := by rw [upd_ne nRD.symm]; exact hD6
      have hR7 : upd H5 R (.lst ((((ms.map (·.1)).map S).map V.str) ++ [.str (S row)])) R = some (.lst ((((ms.map (·.1)).map S).map V.str) ++ [.str (S row)])) := upd_same
      have hdn7 := (hdn.gr (kp_same s5').gr).gr (Kp.lst (o := .lst ((((ms.map (·.1)).map S).map V.str) ++ [.str (S row)])) hR6).gr
      generalize upd H5 R (.lst ((((ms.map (·.1)).map S).map V.str) ++ [.str (S row)])) = H7 at s7 hD7 hR7 hdn7 ⊢
      have hyl := hdn7.len
      have hdl := dones_len ms 0
      refine ⟨_, rfl, .inl ⟨rfl, _, SqL.of hD7⟩, _, rfl, _, rfl, by show 3 ≤ sizeLine; decide, fun tt ntt => ⟨D, ys, .ref tt, rfl, rfl, (same_upd ntt) _ _ hD7, by omega, ?_⟩⟩
      have hD8 := (same_upd (o := .tup [.int (ms.length : Int), .int (n : Int), .non]) ntt) _ _ hD7
      refine ⟨_, _, _, _, _, ms ++ [(row, .act (.cut n))], ys ++ [.ref tt], rfl, by rw [List.length_append]; rfl, same_mut (s7.trans (same_upd ntt)) nDH, ?_, upd_same, ?_, fun m hm => ?_⟩
      · rw [upd_ne nRD, (same_upd ntt) _ _ hR7, List.map_append, List.map_append, List.map_append]
        rfl
      · rw [dones_snoc, Nat.zero_add]
        exact ((hdn7.gr (Kp.new ntt).gr).gr (Kp.lst hD8).gr).snoc (e := (ms.length, (n : Int), none)) ((Kp.lst hD8) _ _ upd_same True.intro)
      · rcases List.mem_append.mp hm with h | h
        · exact hok m h
        · rw [List.mem_singleton.mp h]
          exact hrow
    · have hR6 := s5' _ _ hR
      refine ⟨_, rfl, .inl ⟨rfl, _, SqL.of hR6⟩, _, rfl, _, _, rfl, rfl, by simp only [slen_app, S_len, List.length_append, List.length_replicate, List.length_cons, List.length_nil]; omega, R, _, _, rfl, rfl, hR6, by rw [List.length_map, List.length_map, List.length_map]; omega, ?_⟩
      have eS : S [35] ++ S t = S (List.replicate 0 32 ++ 35 :: t) := by
        simp [S_cat]
      rw [eS]
      have hrow : RwOk d (List.replicate 0 32 ++ 35 :: t, .non) := ⟨pr_app (pr_rep 0 (by decide)) (pr_cons (by decide) pt), by simp; omega, row_hash 0 d t, True.intro⟩
      generalize List.replicate 0 32 ++ 35 :: t = row at hrow ⊢
      have hD6 := s5' _ _ hD
      refine ⟨_, _, _, _, _, ms ++ [(row, .non)], ys, rfl, by rw [List.length_append]; rfl, same_mut (sH.trans s5') nRH, ?_, by rw [upd_ne nRD.symm]; exact hD6, ?_, fun m hm => ?_⟩
      · rw [upd_same, List.map_append, List.map_append, List.map_append]
        rfl
      · rw [dones_snoc]
        show DoneL _ ys (dones 0 ms ++ [])
        rw [List.append_nil]
        exact (hdn.gr (kp_same s5').gr).gr (Kp.lst hR6).gr
      · rcases List.mem_append.mp hm with h | h
        · exact hok m h
        · rw [List.mem_singleton.mp h]
          exact hrow
  · rintro σ H2 ⟨y5, y6, y7, y8, y9, ms, ys, rfl, hml, sH, hR, hD, hdn, hok⟩
    have hm3 : ms.length ≤ 3 := by omega
    refine ⟨⟨_, rfl⟩, _, rfl, _, R, (ms.map (·.1)).map S, rfl, rfl, .inl (SqL.of hR), ?_, ?_⟩
    · rw [SX.lens, S_len, List.length_map, List.length_map, List.map_map]
      refine Nat.le_trans (Nat.add_le_add_right (sum60 ms fun m hm => (hok m hm).ln) _) ?_
      show ms.length * 60 + ms.length * 1 ≤ _
      omega
    rw [SX.join_S]
    refine ⟨_, rfl, by show 2 ≤ sizeLine; decide, fun tt ntt => ?_⟩
    have s3 := same_upd (o := .tup [.str (S (TL.joinL [10] (ms.map (·.1)))), .ref D]) ntt
    exact q ms tt D ys _ hm3 hok (sH.trans s3) nDH upd_same (s3 _ _ hD) (hdn.gr (kp_same s3).gr)
end

/-! ### the law's book -/
structure EnL (S0 : Sys) (H : Hp) (l : Nat) (vs : List V) (es : List En) : Prop where
  len : vs.length = es.length
  at_ : ∀ (i : Nat) (v : V) (e : En), vs[i]? = some v → es[i]? = some e → ∃ (q dh : Addr) (hv : V), v = .ref q ∧ H q = some (.tup [.str (S e.1), .ref dh, hv]) ∧ H dh = some (.dK (convT e.2)) ∧ S0.den H hv (headT l e.2)
section
variable {P : Program} {w : World} {K : PySem.W.Frag} {mg : Str → Option Value} {base : Heap} {Fam : Sys → Prop}
theorem EnL.ext {S0 : Sys} {H H' : Hp} {l : Nat} {vs : List V} {es : List En} (G : S0.Good K) (h : EnL S0 H l vs es) (x : Ext H H') : EnL S0 H' l vs es := by
  refine ⟨h.len, fun i v e a b => ?_⟩
  obtain ⟨q, dh, hv, g1, g2, g3, g4⟩ := h.at_ i v e a b
  exact ⟨q, dh, hv, g1, x.tup g2, x.dK g3, G.mono x.gr g4⟩
theorem EnL.extM {M : List Addr} {S0 : Sys} {H H' : Hp} {l : Nat} {vs : List V} {es : List En} (G : S0.Good K) (h : EnL S0 H l vs es) (x : ExtM M H H') : EnL S0 H' l vs es := by
  refine ⟨h.len, fun i v e a b => ?_⟩
  obtain ⟨q, dh, hv, g1, g2, g3, g4⟩ := h.at_ i v e a b
  exact ⟨q, dh, hv, g1, x.tup g2, x.dK g3, G.mono x.gr g4⟩
theorem EnL.take {S0 : Sys} {H : Hp} {l : Nat} {vs : List V} {es : List En} (h : EnL S0 H l vs es) (n : Nat) : EnL S0 H l (vs.take n) (es.take n) := by
  refine ⟨by rw [List.length_take, List.length_take, h.len], fun i v e a b => ?_⟩
  rw [List.getElem?_take] at a b
  split at a
  · rename_i c
    rw [if_pos c] at b
    exact h.at_ i v e a b
  · cases a
theorem EnL.nil {S0 : Sys} {H : Hp} {l : Nat} : EnL S0 H l [] [] := ⟨rfl, fun i v e a _ => by simp at a⟩
def spBehind : Sp := fun vs H Q _ => ∃ (h D : Addr) (kv : List (Int × Str)) (ys : List V) (ds : List Dn), vs = [.ref h, .ref D] ∧ H h = some (.dK (convT kv)) ∧ kv.length ≤ 900 ∧ H D = some (.lst ys) ∧ DoneL H ys ds ∧ ds.length ≤ 50 ∧
  (∀ kv', behD ds kv = .ok kv' → ∀ e H', Ext H H' → Kp H H' → H e = none → H' e = some (.dK (convT kv')) → Q (.ref e) H') ∧
  (∀ i, behD ds kv = .error i → ∀ H', Ext H H' → Kp H H' → Q (.int (i : Int)) H')
theorem ok_behind {cc : Addr} (T : Txt K mg cc) : Cal P w K mg base 1 "_law_behind" spBehind [] := by
  have Z := T.Z
  refine cal_of T.d__law_behind sc__law_behind (fun vs H Q E h => ?_) (fun f cdv A' outer s H vs Q E hr h => ?_)
  · obtain ⟨h', D, kv, ys, ds, rfl, _⟩ := h
    rfl
  obtain ⟨h', D, kv, ys, ds, rfl, hh, hkl, hD, hds, hdl, q1, q2⟩ := h
  have hu := hu_of hr
  have e16 : sizeLine = 16777216 := sizeLine_eq
  refine ⟨_, (pss_cons (ps_set (i := 2) sc__law_behind.nd rfl (Or.inl rfl) (pe_callTy call_dictD rfl Z.dict (by decide +kernel) (pa_cons (pv 0) pa_nil)))
  (pss_cons (ps_for PassesOwn.never rfl (pi_list (pv 1)) (pg_name (i := 3) sc__law_behind.nd rfl (Or.inl rfl)) (pss_one (ps_if (pt_cmpR op_notN (pe_ix ix_tup (pv 3) pe_int (fun _ _ => rfl)) pe_non (nomark _)) (pss_one (ps_dput hu (pv 2) (pe_ix ix_tup (pv 3) pe_int (fun _ _ => rfl)) (pe_ix ix_tup (pv 3) pe_int (fun _ _ => rfl)) rfl)) (pss_one (ps_if (pt_cmp (pc_din hu (pe_ix ix_tup (pv 3) pe_int (fun _ _ => rfl)) (pv 2))) (pss_one (ps_expr (pe_dpop1 (pv 2) (pe_ix ix_tup (pv 3) pe_int (fun _ _ => rfl)) ⟨rfl, rfl, rfl, rfl⟩))) (pss_one (ps_ret (pe_ix ix_tup (pv 3) pe_int (fun _ _ => rfl)))))))))
  (pss_one (ps_ret (pv 2))))), ?_⟩
  refine ⟨_, rfl, h', _, rfl, .inl hh, fun e ne => ?_⟩
  have x0 := Ext.new (o := .dK (convT kv)) ne
  have k0 := Kp.new (o := .dK (convT kv)) ne
  have he0 : upd H e (.dK (convT kv)) e = some (.dK (convT kv)) := upd_same
  generalize upd H e (.dK (convT kv)) = H0 at x0 k0 he0 ⊢
  have hyl := hds.len
  refine ⟨_, rfl, D, rfl, ⟨_, SqL.of (x0.lst hD)⟩, for_list (K := K) (a := D) (xs := ys) (fun i σ H' => ∃ (y3 : Option V) (kv' : List (Int × Str)), σ = [some (.ref h'), some (.ref D), some (.ref e), y3] ∧ Ext H H' ∧ Kp H H' ∧ H' e = some (.dK (convT kv')) ∧ kv'.length ≤ kv.length + i ∧ behD ds kv = behD (ds.drop i) kv') ⟨none, kv, rfl, x0, k0, he0, Nat.le_refl _, by rw [List.drop_zero]⟩ (fun i σ H' _ ⟨_, _, _, x, _⟩ => SqL.of (x.lst hD)) ?_ ?_⟩
  · rintro i x σ H' hi ⟨y3, kv', rfl, xi, ki, he, hl, hb⟩
    have hil := (List.getElem?_eq_some_iff.mp hi).1
    have hdi : ds[i]? = some (ds[i]'(by omega)) := List.getElem?_eq_getElem _
    have hdr : ds.drop i = ds[i]'(by omega) :: ds.drop (i + 1) := List.drop_eq_getElem_cons (by omega)
    rw [hdr] at hb
    obtain ⟨t, rfl, ht⟩ := (hds.gr xi.gr).at_ i x _ hi hdi
    generalize ds[i]'(by omega) = dn at hb ht
    obtain ⟨n, k, o⟩ := dn
    cases o with
    | some tx =>
      refine ⟨_, rfl, t, _, 2, _, rfl, rfl, SqT.of ht, rfl, rfl, _, rfl, iteT ?_⟩
      refine ⟨_, rfl, t, _, 2, _, rfl, rfl, SqT.of ht, rfl, _, rfl, _, rfl, t, _, 1, _, rfl, rfl, SqT.of ht, rfl, e, _, rfl, DPut.k (k := .inl k) he (by unfold convT; rw [List.length_map, sizeLine_eq]; omega), ?_⟩
      rw [conv_put]
      have pl := put_length kv' k (S tx)
      exact ⟨_, putI kv' k (S tx), rfl, xi.mut ne, ki.trans (Kp.dK he), upd_same, by omega, hb⟩
    | none =>
      refine ⟨_, rfl, t, _, 2, _, rfl, rfl, SqT.of ht, rfl, rfl, _, rfl, iteF ?_⟩
      have hg := conv_get kv' k
      have hb : behD ds kv = match getI kv' k with | none => .error n | some _ => behD (ds.drop (i + 1)) (popI kv' k) := hb
      refine ⟨_, rfl, t, _, 1, _, rfl, rfl, SqT.of ht, rfl, _, rfl, e, _, rfl, DGet.k (k := .inl k) he, _, rfl, ?_⟩
      cases hgi : getI kv' k with
      | none =>
        rw [hgi] at hg hb
        rw [hg]
        refine iteF ?_
        exact ⟨_, rfl, t, _, 0, _, rfl, rfl, SqT.of ht, rfl, q2 n hb H' xi ki⟩
      | some x =>
        rw [hgi] at hg hb
        rw [hg]
        refine iteT ?_
        refine ⟨_, rfl, e, rfl, .inl ⟨_, .inl he⟩, _, rfl, t, _, 1, _, rfl, rfl, SqT.of ht, rfl, _, .inl k, .str x, he, rfl, hg, ?_⟩
        rw [conv_pop]
        have pl := pop_length kv' k
        exact ⟨_, popI kv' k, rfl, xi.mut ne, ki.trans (Kp.dK he), upd_same, by omega, hb⟩
  · rintro σ H' ⟨y3, kv', rfl, xi, ki, he, hl, hb⟩
    rw [hyl, List.drop_length] at hb
    exact ⟨_, rfl, q1 kv' hb e H' xi ki ne he⟩
end

section
variable {P : Program} {w : World} {K : PySem.W.Frag} {mg : Str → Option Value} {base : Heap} {Fam : Sys → Prop}
def spLTable (Fam : Sys → Prop) : Sp := fun vs H Q _ => ∃ (S0 : Sys) (dl : Addr) (l : Nat) (kvs : List (Int × Str)) (r : Nat), Fam S0 ∧ vs = [.ref S0.f, .ref dl, .int (l : Int)] ∧ H dl = some (.dK (convT kvs)) ∧ TbOk l kvs ∧ l ≤ 16 ∧ kvs.length ≤ 119 ∧ S0.ok H (r + 4000) ∧
  ∀ v H', Ext H H' → S0.ok H' r → S0.den H' v (headT l kvs) → Q v H'
theorem ok_ltable {cc : Addr} (T : Txt K mg cc) (A : SlA P w K mg base Fam) : Cal P w K mg base 25 "_law_table" (spLTable Fam) [] := by
  have Z := T.Z
  have C__law_part := ok_lawpart (P := P) (w := w) (base := base) T A 21
  refine cal_of T.d__law_table sc__law_table (fun vs H Q E h => ?_) (fun f cdv A' outer s H vs Q E hr h => ?_)
  · obtain ⟨S0, dl, l, kvs, r, _, rfl, _⟩ := h
    rfl
  obtain ⟨S0, dl, l, kvs, r, hF, rfl, hdl, hk, hl, h62, hok, q⟩ := h
  have hu := hu_of hr
  have G := A.good hF
  have e16 : sizeLine = 16777216 := sizeLine_eq
  refine ⟨_, (pss_one (ps_ret (pe_sl (i := 0) A.held hr (by omega) rfl (by first | exact Or.inl rfl | exact Or.inr (Or.inl rfl) | exact Or.inr (Or.inr rfl)) (pa_cons pe_str (pa_cons (pv 2) (pa_cons (pe_c C__law_part hr (by omega) rfl (pa_cons (pv 0) (pa_cons (pe_lc (own := [("_law_key", 3)]) (g := gName 3) (tt := tYes) rfl sc__law_table.nd (pi_list (pe_callB (call_sortedDIN rfl) rfl Z.sorted (by decide +kernel) (pa_cons (pv 1) pa_nil))) (blkOk_by (N := N__law_table) (sc := defScope s__law_table) (by decide +kernel)) (fun _ _ _ _ _ => (pg_name (i := 3) sc__law_table.nd rfl (Or.inl rfl))) (fun _ _ _ _ _ => pts_nil) (fun _ _ _ _ _ => (pe_tup (pa_cons (pv 3) (pa_cons (pe_dget hu (pv 1) (pv 3) (fun _ _ => rfl)) pa_nil))))) (pa_cons (pv 2) pa_nil)))) pa_nil)))))), ?_⟩
  have ek : (convT kvs).map (·.1) = (kvs.map (·.1)).map Sum.inl := by unfold convT; rw [List.map_map, List.map_map]; rfl
  refine ⟨S0, _, hF, rfl, hok, _, rfl, _, rfl, _, rfl, dl, convT kvs, kvs.map (·.1), rfl, .inl hdl, ek, by rw [List.length_map]; omega, fun ks a pm pw na => ?_⟩
  have x1 := Ext.new (o := .lst (ks.map V.int)) na
  have k1 := Kp.new (o := .lst (ks.map V.int)) na
  have ha : upd H a (.lst (ks.map V.int)) a = some (.lst (ks.map V.int)) := upd_same
  have hdl1 := x1.dK hdl
  generalize upd H a (.lst (ks.map V.int)) = H1 at x1 k1 ha hdl1 ⊢
  refine ⟨a, rfl, ⟨_, SqL.of ha⟩, fun D nD => ?_⟩
  have hrow : ∀ x ∈ ks, ∃ t, getI kvs x = some t ∧ (x, t) ∈ kvs := fun x hx => getI_mem (pm.mem_iff.mp hx)
  refine lc_list (K := K) (a := a) (xs := ks.map V.int) (fun i H' => ∃ ys, Ext H1 H' ∧ Kp H1 H' ∧ H' D = some (.lst ys) ∧ KvL H' ys ((ks.take i).map fun x => (x, (getI kvs x).getD ""))) ⟨[], Ext.new nD, Kp.new nD, upd_same, KvL.nil⟩ (fun i H' _ ⟨_, x, _⟩ => SqL.of (x.lst ha)) ?_ ?_
  · rintro i y H' hi ⟨ys, x, k, hD, hy⟩
    rw [List.getElem?_map] at hi
    obtain ⟨z, hz, rfl⟩ := Option.map_eq_some_iff.mp hi
    obtain ⟨t, ht1, ht2⟩ := hrow z (List.mem_of_getElem? hz)
    have hg : DGet H' dl (V.int z) (some (V.str t)) := by
      have g := DGet.k (k := .inl z) (x.dK hdl1)
      rw [conv_get, ht1] at g
      exact g
    refine ⟨rfl, _, rfl, _, rfl, _, rfl, dl, .str t, rfl, hg, by show 2 ≤ sizeLine; decide, fun q2 nq2 => ?_⟩
    have u1 := Ext.new (o := .tup [.int z, .str t]) nq2
    have j1 := Kp.new (o := .tup [.int z, .str t]) nq2
    have hD2 := u1.lst hD
    have nD2 : q2 ≠ D := fun e => by rw [e, hD] at nq2; cases nq2
    refine ⟨ys, hD2, ?_, ys ++ [.ref q2], (x.trans u1).mut nD, (k.trans j1).trans (Kp.lst hD2), upd_same, ?_⟩
    · have e1 := hy.len
      rw [List.length_map, List.length_take] at e1
      have e2 := pm.length_eq
      rw [List.length_map] at e2
      omega
    · rw [List.take_succ, hz, List.map_append]
      have ex : (getI kvs z).getD "" = t := by rw [ht1]; rfl
      show KvL _ _ (_ ++ [(z, (getI kvs z).getD "")])
      rw [ex]
      exact (hy.gr (j1.trans (Kp.lst hD2)).gr).snoc (by rw [upd_ne nD2]; exact upd_same) (hk.tx _ ht2)
  rintro H2 ⟨ys, x2, k2, hD, hy⟩
  rw [List.length_map, List.take_length] at hy
  have pr := keys_rows hk.nd pm
  have sr : (ks.map fun x => (x, (getI kvs x).getD "")).Pairwise fun a b => a.1 ≤ b.1 := List.pairwise_map.mpr pw
  rw [srt_eq hk (List.Perm.refl _) pr sr] at hy
  have pr := srt_perm kvs
  have rl := pr.length_eq
  have cp := costP_le hl (show kvs.length ≤ 120 by omega)
  refine ⟨_, rfl, S0, D, ys, srtI kvs, l, r + 1, hF, rfl, SqL.of hD, hy, rows_ok hk pr, by omega, by omega, by rw [rl]; exact G.less (G.keep (k1.trans k2) hok) (by omega), fun v H3 x3 ok3 d3 => ?_⟩
  exact ⟨r, "table", .int (l : Int), partT l (srtI kvs), _, _, rfl, by decide +kernel, ok3, G.int _ ok3, d3, fun u H4 x4 ok4 d4 => q u H4 (((x1.trans x2).trans x3).trans x4) ok4 d4⟩
end

/-! ### a list compared with an empty one: the lengths alone -/
def rNeNil : R2 := fun x y H Q => ∃ (a b : Addr) (xs : List V), x = .ref a ∧ y = .ref b ∧ H a = some (.lst xs) ∧ H b = some (.lst []) ∧ Q (.bl (!xs.isEmpty)) H
theorem op_neNil {X : Cx} (hu : X.A.units + 64 < cLine) : OpR X (compareOp .NotEq) rNeNil := by
  intro pins s σ H x y v u Q I rx ry h
  obtain ⟨a, b, xs, rfl, rfl, ha, hb, q⟩ := h
  cases rx
  cases ry
  obtain ⟨_, its, n, r, hl, e⟩ := I.lstM ha
  obtain ⟨_, its2, n2, r2, hl2, e2⟩ := I.lstM hb
  cases r2
  have la : s.heap.IsList a its.toArray := ⟨_, e, rfl, _, rfl⟩
  have lb : s.heap.IsList b #[] := ⟨_, e2, rfl, _, rfl⟩
  cases xs with
  | nil =>
    cases r
    exact SeqAt.RcNeAt.lists (e := fun _ => true) la lb rfl (by omega) (fun j h1 _ => absurd h1 (by simp)) _ _ _ _ ⟨.bl _, H, I, rfl, q⟩
  | cons x xs =>
    have hz : (its.toArray.size != (#[] : Array Value).size) = true := by
      rw [List.size_toArray, ← hl]
      rfl
    exact SeqAt.RcNeAt.lists_lengths la lb hz (by omega) _ _ _ _ ⟨.bl _, H, I, rfl, q⟩

/-- .. by == -/
def rEqNil : R2 := fun x y H Q => ∃ (a b : Addr) (xs : List V), x = .ref a ∧ y = .ref b ∧ H a = some (.lst xs) ∧ H b = some (.lst []) ∧ Q (.bl xs.isEmpty) H
theorem op_eqNil {X : Cx} (hu : X.A.units + 64 < cLine) : OpR X (compareOp .Eq) rEqNil := by
  intro pins s σ H x y v u Q I rx ry h
  obtain ⟨a, b, xs, rfl, rfl, ha, hb, q⟩ := h
  cases rx
  cases ry
  obtain ⟨_, its, n, r, hl, e⟩ := I.lstM ha
  obtain ⟨_, its2, n2, r2, hl2, e2⟩ := I.lstM hb
  cases r2
  have la : s.heap.IsList a its.toArray := ⟨_, e, rfl, _, rfl⟩
  have lb : s.heap.IsList b #[] := ⟨_, e2, rfl, _, rfl⟩
  cases xs with
  | nil =>
    cases r
    exact SeqAt.RcAt.lists (e := fun _ => true) la lb rfl (by omega) (fun j h1 _ => absurd h1 (by simp)) _ _ _ _ ⟨.bl _, H, I, rfl, q⟩
  | cons x xs =>
    have hz : (its.toArray.size != (#[] : Array Value).size) = true := by
      rw [List.size_toArray, ← hl]
      rfl
    exact SeqAt.RcAt.lists_lengths la lb hz (by omega) _ _ _ _ ⟨.bl _, H, I, rfl, q⟩

/-! ### the keeper is filled -/
def DueB (H : Hp) (dv : V) : Except Nat (List (Int × Str)) → Prop
  | .ok kv => ∃ e, dv = .ref e ∧ H e = some (.dK (convT kv))
  | .error i => dv = .int (i : Int)
section
variable {P : Program} {w : World} {K : PySem.W.Frag} {mg : Str → Option Value} {base : Heap} {Fam : Sys → Prop} {CK CT C B : Addr}
theorem run_len : ∀ (ms : List Rw) (i : Nat) (a b : List (Int × Str)), behD (dones i ms) a = .ok b → b.length ≤ a.length + ms.length
  | [], i, a, b, h => by cases h; exact Nat.le_refl _
  | m :: ms, i, a, b, h => by
    rw [dones] at h
    have up : ∀ a', a'.length ≤ a.length + 1 → behD (dones (i + 1) ms) a' = .ok b → b.length ≤ a.length + (m :: ms).length := fun a' h1 h2 => by
      have := run_len ms (i + 1) a' b h2
      rw [List.length_cons]
      omega
    cases e : m.2 with
    | non => rw [e] at h; exact up a (by omega) h
    | bad => rw [e] at h; exact up a (by omega) h
    | act x =>
      rw [e] at h
      cases x with
      | put k t => exact up _ (put_length a k _) h
      | cut k =>
        have h : (match getI a k with | none => Except.error i | some _ => behD (dones (i + 1) ms) (popI a k)) = .ok b := h
        cases g : getI a k with
        | none => rw [g] at h; cases h
        | some x => rw [g] at h; exact up _ (by have := pop_length a k; omega) h
theorem lastKv_snoc (es : List En) (e : En) : lastKv (es ++ [e]) = e.2 := by
  unfold lastKv
  rw [List.getLast?_append]
  rfl
def OldL (H : Hp) (L : List Addr) : Prop := ∀ a ∈ L, ∃ xs, H a = some (.lst xs)
theorem notin {H : Hp} {x : Addr} {L : List Addr} (n : H x = none) (h : OldL H L) : x ∉ L := fun hx => by
  obtain ⟨xs, e⟩ := h x hx
  rw [n] at e
  cases e
theorem KpAt.old {S0 : Sys} {H : Hp} {p : Addr} {l : Nat} {t b v : Addr} {es : List En} (h : KpAt CK CT S0 H p l t b v es) : OldL H [t, b, v] := fun a ha => by
  rcases List.mem_cons.mp ha with rfl | ha
  · exact ⟨_, h.tx⟩
  rcases List.mem_cons.mp ha with rfl | ha
  · obtain ⟨_, z, _⟩ := h.tb; exact ⟨_, z⟩
  rcases List.mem_cons.mp ha with rfl | ha
  · obtain ⟨_, z, _⟩ := h.lv; exact ⟨_, z⟩
  cases ha
theorem ExtM.trans {M : List Addr} {H H1 H2 : Hp} (a : ExtM M H H1) (b : ExtM M H1 H2) : ExtM M H H2 := by
  refine ⟨fun x o hm e n => b.keep x o hm (a.keep x o hm e n) n, fun x ks e => ?_, a.was⟩
  obtain ⟨m1, e1⟩ := a.grow x ks e
  obtain ⟨m2, e2⟩ := b.grow x _ e1
  exact ⟨m1 ++ m2, by rw [e2, List.append_assoc]⟩
theorem ExtM.mut {M : List Addr} {H H1 : Hp} (a : ExtM M H H1) {x : Addr} {o : HO} (n : H x = none) : ExtM M H (upd H1 x o) := by
  refine ⟨fun y u hm e nd => ?_, fun y ks e => ?_, a.was⟩
  · rw [upd_ne (ne_of_none e n)]
    exact a.keep y u hm e nd
  · rw [upd_ne (ne_of_none e n)]
    exact a.grow y ks e
theorem run_hash (l : Nat) : runL l 0 (TL.spl [10] 0 [] [35]) [] = .ok [] := by
  have e : TL.spl [10] 0 [] (TL.joinL [10] [[35]]) = [[35]] := SX.spl_join (c := 10) (sep := []) (by simp) fun p hp hc => by
    rw [List.mem_singleton.mp hp] at hc
    simp at hc
  have e' : TL.spl [10] 0 [] [35] = [[35]] := e
  rw [e']
  have r : readL [35] l = some none := if_pos (.inr rfl)
  unfold runL
  rw [r]
  rfl
theorem EnL.snoc {S0 : Sys} {H : Hp} {l : Nat} {xs : List V} {es : List En} (h : EnL S0 H l xs es) {q dh : Addr} {hv : V} {e : En} (g2 : H q = some (.tup [.str (S e.1), .ref dh, hv])) (g3 : H dh = some (.dK (convT e.2))) (g4 : S0.den H hv (headT l e.2)) : EnL S0 H l (xs ++ [.ref q]) (es ++ [e]) := by
  have hxl := h.len
  refine ⟨by rw [List.length_append, List.length_append, hxl]; rfl, fun i w e' a c => ?_⟩
  by_cases ci : i < xs.length
  · rw [List.getElem?_append_left ci] at a
    rw [List.getElem?_append_left (by omega)] at c
    exact h.at_ i w e' a c
  · rw [List.getElem?_append_right (by omega)] at a c
    rw [← hxl] at c
    cases hj : i - xs.length with
    | zero =>
      rw [hj] at a c
      cases a
      cases c
      exact ⟨q, dh, hv, rfl, g2, g3, g4⟩
    | succ j =>
      rw [hj] at a
      simp at a
def spFilled (K : PySem.W.Frag) (CK CT : Addr) (Fam : Sys → Prop) : Sp := fun vs H Q _ => ∃ (S0 : Sys) (p : Addr) (l : Nat) (t b v c near : Addr) (ns ks : List Int) (r : Nat), Fam S0 ∧ vs = [.ref S0.f, .ref p, .ref c, .int (l : Int), .ref near] ∧ KpAt CK CT S0 H p l t b v [] ∧ H c = some (.lst (ns.map V.int)) ∧ c ∉ [t, b, v] ∧ H near = some (.lst (ks.map V.int)) ∧ near ∉ [t, b, v] ∧
  0 < ks.length ∧ ks.length ≤ 1000 ∧ InL l ks ∧ 1 ≤ l ∧ S0.ok H (r + 1000000) ∧
  ∀ Bk xs es H', ExtM [t, b, v] H H' → S0.ok H' r → Bk ∉ [t, b, v] → KpAt CK CT S0 H' p l t b v es → H' Bk = some (.lst xs) → EnL S0 H' l xs es → 0 < es.length → es.length ≤ 38 → (∀ e ∈ es, e.1.length ≤ 300) → Q (.ref Bk) H'
theorem ok_filled {cc : Addr} (T : Txt K mg cc) (A : SlA P w K mg base Fam) (KT : K_Table K mg CT) (KK : K_Keeper K mg CK) (EI : ExcI K mg "BadRow" "BookError" "row" "BadRow.__init__" s_BadRow___init__ ["self", "row"] C B) : Cal P w K mg base 27 "_law_filled" (spFilled K CK CT Fam) [] := by
  have Z := T.Z
  have C__law_cell_at := ok_cell_at (P := P) (w := w) (base := base) T
  have C__law_text := ok_ltext (P := P) (w := w) (base := base) T
  have C__law_behind := ok_behind (P := P) (w := w) (base := base) T
  have C__law_table := ok_ltable T A
  have M_add := ok_kadd T A KT KK EI
  refine cal_of T.d__law_filled sc__law_filled (fun vs H Q E h => ?_) (fun f cdv A' outer s H vs Q E hr h => ?_)
  · obtain ⟨S0, p, l, t, b, v, c, near, ns, ks, r, _, rfl, _⟩ := h
    rfl
  obtain ⟨S0, p, l, t, b, v, c, near, ns, ks, r, hF, rfl, hk, hc, nc, hn, nn, kpos, klen, hin, l1, hok, q⟩ := h
  have G := A.good hF
  have e16 : sizeLine = 16777216 := sizeLine_eq
  refine ⟨_, (pss_cons (ps_set (i := 5) sc__law_filled.nd rfl (Or.inl rfl) (pe_lst pa_nil))
  (pss_cons (ps_set (i := 6) sc__law_filled.nd rfl (Or.inl rfl) (pe_c C__law_cell_at hr (by omega) rfl (pa_cons (pv 2) (pa_cons pe_int pa_nil))))
  (pss_cons (ps_set (i := 7) sc__law_filled.nd rfl (Or.inl rfl) (pe_op op_add pe_int (pe_op op_mod (pe_op op_fdiv (pe_c C__law_cell_at hr (by omega) rfl (pa_cons (pv 2) (pa_cons pe_int pa_nil))) pe_int) pe_int)))
  (Evl.pss_cut (ps_if (pt_cmpR op_gt (pe_callB call_len_seq rfl Z.len PySem.boot_len (pa_cons (pv 4) pa_nil)) pe_int (nomark _)) (pss_one (ps_set (i := 7) sc__law_filled.nd rfl (Or.inl rfl) (pe_op op_add (pv 7) pe_int))) pss_nil)
  (Evl.pss_cut (ps_for PassesOwn.never rfl (pi_range1 rfl Z.range (pa_cons (pe_op op_mul pe_int (pv 7)) pa_nil)) (pg_name (i := 8) sc__law_filled.nd rfl (Or.inl rfl)) (pss_cons (ps_set (i := 9) sc__law_filled.nd rfl (Or.inl rfl) (pe_c C__law_text hr (by omega) rfl (pa_cons (pe_op op_add (pv 6) (pe_op op_mul pe_int (pv 8))) (pa_cons (pv 3) (pa_cons (pv 4) pa_nil)))))
  (Evl.pss_cut (ps_set (i := 10) sc__law_filled.nd rfl (Or.inl rfl) (pe_c C__law_behind hr (by omega) rfl (pa_cons (pe_ifExp (pt_cmpR (op_neNil hr.units) (pv 5) (pe_lst pa_nil) (nomark _)) (pe_ix ix_tup (pe_ix ix_list (pv 5) (pe_op op_sub (pe_callB call_len_seq rfl Z.len PySem.boot_len (pa_cons (pv 5) pa_nil)) pe_int) (fun _ _ => rfl)) pe_int (fun _ _ => rfl)) pe_dnewK) (pa_cons (pe_ix ix_tup (pv 9) pe_int (fun _ _ => rfl)) pa_nil))))
  (pss_one (ps_if (PW.pt (pw_and (pt_val (pe_callB call_isi rfl Z.isinstance (by decide +kernel) (pa_cons (pv 10) (pa_cons (pe_bltn (v := .ty "dict") rfl Z.dict (by decide +kernel) rfl) pa_nil)))) (pw_and1 (pt_cmpR op_lt (pe_callB call_len_seq rfl Z.len PySem.boot_len (pa_cons (pv 5) pa_nil)) (pv 7) (nomark _))))) (pss_cons (ps_expr (pe_mtx M_add takes0 hr (by omega) (pv 1) (pa_cons (pe_ix ix_tup (pv 9) pe_int (fun _ _ => rfl)) pa_nil)))
  (pss_one (ps_expr (pe_bm PySem.F.plainAttrs_list PySem.F.slot_list_append PySem.F.type_list_append mt_append (pv 5) (pa_cons (pe_tup (pa_cons (pe_ix ix_tup (pv 9) pe_int (fun _ _ => rfl)) (pa_cons (pv 10) (pa_cons (pe_c C__law_table hr (by omega) rfl (pa_cons (pv 0) (pa_cons (pv 10) (pa_cons (pv 3) pa_nil)))) pa_nil)))) pa_nil))))) pss_nil)))))
  (pss_cons (ps_if (pt_cmpR (op_eqNil hr.units) (pv 5) (pe_lst pa_nil) (nomark _)) (pss_cons (ps_expr (pe_mtx M_add takes0 hr (by omega) (pv 1) (pa_cons pe_str pa_nil)))
  (pss_one (ps_expr (pe_bm PySem.F.plainAttrs_list PySem.F.slot_list_append PySem.F.type_list_append mt_append (pv 5) (pa_cons (pe_tup (pa_cons pe_str (pa_cons pe_dnewK (pa_cons (pe_c C__law_table hr (by omega) rfl (pa_cons (pv 0) (pa_cons pe_dnewK (pa_cons (pv 3) pa_nil)))) pa_nil)))) pa_nil))))) pss_nil)
  (pss_one (ps_ret (pv 5))))))))), ?_⟩
  have wasM := hk.old
  refine ⟨by show 0 ≤ sizeLine; decide, fun Bk nB => ?_⟩
  have nBM : Bk ∉ [t, b, v] := notin nB wasM
  have u0 := (Ext.refl H).m _ wasM
  have m1 : ExtM [t, b, v] H (upd H Bk (.lst [])) := u0.mut nB
  have x1 := Ext.new (o := .lst []) nB
  have k1 := Kp.new (o := .lst []) nB
  have hB1 : upd H Bk (.lst []) Bk = some (.lst []) := upd_same
  have hk1 := hk.ext G x1
  have ok1 := G.keep k1 hok
  generalize upd H Bk (.lst []) = H1 at m1 x1 k1 hB1 hk1 ok1 ⊢
  refine ⟨_, rfl, c, ns, 2, rfl, SqL.of (x1.lst hc), by decide, ?_⟩
  generalize cell ns 2 = seed
  refine ⟨_, rfl, c, ns, 0, rfl, SqL.of (x1.lst hc), by decide, _, 16, rfl, rfl, ⟨by decide, by decide⟩, _, 8, rfl, rfl, by show (0 : Int) < 8; decide, _, _, rfl, rfl, ?_⟩
  have m0 := Int.emod_nonneg (cell ns 0 / 16) (show (8 : Int) ≠ 0 by decide)
  have m8 := Int.emod_lt_of_pos (cell ns 0 / 16) (show (0 : Int) < 8 by decide)
  obtain ⟨n0, hn0⟩ : ∃ n0 : Nat, 1 + cell ns 0 / 16 % 8 = (n0 : Int) := ⟨(1 + cell ns 0 / 16 % 8).toNat, by omega⟩
  have n01 : 1 ≤ n0 := by omega
  have n08 : n0 ≤ 8 := by omega
  show gName 7 (V.int (1 + cell ns 0 / 16 % 8)) _ _ _
  rw [hn0]
  clear hn0 m0 m8
  have hnl := hn
  refine ⟨fun σ H' => ∃ N : Nat, 1 ≤ N ∧ N ≤ 38 ∧ σ = [some (.ref S0.f), some (.ref p), some (.ref c), some (.int (l : Int)), some (.ref near), some (.ref Bk), some (.int seed), some (.int (N : Int)), none, none, none] ∧ H1 = H', ?_, ?_⟩
  · refine ⟨_, rfl, near, _, rfl, .inl (SqL.of (x1.lst hn)), _, _, rfl, rfl, _, rfl, ite2 (fun _ => ?_) (fun _ => ?_)⟩
    · refine ⟨_, rfl, _, _, rfl, rfl, n0 + 30, by omega, by omega, ?_, rfl⟩
      rw [show ((n0 + 30 : Nat) : Int) = (n0 : Int) + 30 by omega]
      rfl
    · exact ⟨n0, n01, by omega, rfl, rfl⟩
  rintro σ H' ⟨N, hN1, hN2, rfl, rfl⟩
  refine ⟨fun σ H' => ∃ (y8 y9 y10 : Option V) (es : List En) (xs : List V), σ = [some (.ref S0.f), some (.ref p), some (.ref c), some (.int (l : Int)), some (.ref near), some (.ref Bk), some (.int seed), some (.int (N : Int)), y8, y9, y10] ∧ ExtM [t, b, v] H H' ∧ KpAt CK CT S0 H' p l t b v es ∧ H' Bk = some (.lst xs) ∧ EnL S0 H' l xs es ∧ es.length ≤ 38 ∧ (∀ e ∈ es, e.1.length ≤ 300) ∧ S0.ok H' (r + 50000), ?_, ?_⟩
  · refine ⟨_, rfl, _, _, rfl, rfl, .inl ⟨by decide, by decide⟩, _, rfl, by omega, by omega, ?_⟩
    rw [show (3 * (N : Int)).toNat = 3 * N by omega]
    refine for_range (fun i σ H' => ∃ (y8 y9 y10 : Option V) (es : List En) (xs : List V), σ = [some (.ref S0.f), some (.ref p), some (.ref c), some (.int (l : Int)), some (.ref near), some (.ref Bk), some (.int seed), some (.int (N : Int)), y8, y9, y10] ∧ ExtM [t, b, v] H H' ∧ KpAt CK CT S0 H' p l t b v es ∧ H' Bk = some (.lst xs) ∧ EnL S0 H' l xs es ∧ es.length ≤ N ∧ (lastKv es).length ≤ 3 * es.length ∧ (∀ e ∈ es, e.1.length ≤ 300) ∧ S0.ok H' (r + 1000000 - i * 8200)) ⟨none, none, none, [], [], rfl, m1, hk1, hB1, EnL.nil, Nat.zero_le _, Nat.zero_le _, (fun e he => nomatch he), ok1⟩ ?_ ?_
    · rintro i σ H2 hi ⟨y8, y9, y10, es, xs, rfl, hm, hk, hB, hen, hel, hlk, htl, ok⟩
      rw [Int.zero_add]
      have hi' : i < 114 := by omega
      have hxl := hen.len
      refine ⟨_, rfl, _, rfl, _, _, rfl, rfl, .inl ⟨by decide, by decide⟩, _, _, rfl, rfl, _, rfl, _, rfl, _, l, near, ks, rfl, hm.lst nn hn, kpos, klen, hin, l1, hk.sz.1, fun ms M D ys H3 hms hok1 s3 nD hM hD hdn => ?_⟩
      have e3 := Ext.of_same s3
      have hk3 := hk.ext G e3
      have hB3 := e3.lst hB
      have hen3 := hen.ext G e3
      have hm3 := hm.then e3
      have ok3 := G.keep (kp_same s3) ok
      have hdl := dones_len ms 0
      refine ⟨fun σ H' => ∃ dv : V, σ = [some (.ref S0.f), some (.ref p), some (.ref c), some (.int (l : Int)), some (.ref near), some (.ref Bk), some (.int seed), some (.int (N : Int)), some (.int (i : Int)), some (.ref M), some dv] ∧ Ext H3 H' ∧ Kp H3 H' ∧ DueB H' dv (behD (dones 0 ms) (lastKv es)), ?_, ?_⟩
      · refine ⟨_, rfl, by show 0 ≤ sizeLine; decide, fun e0 ne0 => ?_⟩
        have x4 := Ext.new (o := .lst []) ne0
        have k4 := Kp.new (o := .lst []) ne0
        have he0 : upd H3 e0 (.lst []) e0 = some (.lst []) := upd_same
        generalize upd H3 e0 (.lst []) = H4 at x4 k4 he0 ⊢
        refine ⟨Bk, e0, xs, rfl, rfl, x4.lst hB3, he0, _, rfl, ?_⟩
        by_cases c : es = []
        · subst c
          have hx0 : xs = [] := List.length_eq_zero_iff.mp hxl
          subst hx0
          refine iteF ?_
          refine fun d0 nd0 => ?_
          have x5 := x4.trans (Ext.new (o := .dK []) nd0)
          have k5 := k4.trans (Kp.new (o := .dK []) nd0)
          refine ⟨_, rfl, M, _, 1, _, rfl, rfl, SqT.of (x5.tup hM), rfl, d0, D, [], ys, dones 0 ms, rfl, upd_same, by decide, x5.lst hD, hdn.gr x5.gr, by omega, fun kv' hb e H' x k ne he => ?_, fun i hb H' x k => ?_⟩
          · exact ⟨_, rfl, x5.trans x, k5.trans k, by show DueB H' _ (behD (dones 0 ms) []); rw [hb]; exact ⟨e, rfl, he⟩⟩
          · exact ⟨_, rfl, x5.trans x, k5.trans k, by show DueB H' _ (behD (dones 0 ms) []); rw [hb]; exact rfl⟩
        · have hl : 0 < es.length := List.length_pos_iff.mpr c
          obtain ⟨e, he, hle⟩ := last_get c
          have hx : xs[es.length - 1]? = some (xs[es.length - 1]'(by omega)) := List.getElem?_eq_getElem _
          obtain ⟨te, dh, hv, g1, g2, g3, g4⟩ := hen3.at_ _ _ _ hx he
          rw [g1] at hx
          have hke := hk.ok e (List.mem_of_getElem? he)
          have hemp : xs.isEmpty = false := by
            cases xs with
            | nil => simp at hxl; omega
            | cons x xs => rfl
          rw [hemp]
          refine iteT ?_
          refine ⟨_, rfl, _, rfl, Bk, _, rfl, .inl (SqL.of (x4.lst hB3)), _, _, rfl, rfl, Bk, _, _, .ref te, rfl, rfl, SqL.of (x4.lst hB3), ?_, te, _, 1, _, rfl, rfl, SqT.of (x4.tup g2), rfl, ?_⟩
          · rw [hxl, show (es.length : Int) - 1 = ((es.length - 1 : Nat) : Int) by omega]
            exact atI_nat hx
          refine ⟨_, rfl, M, _, 1, _, rfl, rfl, SqT.of (x4.tup hM), rfl, dh, D, e.2, ys, dones 0 ms, rfl, x4.dK g3, by omega, x4.lst hD, hdn.gr x4.gr, by omega, fun kv' hb e' H' x k ne he' => ?_, fun i hb H' x k => ?_⟩
          · exact ⟨_, rfl, x4.trans x, k4.trans k, by rw [hle, hb]; exact ⟨e', rfl, he'⟩⟩
          · exact ⟨_, rfl, x4.trans x, k4.trans k, by rw [hle, hb]; exact rfl⟩
      rintro σ H4 ⟨dv, rfl, x4, k4, hdue⟩
      have hk4 := hk3.ext G x4
      have hB4 := x4.lst hB3
      have hen4 := hen3.ext G x4
      have hm4 := hm3.then x4
      have ok4 := G.keep k4 ok3
      have hM4 := x4.tup hM
      have hr0 := run_rowsM hok1 (lastKv es)
      cases hb : behD (dones 0 ms) (lastKv es) with
      | error j =>
        rw [hb] at hdue
        obtain rfl : dv = .int (j : Int) := hdue
        refine ⟨_, rfl, .int _, .ty "dict", _, _, false, rfl, .ty "dict", .base (.int _), kit_ty (by decide +kernel), false, rfl, ?_⟩
        exact ⟨_, _, _, es, xs, rfl, hm4, hk4, hB4, hen4, hel, hlk, htl, G.less ok4 (by omega)⟩
      | ok kv =>
        rw [hb] at hdue hr0
        obtain ⟨e, rfl, he⟩ := hdue
        have hkl := run_len ms 0 _ _ hb
        refine ⟨_, rfl, .ref e, .ty "dict", _, _, true, rfl, .ty "dict", .base (.dK he), kit_ty (by decide +kernel), true, rfl, ?_⟩
        refine ⟨_, rfl, Bk, _, rfl, .inl (SqL.of hB4), _, rfl, _, _, rfl, rfl, _, rfl, ?_⟩
        by_cases c1 : es.length < N
        · rw [decide_eq_true (show (xs.length : Int) < (N : Int) by omega)]
          refine iteT ?_
          obtain ⟨dx, hp⟩ := hk4.at_
          have jl := join_len (ms.map (·.1)) fun l hl => by obtain ⟨m, hm, rfl⟩ := List.mem_map.mp hl; exact (hok1 m hm).ln
          rw [List.length_map] at jl
          have ja := join_asc (ms.map (·.1)) fun l hl => by obtain ⟨m, hm, rfl⟩ := List.mem_map.mp hl; exact (hok1 m hm).pr
          refine ⟨_, rfl, p, dx, _, rfl, hp, kno "add", _, rfl, M, _, 0, _, rfl, rfl, SqT.of hM4, rfl, S0, p, l, t, b, v, es, TL.joinL [10] (ms.map (·.1)), r + 1000000 - i * 8200 - 4100, hF, rfl, hk4, by omega, ja, by omega, G.less ok4 (by omega), fun kv' hrun => ⟨?_, fun H5 m5 ok5 hk5 => ?_⟩, fun j hrun => ?_⟩
          · have hrun : runL l 0 (TL.spl [10] 0 [] (TL.joinL [10] (ms.map (·.1)))) (lastKv es) = .ok kv' := hrun
            rw [hr0] at hrun
            cases hrun
            omega
          · have hrun : runL l 0 (TL.spl [10] 0 [] (TL.joinL [10] (ms.map (·.1)))) (lastKv es) = .ok kv' := hrun
            rw [hr0] at hrun
            cases hrun
            have he5 := m5.dK he
            have hB5 := m5.lst nBM hB4
            have hen5 := hen4.extM G m5
            have hM5 := m5.tup hM4
            have hkv := hk5.ok (TL.joinL [10] (ms.map (·.1)), kv) (List.mem_append.mpr (.inr List.mem_cons_self))
            refine ⟨_, rfl, .inl ⟨rfl, _, SqL.of hB5⟩, _, rfl, M, _, 0, _, rfl, rfl, SqT.of hM5, rfl, _, rfl, _, rfl, _, rfl, _, rfl, S0, e, l, kv, r + 1000000 - (i + 1) * 8200, hF, rfl, he5, hkv.1, hk5.sz.1, hkv.2.1, G.less ok5 (by omega), fun hv H6 x6 ok6 d6 => ?_⟩
            refine ⟨by show 3 ≤ sizeLine; decide, fun tq ntq => ?_⟩
            have x7 := Ext.new (o := .tup [.str (S (TL.joinL [10] (ms.map (·.1)))), .ref e, hv]) ntq
            have hB7 := x7.lst (x6.lst hB5)
            refine ⟨Bk, xs, .ref tq, rfl, rfl, hB7, by omega, ?_⟩
            have htq : upd H6 tq (.tup [.str (S (TL.joinL [10] (ms.map (·.1)))), .ref e, hv]) tq = some (.tup [.str (S (TL.joinL [10] (ms.map (·.1)))), .ref e, hv]) := upd_same
            have x67 := x6.trans x7
            have ok7 := G.keep (Kp.new (o := .tup [.str (S (TL.joinL [10] (ms.map (·.1)))), .ref e, hv]) ntq) ok6
            have d7 := G.mono x7.gr d6
            generalize upd H6 tq (.tup [.str (S (TL.joinL [10] (ms.map (·.1)))), .ref e, hv]) = H7 at hB7 htq x67 ok7 d7 ⊢
            have k8 := Kp.lst (o := .lst (xs ++ [.ref tq])) hB7
            have mB : ExtM [Bk] H7 (upd H7 Bk (.lst (xs ++ [.ref tq]))) := ((Ext.refl H7).m [Bk] fun a h => by rw [List.mem_singleton.mp h]; exact ⟨_, hB7⟩).set List.mem_cons_self
            have nb : t ≠ Bk ∧ b ≠ Bk ∧ v ≠ Bk := ⟨fun z => nBM (by rw [z]; exact List.mem_cons_self), fun z => nBM (by rw [z]; exact List.mem_cons_of_mem _ List.mem_cons_self), fun z => nBM (by rw [z]; exact List.mem_cons_of_mem _ (List.mem_cons_of_mem _ List.mem_cons_self))⟩
            refine ⟨_, _, _, es ++ [(TL.joinL [10] (ms.map (·.1)), kv)], xs ++ [.ref tq], rfl, ((hm4.trans m5).then x67).mut nB, (hk5.ext G x67).extM G mB (fun z => nb.1 (List.mem_singleton.mp z)) (fun z => nb.2.1 (List.mem_singleton.mp z)) (fun z => nb.2.2 (List.mem_singleton.mp z)), upd_same, (((hen5.ext G x67).snoc (e := (TL.joinL [10] (ms.map (·.1)), kv)) htq (x67.dK he5) d7).extM G mB), by rw [List.length_append]; exact c1, ?_, ?_, G.keep k8 ok7⟩
            · rw [lastKv_snoc, List.length_append]
              show kv.length ≤ 3 * (es.length + 1)
              omega
            · intro e' he'
              rcases List.mem_append.mp he' with h | h
              · exact htl e' h
              · rw [List.mem_singleton.mp h]
                show (TL.joinL [10] (ms.map (·.1))).length ≤ 300
                omega
          · have hrun : runL l 0 (TL.spl [10] 0 [] (TL.joinL [10] (ms.map (·.1)))) (lastKv es) = .error j := hrun
            rw [hr0] at hrun
            cases hrun
        · rw [decide_eq_false (show ¬ (xs.length : Int) < (N : Int) by omega)]
          refine iteF ?_
          exact ⟨_, _, _, es, xs, rfl, hm4, hk4, hB4, hen4, hel, hlk, htl, G.less ok4 (by omega)⟩
    · rintro σ H2 ⟨y8, y9, y10, es, xs, rfl, hm, hk, hB, hen, hel, hlk, htl, ok⟩
      exact ⟨_, _, _, es, xs, rfl, hm, hk, hB, hen, by omega, htl, G.less ok (by omega)⟩
  rintro σ H2 ⟨y8, y9, y10, es, xs, rfl, hm, hk, hB, hen, hel, htl, ok⟩
  have hxl := hen.len
  refine ⟨_, rfl, by show 0 ≤ sizeLine; decide, fun e0 ne0 => ?_⟩
  have x4 := Ext.new (o := .lst []) ne0
  have k4 := Kp.new (o := .lst []) ne0
  have he0 : upd H2 e0 (.lst []) e0 = some (.lst []) := upd_same
  generalize upd H2 e0 (.lst []) = H4 at x4 k4 he0 ⊢
  have hk4 := hk.ext G x4
  have hB4 := x4.lst hB
  have hen4 := hen.ext G x4
  have hm4 := hm.then x4
  have ok4 := G.keep k4 ok
  refine ⟨Bk, e0, xs, rfl, rfl, hB4, he0, _, rfl, ?_⟩
  by_cases c : es = []
  · subst c
    have hx0 : xs = [] := List.length_eq_zero_iff.mp hxl
    subst hx0
    refine iteT ?_
    obtain ⟨dx, hp⟩ := hk4.at_
    have eH : Str.ofString "#" = S [35] := TL.ext_tl (by decide +kernel)
    rw [eH]
    refine ⟨_, rfl, p, dx, _, rfl, hp, kno "add", S0, p, l, t, b, v, [], [35], r + 40000, hF, rfl, hk4, by decide, fun c hc => by simp at hc; omega, by decide, G.less ok4 (by omega), fun kv' hrun => ⟨?_, fun H5 m5 ok5 hk5 => ?_⟩, fun j hrun => ?_⟩
    · have hrun : runL l 0 (TL.spl [10] 0 [] [35]) [] = .ok kv' := hrun
      rw [run_hash] at hrun
      cases hrun
      exact Nat.zero_le _
    · have hrun : runL l 0 (TL.spl [10] 0 [] [35]) [] = .ok kv' := hrun
      rw [run_hash] at hrun
      cases hrun
      have hB5 := m5.lst nBM hB4
      refine ⟨_, rfl, .inl ⟨rfl, _, SqL.of hB5⟩, fun d0 nd0 => ⟨_, rfl, fun d1 nd1 => ?_⟩⟩
      have x6 := (Ext.new (o := .dK []) nd0).trans (Ext.new (o := .dK []) nd1)
      have k6 := (Kp.new (o := .dK []) nd0).trans (Kp.new (o := .dK []) nd1)
      have hd0 : upd (upd H5 d0 (.dK [])) d1 (.dK []) d0 = some (.dK []) := (Ext.new (o := .dK []) nd1).dK upd_same
      have hd1 : upd (upd H5 d0 (.dK [])) d1 (.dK []) d1 = some (.dK []) := upd_same
      generalize upd (upd H5 d0 (.dK [])) d1 (.dK []) = H6 at x6 k6 hd0 hd1 ⊢
      refine ⟨_, rfl, S0, d1, l, [], r + 20000, hF, rfl, hd1, ⟨List.nodup_nil, (fun e h => nomatch h), (fun e h => nomatch h)⟩, hk5.sz.1, by decide, G.less (G.keep k6 ok5) (by omega), fun hv H7 x7 ok7 d7 => ?_⟩
      refine ⟨by show 3 ≤ sizeLine; decide, fun tq ntq => ?_⟩
      have x8 := Ext.new (o := .tup [.str (S [35]), .ref d0, hv]) ntq
      have x68 := (x6.trans x7).trans x8
      have hB8 := x68.lst hB5
      refine ⟨Bk, [], .ref tq, rfl, rfl, hB8, by decide, ?_⟩
      have htq : upd H7 tq (.tup [.str (S [35]), .ref d0, hv]) tq = some (.tup [.str (S [35]), .ref d0, hv]) := upd_same
      have ok8 := G.keep (Kp.new (o := .tup [.str (S [35]), .ref d0, hv]) ntq) ok7
      have d8 := G.mono x8.gr d7
      have hd08 := (x7.trans x8).dK hd0
      generalize upd H7 tq (.tup [.str (S [35]), .ref d0, hv]) = H8 at hB8 htq x68 ok8 d8 hd08 ⊢
      have k9 := Kp.lst (o := .lst ([] ++ [.ref tq])) hB8
      have mB : ExtM [Bk] H8 (upd H8 Bk (.lst ([] ++ [.ref tq]))) := ((Ext.refl H8).m [Bk] fun a h => by rw [List.mem_singleton.mp h]; exact ⟨_, hB8⟩).set List.mem_cons_self
      have nb : t ≠ Bk ∧ b ≠ Bk ∧ v ≠ Bk := ⟨fun z => nBM (by rw [z]; exact List.mem_cons_self), fun z => nBM (by rw [z]; exact List.mem_cons_of_mem _ List.mem_cons_self), fun z => nBM (by rw [z]; exact List.mem_cons_of_mem _ (List.mem_cons_of_mem _ List.mem_cons_self))⟩
      refine ⟨_, rfl, q Bk _ [([35], [])] _ (((hm4.trans m5).then x68).mut nB) (G.less (G.keep k9 ok8) (by omega)) nBM ((hk5.ext G x68).extM G mB (fun z => nb.1 (List.mem_singleton.mp z)) (fun z => nb.2.1 (List.mem_singleton.mp z)) (fun z => nb.2.2 (List.mem_singleton.mp z))) upd_same ?_ (by decide) (by decide) (fun e he => by rw [List.mem_singleton.mp he]; decide)⟩
      exact (EnL.nil.snoc (e := ([35], [])) htq hd08 d8).extM G mB
    · have hrun : runL l 0 (TL.spl [10] 0 [] [35]) [] = .error j := hrun
      rw [run_hash] at hrun
      cases hrun
  · have hemp : xs.isEmpty = false := by
      cases xs with
      | nil => exact absurd (List.length_eq_zero_iff.mp hxl.symm) c
      | cons x xs => rfl
    rw [hemp]
    refine iteF ?_
    exact ⟨_, rfl, q Bk xs es H4 hm4 (G.less ok4 (by omega)) nBM hk4 hB4 hen4 (List.length_pos_iff.mpr c) hel htl⟩
end

/-! ### the own papers -/
/-- the law's book -/
structure BkAt (S0 : Sys) (H : Hp) (B : Addr) (l : Nat) (xs : List V) (es : List En) : Prop where
  at_ : H B = some (.lst xs)
  en : EnL S0 H l xs es
  ok : ∀ e ∈ es, TbOk l e.2 ∧ e.2.length ≤ 119 ∧ txtOk (S e.1) = true
  ln : 0 < es.length ∧ es.length ≤ 38
  dl : 1 ≤ l ∧ l ≤ 16
  tl : ∀ e ∈ es, e.1.length ≤ 300
theorem BkAt.ext {K : PySem.W.Frag} {S0 : Sys} {H H' : Hp} {B : Addr} {l : Nat} {xs : List V} {es : List En} (G : S0.Good K) (h : BkAt S0 H B l xs es) (x : Ext H H') : BkAt S0 H' B l xs es :=
  ⟨x.lst h.at_, h.en.ext G x, h.ok, h.ln, h.dl, h.tl⟩
theorem leaf_ok {l : Nat} (hl : l ≤ 16) (e : En) : WS (leafT l e) ∧ (leafT l e).dep ≤ 19 := by
  refine ⟨.leaf _ (.tab _ (partT_ws l _)), ?_⟩
  have := partT_dep l (srtI e.2)
  show max 0 (max 0 (partT l (srtI e.2)).dep + 1) + 1 ≤ 19
  omega
theorem head_ok {l : Nat} (hl : l ≤ 16) (e : En) : WS (headT l e.2) ∧ (headT l e.2).dep ≤ 18 := by
  refine ⟨.tab _ (partT_ws l _), ?_⟩
  have := partT_dep l (srtI e.2)
  show max 0 (partT l (srtI e.2)).dep + 1 ≤ 18
  omega
theorem path_ok12 {l : Nat} (hl : l ≤ 16) {es : List En} (he : es.length ≤ 38) (size place : Nat) : ∀ t ∈ pathT ((es.map (leafT l)).take size) place, WS t ∧ t.dep ≤ 28 :=
  pathT_mem fun us hu hlu => by
    have hm : ∀ t ∈ us, WS t ∧ t.dep ≤ 19 := fun t ht => by
      obtain ⟨e, _, rfl⟩ := List.mem_map.mp (List.mem_of_mem_take (hu t ht))
      exact leaf_ok hl e
    refine ⟨topT_ws fun t ht => (hm t ht).1, ?_⟩
    have hlu' : us.length ≤ 2 ^ 6 := by
      rw [List.length_take, List.length_map] at hlu
      show us.length ≤ 64
      omega
    have := topT_dep (d := 19) 6 us hlu' fun t ht => (hm t ht).2
    omega
section
variable {P : Program} {w : World} {K : PySem.W.Frag} {mg : Str → Option Value} {base : Heap} {Fam : Sys → Prop}
theorem own_at {S0 : Sys} {H : Hp} {l : Nat} {es : List En} {size place : Nat} {k : Int} {e : En} (G : S0.Good K) (hl : 1 ≤ l ∧ l ≤ 16) (hle : es.length ≤ 38) (he : es[place]? = some e) (hte : TbOk l e.2 ∧ e.2.length ≤ 119 ∧ txtOk (S e.1) = true) {q pq : Addr} {tv wv : V} {ys : List V} (hq : H q = some (.tup [.str (S e.1), tv, .ref pq, wv])) (ht : S0.den H tv (headT l e.2)) (hp : H pq = some (.lst ys)) (hd : DenL S0 H ys (pathT ((es.map (leafT l)).take size) place)) (hpl : place < size) (hs : size ≤ es.length) {H0 : Hp} (hw : WayV S0 H0 H wv (wayT l (srtI e.2) k)) :
    PapAt K S0 H (.ref q) (ownPap l es size place k) := by
  unfold ownPap
  rw [he]
  have hh := head_ok hl.2 e
  have hr := rows_ok hte.1 (srt_perm e.2)
  refine ⟨q, tv, .ref pq, wv, rfl, hq, hte.2.2, ht, hh.1, hh.2, ⟨⟨pq, ys, rfl, hp, hd, ?_, path_ok12 hl.2 hle size place⟩, (fun z => nomatch z)⟩, ?_⟩
  · rw [pathT_len]
    have := plen_le 9 place ((es.map (leafT l)).take size).length (by rw [List.length_take, List.length_map]; show _ ≤ 512; omega)
    omega
  · obtain ⟨wq, o, ev, zs, rfl, g1, _, _, g4, g5, g6⟩ := hw.ex
    have hwl := wayT_len l (srtI e.2) k
    exact ⟨wq, o, ev, zs, rfl, g1, g4, g5, fun t ht => ⟨wayT_ws l _ k t ht, by have := wayT_dep l (srtI e.2) k t ht; omega⟩, by omega, g6⟩
def spLPaper (K : PySem.W.Frag) (Fam : Sys → Prop) : Sp := fun vs H Q _ => ∃ (S0 : Sys) (B : Addr) (l : Nat) (xs : List V) (es : List En) (place size : Nat) (k : Int) (r : Nat), Fam S0 ∧ vs = [.ref S0.f, .ref B, .int (place : Int), .int k, .int (size : Int), .int (l : Int)] ∧ BkAt S0 H B l xs es ∧ place < size ∧ size ≤ es.length ∧ 0 ≤ k ∧ S0.ok H (r + 4200) ∧
  ∀ v H', Ext H H' → S0.ok H' r → PapAt K S0 H' v (ownPap l es size place k) → Q v H'
theorem ok_lpaper {cc : Addr} (T : Txt K mg cc) (A : SlA P w K mg base Fam) : Cal P w K mg base 25 "_law_paper" (spLPaper K Fam) [] := by
  have Z := T.Z
  have C__law_path := ok__law_path T A (ok_law_split T) (ok_law_top T A) 10
  have C__law_way := ok_lawway T A
  refine cal_of T.d__law_paper sc__law_paper (fun vs H Q E h => ?_) (fun f cdv A' outer s H vs Q E hr h => ?_)
  · obtain ⟨S0, B, l, xs, es, place, size, k, r, _, rfl, _⟩ := h
    rfl
  obtain ⟨S0, B, l, xs, es, place, size, k, r, hF, rfl, hB, hpl, hsz, hk, hok, q⟩ := h
  have hu := hu_of hr
  have G := A.good hF
  have e16 : sizeLine = 16777216 := sizeLine_eq
  have hxl := hB.en.len
  have hl38 := hB.ln
  refine ⟨_, (pss_cons (ps_setLc (i := 7) (own := [("_law_entry", 6)]) (g := gName 6) (tt := tYes) rfl sc__law_paper.nd rfl rfl (sw_true rfl rfl rfl (by decide +kernel)) (pi_list (pe_slice sl_list (pv 1) po_none (po_some (pv 4)))) (blkOk_by (N := N__law_paper) (sc := defScope s__law_paper) (by decide +kernel)) (fun _ _ _ _ _ => (pg_name (i := 6) sc__law_paper.nd rfl (Or.inl rfl))) (fun _ _ _ _ _ => pts_nil) (fun _ _ _ _ _ => (pe_sl (i := 0) A.held hr (by omega) rfl (by first | exact Or.inl rfl | exact Or.inr (Or.inl rfl) | exact Or.inr (Or.inr rfl)) (pa_cons pe_str (pa_cons (pe_ix (r := rIxT K) ix_tup (pv 6) pe_int (fun _ _ => rfl)) (pa_cons (pe_ix (r := rIxT K) ix_tup (pv 6) pe_int (fun _ _ => rfl)) pa_nil))))))
  (pss_cons (ps_set (i := 6) sc__law_paper.nd rfl (Or.inr rfl) (pe_ix ix_list (pv 1) (pv 2) (fun _ _ => rfl)))
  (pss_cons (ps_setLc (i := 8) (own := [("_law_one_here", 9)]) (g := gName 9) (tt := tYes) rfl sc__law_paper.nd rfl rfl (sw_true rfl rfl rfl (by decide +kernel)) (pi_list (pe_callB (call_sortedDIN rfl) rfl Z.sorted (by decide +kernel) (pa_cons (pe_ix ix_tup (pv 6) pe_int (fun _ _ => rfl)) pa_nil))) (blkOk_by (N := N__law_paper) (sc := defScope s__law_paper) (by decide +kernel)) (fun _ _ _ _ _ => (pg_name (i := 9) sc__law_paper.nd rfl (Or.inl rfl))) (fun _ _ _ _ _ => pts_nil) (fun _ _ _ _ _ => (pe_tup (pa_cons (pv 9) (pa_cons (pe_dget hu (pe_ix (r := rIxT K) ix_tup (pv 6) pe_int (fun _ _ => rfl)) (pv 9) (fun _ _ => rfl)) pa_nil)))))
  (pss_one (ps_ret (pe_tup (pa_cons (pe_ix ix_tup (pv 6) pe_int (fun _ _ => rfl)) (pa_cons (pe_ix ix_tup (pv 6) pe_int (fun _ _ => rfl)) (pa_cons (pe_c C__law_path hr (by omega) rfl (pa_cons (pv 0) (pa_cons (pv 7) (pa_cons (pv 2) pa_nil)))) (pa_cons (pe_c C__law_way hr (by omega) rfl (pa_cons (pv 0) (pa_cons (pv 8) (pa_cons (pv 5) (pa_cons (pv 3) pa_nil))))) pa_nil)))))))))), ?_⟩
  refine ⟨_, rfl, _, rfl, (size : Int), rfl, B, xs, rfl, SqL.of hB.at_, fun p1 np1 => ?_⟩
  rw [cut_to]
  have x1 := Ext.new (o := .lst (xs.take size)) np1
  have k1 := Kp.new (o := .lst (xs.take size)) np1
  have h1 : upd H p1 (.lst (xs.take size)) p1 = some (.lst (xs.take size)) := upd_same
  generalize upd H p1 (.lst (xs.take size)) = H1 at x1 k1 h1 ⊢
  have hB1 := hB.ext G x1
  have ok1 := G.keep k1 hok
  refine ⟨p1, rfl, ⟨_, SqL.of h1⟩, fun D nD => ?_⟩
  refine lc_list (K := K) (a := p1) (xs := xs.take size) (fun i H' => ∃ ys, Ext H1 H' ∧ H' D = some (.lst ys) ∧ S0.ok H' (r + 4200 - i) ∧ DenL S0 H' ys ((es.take i).map (leafT l)))
    ⟨[], Ext.new nD, upd_same, G.keep (Kp.new nD) ok1, DenL.nil⟩ (fun i H' _ ⟨_, x, _⟩ => SqL.of (x.lst h1)) ?_ ?_
  · rintro i w H' hi ⟨ys, x, hD, hok', hd⟩
    have hil : i < size ∧ i < es.length := by
      have := (List.getElem?_eq_some_iff.mp hi).1
      rw [List.length_take] at this
      omega
    rw [List.getElem?_take_of_lt hil.1] at hi
    have hei : es[i]? = some (es[i]'hil.2) := List.getElem?_eq_getElem _
    have hmem := List.getElem_mem hil.2
    obtain ⟨t, dh, hv, rfl, ht, _, hden⟩ := (hB1.en.ext G x).at_ i w _ hi hei
    generalize es[i]'hil.2 = e at hei hmem ht hden
    have hr1 : r + 4200 - i = (r + 4200 - (i + 1)) + 1 := by omega
    refine ⟨rfl, S0, _, hF, rfl, hok', _, rfl, t, _, 0, _, rfl, rfl, SqT.of ht, rfl, _, rfl, t, _, 2, _, rfl, rfl, SqT.of ht, rfl, r + 4200 - (i + 1), "leaf", .str (S e.1), headT l e.2, _, _, rfl, by decide +kernel, by rw [← hr1]; exact hok', G.str _ hok' (hB.ok e hmem).2.2, hden, fun u H2 x2 ok2 du => ?_⟩
    have hl2 := hd.len
    rw [List.length_map, List.length_take] at hl2
    have hD2 := x2.lst hD
    refine ⟨ys, hD2, by omega, ys ++ [u], (x.trans x2).mut nD, upd_same, G.keep (Kp.lst hD2) ok2, ?_⟩
    rw [List.take_succ, hei, List.map_append]
    exact (hd.mono G (x2.gr.trans (Kp.lst hD2).gr)).append (DenL.one (G.mono (Kp.lst hD2).gr du))
  rintro H2 ⟨ls, x2, hD, ok2, hd⟩
  have hls : (xs.take size).length = size := by rw [List.length_take]; omega
  rw [hls] at ok2 hd
  rw [List.map_take] at hd
  have hB2 := hB1.ext G x2
  have hpe : place < es.length := by omega
  have hx : xs[place]? = some (xs[place]'(by omega)) := List.getElem?_eq_getElem _
  have he : es[place]? = some (es[place]'hpe) := List.getElem?_eq_getElem _
  have hte := hB.ok _ (List.getElem_mem hpe)
  obtain ⟨te, dh, hv, g1, g2, g3, g4⟩ := hB2.en.at_ _ _ _ hx he
  rw [g1] at hx
  generalize es[place]'hpe = e at he hte g2 g3 g4
  refine ⟨_, rfl, _, rfl, B, xs, _, .ref te, rfl, rfl, SqL.of hB2.at_, atI_nat hx, ?_⟩
  have ek : (convT e.2).map (·.1) = (e.2.map (·.1)).map Sum.inl := by unfold convT; rw [List.map_map, List.map_map]; rfl
  refine ⟨_, rfl, te, _, 1, .ref dh, rfl, rfl, SqT.of g2, rfl, dh, convT e.2, e.2.map (·.1), rfl, .inl g3, ek, by rw [List.length_map]; omega, fun ks a pm pw na => ?_⟩
  have x3 := Ext.new (o := .lst (ks.map V.int)) na
  have k3 := Kp.new (o := .lst (ks.map V.int)) na
  have ha : upd H2 a (.lst (ks.map V.int)) a = some (.lst (ks.map V.int)) := upd_same
  generalize upd H2 a (.lst (ks.map V.int)) = H3 at x3 k3 ha ⊢
  have g23 := x3.tup g2
  have g33 := x3.dK g3
  have ok3 := G.keep k3 ok2
  refine ⟨a, rfl, ⟨_, SqL.of ha⟩, fun R nR => ?_⟩
  have hrow : ∀ x ∈ ks, ∃ t, getI e.2 x = some t ∧ (x, t) ∈ e.2 := fun x hx => getI_mem (pm.mem_iff.mp hx)
  refine lc_list (K := K) (a := a) (xs := ks.map V.int) (fun i H' => ∃ ys, Ext H3 H' ∧ Kp H3 H' ∧ H' R = some (.lst ys) ∧ KvL H' ys ((ks.take i).map fun x => (x, (getI e.2 x).getD ""))) ⟨[], Ext.new nR, Kp.new nR, upd_same, KvL.nil⟩ (fun i H' _ ⟨_, x, _⟩ => SqL.of (x.lst ha)) ?_ ?_
  · rintro i y H' hi ⟨ys, x, kx, hR, hy⟩
    rw [List.getElem?_map] at hi
    obtain ⟨z, hz, rfl⟩ := Option.map_eq_some_iff.mp hi
    obtain ⟨t, ht1, ht2⟩ := hrow z (List.mem_of_getElem? hz)
    have hg : DGet H' dh (V.int z) (some (V.str t)) := by
      have g := DGet.k (k := .inl z) (x.dK g33)
      rw [conv_get, ht1] at g
      exact g
    refine ⟨rfl, _, rfl, _, rfl, te, _, 1, _, rfl, rfl, SqT.of (x.tup g23), rfl, _, rfl, dh, .str t, rfl, hg, by show 2 ≤ sizeLine; decide, fun q2 nq2 => ?_⟩
    have u1 := Ext.new (o := .tup [.int z, .str t]) nq2
    have j1 := Kp.new (o := .tup [.int z, .str t]) nq2
    have hR2 := u1.lst hR
    have nR2 : q2 ≠ R := fun e => by rw [e, hR] at nq2; cases nq2
    refine ⟨ys, hR2, ?_, ys ++ [.ref q2], (x.trans u1).mut nR, (kx.trans j1).trans (Kp.lst hR2), upd_same, ?_⟩
    · have e1 := hy.len
      rw [List.length_map, List.length_take] at e1
      have e2 := pm.length_eq
      rw [List.length_map] at e2
      omega
    · rw [List.take_succ, hz, List.map_append]
      have ex : (getI e.2 z).getD "" = t := by rw [ht1]; rfl
      show KvL _ _ (_ ++ [(z, (getI e.2 z).getD "")])
      rw [ex]
      exact (hy.gr (j1.trans (Kp.lst hR2)).gr).snoc (by rw [upd_ne nR2]; exact upd_same) (hte.1.tx _ ht2)
  rintro H4 ⟨rs, x4, k4, hR, hy⟩
  rw [List.length_map, List.take_length] at hy
  have pr := keys_rows hte.1.nd pm
  have sr : (ks.map fun x => (x, (getI e.2 x).getD "")).Pairwise fun a b => a.1 ≤ b.1 := List.pairwise_map.mpr pw
  rw [srt_eq hte.1 (List.Perm.refl _) pr sr] at hy
  have pr := srt_perm e.2
  have rl := pr.length_eq
  have cp := costP_le hB.dl.2 (show e.2.length ≤ 120 by omega)
  have x24 := x3.trans x4
  have g24 := x24.tup g2
  have ct := costT_le (((es.map (leafT l)).take size)).length
  have lt : ((es.map (leafT l)).take size).length = size := by rw [List.length_take, List.length_map]; omega
  rw [lt] at ct
  refine ⟨_, rfl, te, _, 0, _, rfl, rfl, SqT.of g24, rfl, _, rfl, te, _, 2, _, rfl, rfl, SqT.of g24, rfl, _, rfl, _, rfl, _, rfl, S0, D, ls, _, place, r + 4000, hF, rfl, SqL.of (x24.lst hD), hd.mono G x24.gr, by decide, by rw [lt]; show _ ≤ 512; omega, by omega, by omega, G.less (G.keep (k3.trans k4) ok2) (by rw [lt]; omega), fun pq ps H5 x5 npq hpq ok5 d5 => ?_⟩
  refine ⟨_, rfl, _, rfl, _, rfl, _, rfl, S0, R, rs, srtI e.2, l, k, r, hF, rfl, x5.lst hR, hy.gr x5.gr, rows_ok hte.1 pr, by have := hB.dl.2; omega, by omega, hk, by rw [rl]; exact G.less ok5 (by omega), fun wv H6 x6 ok6 dw => ?_⟩
  refine ⟨by show 4 ≤ sizeLine; decide, fun q4 nq4 => ?_⟩
  have x7 := Ext.new (o := .tup [.str (S e.1), hv, .ref pq, wv]) nq4
  have x67 := x6.trans x7
  refine q _ _ ((((x1.trans x2).trans x24).trans x5).trans x67) (G.keep (Kp.new nq4) ok6) ?_
  exact own_at G hB.dl hl38.2 he hte upd_same (G.mono ((x24.trans x5).trans x67).gr g4) (x67.lst hpq) (d5.mono G x67.gr) hpl hsz (dw.ext G x7)
end

/-! ### a list of tops bent -/
/-- a list of tops, or a tuple of them -/
def LB (S0 : Sys) (H : Hp) (v : V) (n : Nat) : Option (List Tm) → Prop
  | some ps => ∃ a ys, v = .ref a ∧ H a = some (.lst ys) ∧ DenL S0 H ys ps ∧ ps.length ≤ 20 ∧ ∀ t ∈ ps, WS t ∧ t.dep ≤ n
  | none => ∃ q ys ps, v = .ref q ∧ H q = some (.tup ys) ∧ DenL S0 H ys ps ∧ ∀ t ∈ ps, WS t ∧ t.dep ≤ n
section
variable {K : PySem.W.Frag} {S0 : Sys} {H H' : Hp} {v : V} {n : Nat} {m : Option (List Tm)}
theorem LB.ext (G : S0.Good K) (h : LB S0 H v n m) (x : Ext H H') : LB S0 H' v n m := by
  cases m with
  | some ps =>
    obtain ⟨a, ys, rfl, g1, g2, g3, g4⟩ := h
    exact ⟨a, ys, rfl, x.lst g1, g2.mono G x.gr, g3, g4⟩
  | none =>
    obtain ⟨q, ys, ps, rfl, g1, g2, g3⟩ := h
    exact ⟨q, ys, ps, rfl, x.tup g1, g2.mono G x.gr, g3⟩
theorem tup_dat (G : S0.Good K) {q : Addr} {ys : List V} {ps : List Tm} (hq : H q = some (.tup ys)) (hd : DenL S0 H ys ps) (hn : n ≤ 28) (hp : ∀ t ∈ ps, WS t ∧ t.dep ≤ n) : ∃ ds, Dp K H (.ref q) (.tuple ds) ∧ PyData.canLayAll0 ds = true ∧ PyData.depthAll ds ≤ 28 := by
  obtain ⟨ds, m1, _, m3, m4⟩ := DenL.same (K := K) (n := 28) G hd hd fun t ht => Nat.le_trans (hp t ht).2 hn
  exact ⟨ds, .tup (SqT.of hq) m1, m3, m4⟩
theorem LB.path (G : S0.Good K) (h : LB S0 H v 28 m) : PathAt K S0 H v m := by
  cases m with
  | some ps =>
    obtain ⟨a, ys, rfl, g1, g2, g3, g4⟩ := h
    exact ⟨⟨a, ys, rfl, g1, g2, by omega, g4⟩, (fun z => nomatch z)⟩
  | none =>
    obtain ⟨q, ys, ps, rfl, g1, g2, g3⟩ := h
    refine ⟨odd_tup G g1 g2 g3, fun _ H' x => ?_⟩
    obtain ⟨ds, e1, e2, e3⟩ := tup_dat (K := K) (n := 28) G (x.tup g1) (g2.mono G x.gr) (Nat.le_refl _) g3
    exact ⟨_, e1, e2, by show PyData.depthAll ds + 1 ≤ 50; omega, fun a z => nomatch z⟩
/-- a way of a list of tops and an end -/
theorem LB.way (G : S0.Good K) (h : LB S0 H v 20 m) {e : V} {em : EndM} (he : EndAt K H e em) {wq : Addr} (hw : H wq = some (.tup [v, e])) (hed : OddD K H e fun d => d.depth ≤ 40) : WayAt K S0 H (.ref wq) (m.map fun os => (os, em)) := by
  cases m with
  | some ps =>
    obtain ⟨a, ys, rfl, g1, g2, g3, g4⟩ := h
    exact ⟨wq, a, e, ys, rfl, hw, g1, g2, g4, g3, he⟩
  | none =>
    obtain ⟨q, ys, ps, rfl, g1, g2, g3⟩ := h
    refine ⟨.inr ⟨wq, _, rfl, hw, .inr ⟨.ref q, e, rfl, fun H' x => ⟨.type "tuple", .base (.tup (x.tup g1)), kit_ty (by decide +kernel)⟩⟩⟩, fun H' x => ?_⟩
    obtain ⟨ds, e1, e2, e3⟩ := tup_dat (K := K) (n := 20) G (x.tup g1) (g2.mono G x.gr) (by decide) g3
    obtain ⟨de, f1, f2, f3, f4⟩ := hed H' x
    refine ⟨.tuple [.tuple ds, de], .tup (SqT.of (x.tup hw)) (.cons e1 (.cons f1 .nil)), ?_, ?_, fun a b z => nomatch z⟩
    · show (PyData.canLayAll0 ds && (de.canLay0 && true)) = true
      rw [e2, f2]
      rfl
    · show max (PyData.depthAll ds + 1) (max de.depth 0) + 1 ≤ 50
      omega
end
section
variable {P : Program} {w : World} {K : PySem.W.Frag} {mg : Str → Option Value} {base : Heap} {Fam : Sys → Prop}
def spListBent (K : PySem.W.Frag) (Fam : Sys → Prop) : Sp := fun vs H Q _ => ∃ (S0 : Sys) (a : Addr) (ys : List V) (ps : List Tm) (c : Int) (m r : Nat), Fam S0 ∧ vs = [.ref S0.f, .ref a, .int c] ∧ H a = some (.lst ys) ∧ DenL S0 H ys ps ∧ ps.length ≤ 18 ∧ 1 ≤ m ∧ (∀ t ∈ ps, WS t ∧ t.dep ≤ m) ∧ S0.ok H (r + 2) ∧
  ∀ v pp H', Ext H H' → S0.ok H' r → LB S0 H' v m pp → Q v H'
theorem ok_listbent {cc : Addr} (T : Txt K mg cc) (A : SlA P w K mg base Fam) : Cal P w K mg base 2 "_law_list_bent" (spListBent K Fam) [] := by
  have Z := T.Z
  have C__law_draw := ok_draw (P := P) (w := w) (base := base) T
  refine cal_of T.d__law_list_bent sc__law_list_bent (fun vs H Q E h => ?_) (fun f cdv A' outer s H vs Q E hr h => ?_)
  · obtain ⟨S0, a, ys, ps, c, m, r, _, rfl, _⟩ := h
    rfl
  obtain ⟨S0, a, ys, ps, c, m, r, hF, rfl, ha, hd, hl, hm, hps, hok, q⟩ := h
  have G := A.good hF
  have hyl := hd.len
  have e16 : sizeLine = 16777216 := sizeLine_eq
  refine ⟨_, (pss_cons (ps_set (i := 3) sc__law_list_bent.nd rfl (Or.inl rfl) (pe_c C__law_draw hr (by omega) rfl (pa_cons (pv 2) (pa_cons pe_int (pa_cons pe_int pa_nil)))))
  (pss_cons (ps_set (i := 4) sc__law_list_bent.nd rfl (Or.inl rfl) (pe_c C__law_draw hr (by omega) rfl (pa_cons (pv 2) (pa_cons pe_int (pa_cons (pe_op op_add (pe_callB call_len_seq rfl Z.len PySem.boot_len (pa_cons (pv 1) pa_nil)) pe_int) pa_nil)))))
  (pss_cons (ps_if (pt_cmpR op_eq (pv 3) pe_int (nomark _)) (pss_one (ps_ret (pe_op op_cat (pe_op op_cat (pe_slice sl_list (pv 1) po_none (po_some (pv 4))) (pe_lst (pa_cons (pe_sl (i := 0) A.held hr (by omega) rfl (by first | exact Or.inl rfl | exact Or.inr (Or.inl rfl) | exact Or.inr (Or.inr rfl)) (pa_cons pe_str (pa_cons pe_int (pa_cons pe_int pa_nil)))) pa_nil))) (pe_slice sl_list (pv 1) (po_some (pv 4)) po_none)))) pss_nil)
  (pss_cons (ps_if (pt_cmpR op_eq (pv 3) pe_int (nomark _)) (pss_one (ps_ret (pe_op op_cat (pe_slice sl_list (pv 1) po_none (po_some (pv 4))) (pe_slice sl_list (pv 1) (po_some (pe_op op_add (pv 4) pe_int)) po_none)))) pss_nil)
  (pss_cons (ps_if (pt_cmpR op_eq (pv 3) pe_int (nomark _)) (pss_one (ps_ret (pe_op op_cat (pe_op op_cat (pe_slice sl_list (pv 1) po_none (po_some (pv 4))) (pe_lst (pa_cons (pe_sl (i := 0) A.held hr (by omega) rfl (by first | exact Or.inl rfl | exact Or.inr (Or.inl rfl) | exact Or.inr (Or.inr rfl)) (pa_cons pe_str (pa_cons pe_int (pa_cons pe_str pa_nil)))) pa_nil))) (pe_slice sl_list (pv 1) (po_some (pe_op op_add (pv 4) pe_int)) po_none)))) pss_nil)
  (pss_one (ps_ret (pe_callTy call_tuple_of rfl Z.tuple (by decide +kernel) (pa_cons (pv 1) pa_nil))))))))), ?_⟩
  refine ⟨_, rfl, _, _, _, rfl, by decide, by decide, by decide, fun z1 H1 _ _ s1 => ?_⟩
  refine ⟨_, rfl, _, rfl, a, _, rfl, .inl (SqL.of (s1 _ _ ha)), _, _, rfl, rfl, _, _, _, rfl, by decide, by decide, by omega, fun z2 H2 z20 z21 s2 => ?_⟩
  obtain ⟨n, rfl⟩ := Int.eq_ofNat_of_zero_le z20
  have x1 := Ext.of_same (s1.trans s2)
  have ok1 := G.keep (kp_same (s1.trans s2)) hok
  have ha1 := x1.lst ha
  have hd1 := hd.mono G x1.gr
  have e1 : (n : Int) + 1 = ((n + 1 : Nat) : Int) := by omega
  refine ⟨_, rfl, rfl, _, rfl, ite2 (fun _ => ?_) (fun _ => ?_)⟩
  · refine ⟨_, rfl, _, rfl, (n : Int), rfl, a, ys, rfl, SqL.of ha1, fun p1 np1 => ?_⟩
    rw [cut_to]
    have u1 := Ext.new (o := .lst (ys.take n)) np1
    have k1 := Kp.new (o := .lst (ys.take n)) np1
    have h1 : upd H2 p1 (.lst (ys.take n)) p1 = some (.lst (ys.take n)) := upd_same
    generalize upd H2 p1 (.lst (ys.take n)) = H3 at u1 k1 h1 ⊢
    have ok3 := G.keep k1 ok1
    refine ⟨S0, r + 2, hF, rfl, ok3, r + 1, "none", .int 0, .int 0, _, _, rfl, by decide +kernel, ok3, G.int _ ok3, G.int _ ok3, fun nv H4 x4 ok4 dn => ⟨by show 1 ≤ sizeLine; decide, fun p2 np2 => ?_⟩⟩
    have u2 := x4.trans (Ext.new (o := .lst [nv]) np2)
    have k2 := Kp.new (o := .lst [nv]) np2
    have h2 : upd H4 p2 (.lst [nv]) p2 = some (.lst [nv]) := upd_same
    have h12 := u2.lst h1
    have dn2 := G.mono k2.gr dn
    generalize upd H4 p2 (.lst [nv]) = H5 at u2 k2 h2 h12 dn2 ⊢
    refine ⟨p1, p2, _, _, rfl, rfl, h12, h2, by rw [List.length_take]; show _ + 1 ≤ _; omega, fun p3 np3 => ?_⟩
    have u3 := Ext.new (o := .lst (ys.take n ++ [nv])) np3
    have k3 := Kp.new (o := .lst (ys.take n ++ [nv])) np3
    have h3 : upd H5 p3 (.lst (ys.take n ++ [nv])) p3 = some (.lst (ys.take n ++ [nv])) := upd_same
    have dn3 := G.mono k3.gr dn2
    generalize upd H5 p3 (.lst (ys.take n ++ [nv])) = H6 at u3 k3 h3 dn3 ⊢
    have u13 := (u1.trans u2).trans u3
    refine ⟨_, rfl, _, rfl, (n : Int), rfl, a, ys, rfl, SqL.of (u13.lst ha1), fun p4 np4 => ?_⟩
    rw [cut_from]
    have u4 := Ext.new (o := .lst (ys.drop n)) np4
    have k4 := Kp.new (o := .lst (ys.drop n)) np4
    have h4 : upd H6 p4 (.lst (ys.drop n)) p4 = some (.lst (ys.drop n)) := upd_same
    have h34 := u4.lst h3
    have dn4 := G.mono k4.gr dn3
    generalize upd H6 p4 (.lst (ys.drop n)) = H7 at u4 k4 h4 h34 dn4 ⊢
    refine ⟨p3, p4, _, _, rfl, rfl, h34, h4, by rw [List.length_append, List.length_take, List.length_drop]; show _ + 1 + _ ≤ _; omega, fun p5 np5 => ?_⟩
    have u5 := Ext.new (o := .lst (ys.take n ++ [nv] ++ ys.drop n)) np5
    have k5 := Kp.new (o := .lst (ys.take n ++ [nv] ++ ys.drop n)) np5
    have dd : DenL S0 H7 (ys.take n ++ [nv] ++ ys.drop n) (ps.take n ++ [nonT] ++ ps.drop n) := (((hd1.take n).mono G (u13.trans u4).gr).append (DenL.one dn4)).append ((hd1.drop n).mono G (u13.trans u4).gr)
    refine q _ (some (ps.take n ++ [nonT] ++ ps.drop n)) _ (((x1.trans u13).trans u4).trans u5) (G.less (G.keep (((k2.trans k3).trans k4).trans k5) ok4) (by omega)) ⟨p5, _, rfl, upd_same, dd.mono G u5.gr, by rw [List.length_append, List.length_append, List.length_take, List.length_drop]; show _ + 1 + _ ≤ 20; omega, fun t ht => ?_⟩
    rcases List.mem_append.mp ht with h | h
    · rcases List.mem_append.mp h with h | h
      · exact hps t (List.mem_of_mem_take h)
      · rw [List.mem_singleton.mp h]
        exact ⟨.non, hm⟩
    · exact hps t (List.mem_of_mem_drop h)
  refine ⟨_, rfl, rfl, _, rfl, ite2 (fun _ => ?_) (fun _ => ?_)⟩
  · refine ⟨_, rfl, _, rfl, (n : Int), rfl, a, ys, rfl, SqL.of ha1, fun p1 np1 => ?_⟩
    rw [cut_to]
    have u1 := Ext.new (o := .lst (ys.take n)) np1
    have k1 := Kp.new (o := .lst (ys.take n)) np1
    have h1 : upd H2 p1 (.lst (ys.take n)) p1 = some (.lst (ys.take n)) := upd_same
    generalize upd H2 p1 (.lst (ys.take n)) = H3 at u1 k1 h1 ⊢
    refine ⟨_, rfl, _, rfl, _, 1, rfl, rfl, ((n + 1 : Nat) : Int), by rw [← e1], a, ys, rfl, SqL.of (u1.lst ha1), fun p2 np2 => ?_⟩
    rw [cut_from]
    have u2 := Ext.new (o := .lst (ys.drop (n + 1))) np2
    have k2 := Kp.new (o := .lst (ys.drop (n + 1))) np2
    have h2 : upd H3 p2 (.lst (ys.drop (n + 1))) p2 = some (.lst (ys.drop (n + 1))) := upd_same
    have h12 := u2.lst h1
    generalize upd H3 p2 (.lst (ys.drop (n + 1))) = H4 at u2 k2 h2 h12 ⊢
    refine ⟨p1, p2, _, _, rfl, rfl, h12, h2, by rw [List.length_take, List.length_drop]; omega, fun p3 np3 => ?_⟩
    have u3 := Ext.new (o := .lst (ys.take n ++ ys.drop (n + 1))) np3
    have k3 := Kp.new (o := .lst (ys.take n ++ ys.drop (n + 1))) np3
    refine q _ (some (ps.take n ++ ps.drop (n + 1))) _ (((x1.trans u1).trans u2).trans u3) (G.less (G.keep ((k1.trans k2).trans k3) ok1) (by omega)) ⟨p3, _, rfl, upd_same, ((hd1.take _).append (hd1.drop _)).mono G ((u1.trans u2).trans u3).gr, by rw [List.length_append, List.length_take, List.length_drop]; omega, fun t ht => ?_⟩
    rcases List.mem_append.mp ht with h | h
    · exact hps t (List.mem_of_mem_take h)
    · exact hps t (List.mem_of_mem_drop h)
  refine ⟨_, rfl, rfl, _, rfl, ite2 (fun _ => ?_) (fun _ => ?_)⟩
  · refine ⟨_, rfl, _, rfl, (n : Int), rfl, a, ys, rfl, SqL.of ha1, fun p1 np1 => ?_⟩
    rw [cut_to]
    have u1 := Ext.new (o := .lst (ys.take n)) np1
    have k1 := Kp.new (o := .lst (ys.take n)) np1
    have h1 : upd H2 p1 (.lst (ys.take n)) p1 = some (.lst (ys.take n)) := upd_same
    generalize upd H2 p1 (.lst (ys.take n)) = H3 at u1 k1 h1 ⊢
    have ok3 := G.keep k1 ok1
    refine ⟨S0, r + 2, hF, rfl, ok3, r + 1, "row", .int 0, .str "", _, _, rfl, by decide +kernel, ok3, G.int _ ok3, G.str _ ok3 (by decide +kernel), fun nv H4 x4 ok4 dn => ⟨by show 1 ≤ sizeLine; decide, fun p2 np2 => ?_⟩⟩
    have u2 := x4.trans (Ext.new (o := .lst [nv]) np2)
    have k2 := Kp.new (o := .lst [nv]) np2
    have h2 : upd H4 p2 (.lst [nv]) p2 = some (.lst [nv]) := upd_same
    have h12 := u2.lst h1
    have dn2 := G.mono k2.gr dn
    generalize upd H4 p2 (.lst [nv]) = H5 at u2 k2 h2 h12 dn2 ⊢
    refine ⟨p1, p2, _, _, rfl, rfl, h12, h2, by rw [List.length_take]; show _ + 1 ≤ _; omega, fun p3 np3 => ?_⟩
    have u3 := Ext.new (o := .lst (ys.take n ++ [nv])) np3
    have k3 := Kp.new (o := .lst (ys.take n ++ [nv])) np3
    have h3 : upd H5 p3 (.lst (ys.take n ++ [nv])) p3 = some (.lst (ys.take n ++ [nv])) := upd_same
    have dn3 := G.mono k3.gr dn2
    generalize upd H5 p3 (.lst (ys.take n ++ [nv])) = H6 at u3 k3 h3 dn3 ⊢
    have u13 := (u1.trans u2).trans u3
    refine ⟨_, rfl, _, rfl, _, 1, rfl, rfl, ((n + 1 : Nat) : Int), by rw [← e1], a, ys, rfl, SqL.of (u13.lst ha1), fun p4 np4 => ?_⟩
    rw [cut_from]
    have u4 := Ext.new (o := .lst (ys.drop (n + 1))) np4
    have k4 := Kp.new (o := .lst (ys.drop (n + 1))) np4
    have h4 : upd H6 p4 (.lst (ys.drop (n + 1))) p4 = some (.lst (ys.drop (n + 1))) := upd_same
    have h34 := u4.lst h3
    have dn4 := G.mono k4.gr dn3
    generalize upd H6 p4 (.lst (ys.drop (n + 1))) = H7 at u4 k4 h4 h34 dn4 ⊢
    refine ⟨p3, p4, _, _, rfl, rfl, h34, h4, by rw [List.length_append, List.length_take, List.length_drop]; show _ + 1 + _ ≤ _; omega, fun p5 np5 => ?_⟩
    have u5 := Ext.new (o := .lst (ys.take n ++ [nv] ++ ys.drop (n + 1))) np5
    have k5 := Kp.new (o := .lst (ys.take n ++ [nv] ++ ys.drop (n + 1))) np5
    have dd : DenL S0 H7 (ys.take n ++ [nv] ++ ys.drop (n + 1)) (ps.take n ++ [rowT 0 ""] ++ ps.drop (n + 1)) := (((hd1.take n).mono G (u13.trans u4).gr).append (DenL.one dn4)).append ((hd1.drop (n + 1)).mono G (u13.trans u4).gr)
    refine q _ (some (ps.take n ++ [rowT 0 ""] ++ ps.drop (n + 1))) _ (((x1.trans u13).trans u4).trans u5) (G.less (G.keep (((k2.trans k3).trans k4).trans k5) ok4) (by omega)) ⟨p5, _, rfl, upd_same, dd.mono G u5.gr, by rw [List.length_append, List.length_append, List.length_take, List.length_drop]; show _ + 1 + _ ≤ 20; omega, fun t ht => ?_⟩
    rcases List.mem_append.mp ht with h | h
    · rcases List.mem_append.mp h with h | h
      · exact hps t (List.mem_of_mem_take h)
      · rw [List.mem_singleton.mp h]
        exact ⟨.row _ _, hm⟩
    · exact hps t (List.mem_of_mem_drop h)
  · refine ⟨_, rfl, a, ys, rfl, .inl ⟨SqL.of ha1, fun p1 np1 => ?_⟩⟩
    have k1 := Kp.new (o := .tup ys) np1
    exact q _ none _ (x1.trans (Ext.new np1)) (G.less (G.keep k1 ok1) (by omega)) ⟨p1, ys, ps, rfl, upd_same, hd1.mono G k1.gr, hps⟩
end

/-! ### a paper bent -/
section
variable {K : PySem.W.Frag} {S0 : Sys} {H H' : Hp}
/-- ends have data -/
theorem end_dat {e : V} {rr : List (Int × Str)} (h : EndV H e rr) : OddD K H e fun d => d.depth ≤ 40 := fun H' x => by
  rcases h with ⟨_, rfl⟩ | ⟨y, qe, _, rfl, g, t⟩
  · exact ⟨.none, .non, rfl, Nat.zero_le _, Nat.zero_le _⟩
  · refine ⟨.tuple [.int y.1, .str y.2], .tup (SqT.of (x.tup g)) (.cons (.int _) (.cons (.str _) .nil)), ?_, by show max 0 (max 0 0) + 1 ≤ 50; decide, by show max 0 (max 0 0) + 1 ≤ 40; decide⟩
    show (true && (txtOk y.2 && true)) = true
    rw [t]
    rfl
theorem txt_app {x y : Str} (h : txtOk x = true) (h' : txtOk y = true) : txtOk (x ++ y) = true := by
  show (x.cps ++ y.cps).all _ = true
  rw [Array.all_append]
  exact Bool.and_eq_true_iff.mpr ⟨h, h'⟩
theorem odd_str1 {q : Addr} (h : H q = some (.tup [.str "a"])) : EndAt K H (.ref q) none ∧ OddD K H (.ref q) fun d => d.depth ≤ 40 := by
  have dat : ∀ H', Ext H H' → Dp K H' (.ref q) (.tuple [.str "a"]) := fun H' x => .tup (SqT.of (x.tup h)) (.cons (.str _) .nil)
  exact ⟨⟨(fun z => nomatch z), .inr ⟨q, _, rfl, h, by decide⟩, fun H' x => ⟨_, dat H' x, by decide +kernel, by decide +kernel, (fun z => nomatch z), fun a b z => nomatch z⟩⟩, fun H' x => ⟨_, dat H' x, by decide +kernel, by decide +kernel, by decide +kernel⟩⟩
theorem odd_five : EndAt K H (.int 5) none ∧ OddD K H (.int 5) fun d => d.depth ≤ 40 :=
  ⟨⟨(fun z => nomatch z), .inl fun H' x => ⟨.type "int", .base (.int _), kit_ty (by decide +kernel)⟩, fun H' x => ⟨.int 5, .int _, rfl, Nat.zero_le _, (fun z => nomatch z), fun a b z => nomatch z⟩⟩, fun H' x => ⟨.int 5, .int _, rfl, Nat.zero_le _, Nat.zero_le _⟩⟩
end
section
variable {P : Program} {w : World} {K : PySem.W.Frag} {mg : Str → Option Value} {base : Heap} {Fam : Sys → Prop}
def spBent12 (K : PySem.W.Frag) (Fam : Sys → Prop) : Sp := fun vs H Q _ => ∃ (S0 : Sys) (v : V) (x : Str) (tt : Tm) (ps os : List Tm) (rr : List (Int × Str)) (c : Int) (r : Nat), Fam S0 ∧ vs = [.ref S0.f, v, .int c] ∧ PapAt K S0 H v (some (x, tt, some ps, some (os, some rr))) ∧ ps.length ≤ 18 ∧ os.length ≤ 18 ∧ x.length ≤ 1000 ∧ S0.ok H (r + 4) ∧
  ∀ u p H', Ext H H' → S0.ok H' r → PapAt K S0 H' u p → Q u H'
theorem ok_bent12 {cc : Addr} (T : Txt K mg cc) (A : SlA P w K mg base Fam) (I3 : ∀ {S}, Fam S → S.Inj K) : Cal P w K mg base 3 "_law_bent" (spBent12 K Fam) [] := by
  have Z := T.Z
  have C__law_draw := ok_draw (P := P) (w := w) (base := base) T
  have C__law_list_bent := ok_listbent T A
  refine cal_of T.d__law_bent sc__law_bent (fun vs H Q E h => ?_) (fun f cdv A' outer s H vs Q E hr h => ?_)
  · obtain ⟨S0, v, x, tt, ps, os, rr, c, r, _, rfl, _⟩ := h
    rfl
  obtain ⟨S0, v, x, tt, ps, os, rr, c, r, hF, rfl, hpap, hpl, hol, hxl, hok, q⟩ := h
  have G := A.good hF
  have e16 : sizeLine = 16777216 := sizeLine_eq
  refine ⟨_, (pss_cons (ps_set (i := 3) sc__law_bent.nd rfl (Or.inl rfl) (pe_c C__law_draw hr (by omega) rfl (pa_cons (pv 2) (pa_cons pe_int (pa_cons pe_int pa_nil)))))
  (pss_cons (ps_if (pt_cmpR op_eq (pv 3) pe_int (nomark _)) (pss_one (ps_ret (pe_tup (pa_cons (pe_op op_add_str (pe_ix ix_tup (pv 1) pe_int (fun _ _ => rfl)) pe_str) (pa_cons (pe_ix ix_tup (pv 1) pe_int (fun _ _ => rfl)) (pa_cons (pe_ix ix_tup (pv 1) pe_int (fun _ _ => rfl)) (pa_cons (pe_ix ix_tup (pv 1) pe_int (fun _ _ => rfl)) pa_nil))))))) pss_nil)
  (pss_cons (ps_if (pt_cmpR op_eq (pv 3) pe_int (nomark _)) (pss_one (ps_ret (pe_tup (pa_cons (pe_ix ix_tup (pv 1) pe_int (fun _ _ => rfl)) (pa_cons (pe_sl (i := 0) A.held hr (by omega) rfl (by first | exact Or.inl rfl | exact Or.inr (Or.inl rfl) | exact Or.inr (Or.inr rfl)) (pa_cons pe_str (pa_cons (pe_c C__law_draw hr (by omega) rfl (pa_cons (pv 2) (pa_cons pe_int (pa_cons pe_int pa_nil)))) (pa_cons (pe_sl (i := 0) A.held hr (by omega) rfl (by first | exact Or.inl rfl | exact Or.inr (Or.inl rfl) | exact Or.inr (Or.inr rfl)) (pa_cons pe_str (pa_cons pe_int (pa_cons pe_int pa_nil)))) pa_nil)))) (pa_cons (pe_ix ix_tup (pv 1) pe_int (fun _ _ => rfl)) (pa_cons (pe_ix ix_tup (pv 1) pe_int (fun _ _ => rfl)) pa_nil))))))) pss_nil)
  (pss_cons (ps_if (pt_cmpR op_eq (pv 3) pe_int (nomark _)) (pss_one (ps_ret (pe_tup (pa_cons (pe_ix ix_tup (pv 1) pe_int (fun _ _ => rfl)) (pa_cons (pe_ix ix_tup (pv 1) pe_int (fun _ _ => rfl)) (pa_cons (pe_c C__law_list_bent hr (by omega) rfl (pa_cons (pv 0) (pa_cons (pe_ix ix_tup (pv 1) pe_int (fun _ _ => rfl)) (pa_cons (pv 2) pa_nil)))) (pa_cons (pe_ix ix_tup (pv 1) pe_int (fun _ _ => rfl)) pa_nil))))))) pss_nil)
  (pss_cons (ps_if (pt_cmpR op_eq (pv 3) pe_int (nomark _)) (pss_one (ps_ret (pe_tup (pa_cons (pe_ix ix_tup (pv 1) pe_int (fun _ _ => rfl)) (pa_cons (pe_ix ix_tup (pv 1) pe_int (fun _ _ => rfl)) (pa_cons (pe_ix ix_tup (pv 1) pe_int (fun _ _ => rfl)) (pa_cons (pe_tup (pa_cons (pe_c C__law_list_bent hr (by omega) rfl (pa_cons (pv 0) (pa_cons (pe_ix ix_tup (pe_ix ix_tup (pv 1) pe_int (fun _ _ => rfl)) pe_int (fun _ _ => rfl)) (pa_cons (pv 2) pa_nil)))) (pa_cons (pe_ix ix_tup (pe_ix ix_tup (pv 1) pe_int (fun _ _ => rfl)) pe_int (fun _ _ => rfl)) pa_nil))) pa_nil))))))) pss_nil)
  (pss_cons (ps_if (pt_cmpR op_eq (pv 3) pe_int (nomark _)) (pss_cons (ps_set (i := 4) sc__law_bent.nd rfl (Or.inl rfl) (pe_ix ix_tup (pe_tup (pa_cons pe_non (pa_cons (pe_tup (pa_cons pe_int (pa_cons pe_str pa_nil))) (pa_cons (pe_tup (pa_cons pe_str pa_nil)) (pa_cons pe_int pa_nil))))) (pe_c C__law_draw hr (by omega) rfl (pa_cons (pv 2) (pa_cons pe_int (pa_cons pe_int pa_nil)))) (fun _ _ => rfl)))
  (pss_one (ps_ret (pe_tup (pa_cons (pe_ix ix_tup (pv 1) pe_int (fun _ _ => rfl)) (pa_cons (pe_ix ix_tup (pv 1) pe_int (fun _ _ => rfl)) (pa_cons (pe_ix ix_tup (pv 1) pe_int (fun _ _ => rfl)) (pa_cons (pe_tup (pa_cons (pe_ix ix_tup (pe_ix ix_tup (pv 1) pe_int (fun _ _ => rfl)) pe_int (fun _ _ => rfl)) (pa_cons (pv 4) pa_nil))) pa_nil)))))))) pss_nil)
  (pss_cons (ps_if (pt_cmpR op_eq (pv 3) pe_int (nomark _)) (pss_one (ps_ret (pe_ix ix_tup (pe_tup (pa_cons (pe_callTy call_list_of rfl Z.list (by decide +kernel) (pa_cons (pv 1) pa_nil)) (pa_cons (pe_slice sl_tup (pv 1) po_none (po_some pe_int)) (pa_cons pe_non (pa_cons (pe_op op_catT (pv 1) (pe_tup (pa_cons pe_int pa_nil))) pa_nil))))) (pe_c C__law_draw hr (by omega) rfl (pa_cons (pv 2) (pa_cons pe_int (pa_cons pe_int pa_nil)))) (fun _ _ => rfl)))) pss_nil)
  (pss_cons (ps_if (pt_cmpR op_eq (pv 3) pe_int (nomark _)) (pss_one (ps_ret (pe_tup (pa_cons (pe_ix ix_tup (pv 1) pe_int (fun _ _ => rfl)) (pa_cons (pe_ix ix_tup (pv 1) pe_int (fun _ _ => rfl)) (pa_cons (pe_ix ix_tup (pv 1) pe_int (fun _ _ => rfl)) (pa_cons (pe_ix ix_tup (pe_tup (pa_cons (pe_callTy call_list_of rfl Z.list (by decide +kernel) (pa_cons (pe_ix ix_tup (pv 1) pe_int (fun _ _ => rfl)) pa_nil)) (pa_cons pe_non (pa_cons pe_str (pa_cons pe_int pa_nil))))) (pe_c C__law_draw hr (by omega) rfl (pa_cons (pv 2) (pa_cons pe_int (pa_cons pe_int pa_nil)))) (fun _ _ => rfl)) pa_nil))))))) pss_nil)
  (pss_one (ps_ret (pv 1))))))))))), ?_⟩
  obtain ⟨pq, tv, pv, wv, rfl, hpq, htx, htv, hws, htd, hpath, hway⟩ := hpap
  refine ⟨_, rfl, _, _, _, rfl, by decide, by decide, by decide, fun z1 H1 _ _ s1 => ?_⟩
  have x1 := Ext.of_same s1
  have ok1 := G.keep (kp_same s1) hok
  have hpq1 := x1.tup hpq
  have htv1 := G.mono x1.gr htv
  have hpath1 := hpath.ext G x1
  have hway1 := WayAt.ext G hway x1
  refine ⟨_, rfl, rfl, _, rfl, ite2 (fun _ => ?_) (fun _ => ?_)⟩
  · refine ⟨_, rfl, pq, _, 0, _, rfl, rfl, SqT.of hpq1, rfl, _, _, rfl, rfl, by show x.length + 1 ≤ sizeLine; omega, ?_⟩
    refine ⟨_, rfl, pq, _, 1, _, rfl, rfl, SqT.of hpq1, rfl, _, rfl, pq, _, 2, _, rfl, rfl, SqT.of hpq1, rfl, _, rfl, pq, _, 3, _, rfl, rfl, SqT.of hpq1, rfl, by show 4 ≤ sizeLine; decide, fun nq nnq => ?_⟩
    have x3 := Ext.new (o := .tup [.str (x ++ "\n"), tv, pv, wv]) nnq
    exact q _ (some (x ++ "\n", tt, some ps, some (os, some rr))) _ (x1.trans x3) (G.less (G.keep (Kp.new nnq) ok1) (by omega)) ⟨nq, tv, pv, wv, rfl, upd_same, txt_app htx (by decide +kernel), G.mono x3.gr htv1, hws, htd, hpath1.ext G x3, WayAt.ext G hway1 x3⟩
  refine ⟨_, rfl, rfl, _, rfl, ite2 (fun _ => ?_) (fun _ => ?_)⟩
  · refine ⟨_, rfl, pq, _, 0, _, rfl, rfl, SqT.of hpq1, rfl, S0, _, hF, rfl, ok1, _, rfl, _, _, _, rfl, by decide, by decide, by decide, fun z2 H2 z20 z21 s2 => ?_⟩
    have ok2 := G.keep (kp_same s2) ok1
    have e2 := Ext.of_same s2
    refine ⟨S0, _, hF, rfl, ok2, r + 3, "none", .int 0, .int 0, _, _, rfl, by decide +kernel, ok2, G.int _ ok2, G.int _ ok2, fun v0 H3 x3 ok3 d3 => ?_⟩
    refine ⟨r + 2, "table", .int z2, nonT, _, _, rfl, by decide +kernel, ok3, G.int _ ok3, d3, fun u H4 x4 ok4 d4 => ?_⟩
    have x14 := (e2.trans x3).trans x4
    have hpq4 := x14.tup hpq1
    refine ⟨_, rfl, pq, _, 2, _, rfl, rfl, SqT.of hpq4, rfl, _, rfl, pq, _, 3, _, rfl, rfl, SqT.of hpq4, rfl, by show 4 ≤ sizeLine; decide, fun nq nnq => ?_⟩
    have x5 := Ext.new (o := .tup [.str x, u, pv, wv]) nnq
    have x15 := x14.trans x5
    exact q _ (some (x, .sl "table" (.int z2) nonT, some ps, some (os, some rr))) _ (x1.trans x15) (G.less (G.keep (Kp.new nnq) ok4) (by omega)) ⟨nq, u, pv, wv, rfl, upd_same, htx, G.mono x5.gr d4, .tab _ .non, by show max 0 (max 0 0 + 1) + 1 ≤ 18; decide, hpath1.ext G x15, WayAt.ext G hway1 x15⟩
  refine ⟨_, rfl, rfl, _, rfl, ite2 (fun _ => ?_) (fun _ => ?_)⟩
  · obtain ⟨pa, ys, rfl, g1, g2, g3, g4⟩ := hpath1.1
    refine ⟨_, rfl, pq, _, 0, _, rfl, rfl, SqT.of hpq1, rfl, _, rfl, pq, _, 1, _, rfl, rfl, SqT.of hpq1, rfl, _, rfl, _, rfl, pq, _, 2, _, rfl, rfl, SqT.of hpq1, rfl, _, rfl, S0, pa, ys, ps, c, 28, r, hF, rfl, g1, g2, hpl, by decide, g4, G.less ok1 (by omega), fun u m H2 x2 ok2 hu => ?_⟩
    refine ⟨_, rfl, pq, _, 3, _, rfl, rfl, SqT.of (x2.tup hpq1), rfl, by show 4 ≤ sizeLine; decide, fun nq nnq => ?_⟩
    have x3 := Ext.new (o := .tup [.str x, tv, u, wv]) nnq
    have x23 := x2.trans x3
    exact q _ (some (x, tt, m, some (os, some rr))) _ (x1.trans x23) (G.keep (Kp.new nnq) ok2) ⟨nq, tv, u, wv, rfl, upd_same, htx, G.mono x23.gr htv1, hws, htd, (hu.ext G x3).path G, WayAt.ext G hway1 x23⟩
  refine ⟨_, rfl, rfl, _, rfl, ite2 (fun _ => ?_) (fun _ => ?_)⟩
  · obtain ⟨wq, o, ev, ys, rfl, g1, g2, g3, g4, g5, g6⟩ := hway1
    refine ⟨_, rfl, pq, _, 0, _, rfl, rfl, SqT.of hpq1, rfl, _, rfl, pq, _, 1, _, rfl, rfl, SqT.of hpq1, rfl, _, rfl, pq, _, 2, _, rfl, rfl, SqT.of hpq1, rfl, _, rfl, _, rfl, pq, _, 3, _, rfl, rfl, SqT.of hpq1, rfl, wq, _, 0, _, rfl, rfl, SqT.of g1, rfl, _, rfl, S0, o, ys, os, c, 20, r, hF, rfl, g2, g3, hol, by decide, g4, G.less ok1 (by omega), fun u m H2 x2 ok2 hu => ?_⟩
    refine ⟨_, rfl, pq, _, 3, _, rfl, rfl, SqT.of (x2.tup hpq1), rfl, wq, _, 1, ev, rfl, rfl, SqT.of (x2.tup g1), rfl, by show 2 ≤ sizeLine; decide, fun nw nnw => ⟨by show 4 ≤ sizeLine; decide, fun nq nnq => ?_⟩⟩
    have x3 := Ext.new (o := .tup [u, ev]) nnw
    have hnw : upd H2 nw (.tup [u, ev]) nw = some (.tup [u, ev]) := upd_same
    have k3 := Kp.new (o := .tup [u, ev]) nnw
    generalize upd H2 nw (.tup [u, ev]) = H3 at x3 hnw k3 nnq ⊢
    have x4 := Ext.new (o := .tup [.str x, tv, pv, .ref nw]) nnq
    have x23 := (x2.trans x3).trans x4
    exact q _ (some (x, tt, some ps, m.map fun z => (z, some rr))) _ (x1.trans x23) (G.keep (Kp.new nnq) (G.keep k3 ok2)) ⟨nq, tv, pv, .ref nw, rfl, upd_same, htx, G.mono x23.gr htv1, hws, htd, hpath1.ext G x23, (hu.ext G (x3.trans x4)).way G (EndAt.ext g6 x23) (x4.tup hnw) (end_dat (EndV.gr g6 x23.gr))⟩
  refine ⟨_, rfl, rfl, _, rfl, ite2 (fun _ => ?_) (fun _ => ?_)⟩
  · obtain ⟨wq, o, ev, ys, rfl, g1, g2, g3, g4, g5, g6⟩ := hway1
    refine ⟨by show 2 ≤ sizeLine; decide, fun t1 nt1 => ?_⟩
    have y1 := Ext.new (o := .tup [.int 0, .str "a"]) nt1
    have l1 := Kp.new (o := .tup [.int 0, .str "a"]) nt1
    have h1 : upd H1 t1 (.tup [.int 0, .str "a"]) t1 = some (.tup [.int 0, .str "a"]) := upd_same
    generalize upd H1 t1 (.tup [.int 0, .str "a"]) = H2 at y1 l1 h1 ⊢
    refine ⟨by show 1 ≤ sizeLine; decide, fun t2 nt2 => ?_⟩
    have y2 := Ext.new (o := .tup [.str "a"]) nt2
    have l2 := Kp.new (o := .tup [.str "a"]) nt2
    have h2 : upd H2 t2 (.tup [.str "a"]) t2 = some (.tup [.str "a"]) := upd_same
    generalize upd H2 t2 (.tup [.str "a"]) = H3 at y2 l2 h2 ⊢
    refine ⟨by show 4 ≤ sizeLine; decide, fun t4 nt4 => ?_⟩
    have y3 := Ext.new (o := .tup [.non, .ref t1, .ref t2, .int 5]) nt4
    have l3 := Kp.new (o := .tup [.non, .ref t1, .ref t2, .int 5]) nt4
    have h4 : upd H3 t4 (.tup [.non, .ref t1, .ref t2, .int 5]) t4 = some (.tup [.non, .ref t1, .ref t2, .int 5]) := upd_same
    generalize upd H3 t4 (.tup [.non, .ref t1, .ref t2, .int 5]) = H4 at y3 l3 h4 ⊢
    refine ⟨_, rfl, _, _, _, rfl, by decide, by decide, by decide, fun z2 H5 z20 z21 s2 => ?_⟩
    have y4 := Ext.of_same s2
    obtain ⟨w4, hat, hw4⟩ := four_at (v0 := .non) (v1 := .ref t1) (v2 := .ref t2) (v3 := .int 5) z20 z21
    have x14 := ((y1.trans y2).trans y3).trans y4
    have ok5 := G.keep (((l1.trans l2).trans l3).trans (kp_same s2)) ok1
    refine ⟨t4, _, z2, w4, rfl, rfl, SqT.of (y4.tup h4), hat, ?_⟩
    have hem : ∃ em, EndAt K H5 w4 em ∧ OddD K H5 w4 fun d => d.depth ≤ 40 := by
      rcases hw4 with rfl | rfl | rfl | rfl
      · exact ⟨some [], .inl ⟨rfl, rfl⟩, end_dat (rr := []) (.inl ⟨rfl, rfl⟩)⟩
      · have g : EndV H5 (.ref t1) [((0 : Int), ("a" : Str))] := .inr ⟨_, t1, rfl, rfl, y4.tup (y3.tup (y2.tup h1)), by decide +kernel⟩
        exact ⟨some [((0 : Int), ("a" : Str))], g, end_dat g⟩
      · exact ⟨none, odd_str1 (y4.tup (y3.tup h2))⟩
      · exact ⟨none, odd_five⟩
    obtain ⟨em, he1, he2⟩ := hem
    have hpq5 := x14.tup hpq1
    refine ⟨_, rfl, pq, _, 0, _, rfl, rfl, SqT.of hpq5, rfl, _, rfl, pq, _, 1, _, rfl, rfl, SqT.of hpq5, rfl, _, rfl, pq, _, 2, _, rfl, rfl, SqT.of hpq5, rfl, _, rfl, pq, _, 3, _, rfl, rfl, SqT.of hpq5, rfl, wq, _, 0, _, rfl, rfl, SqT.of (x14.tup g1), rfl, _, rfl, by show 2 ≤ sizeLine; decide, fun nw nnw => ⟨by show 4 ≤ sizeLine; decide, fun nq nnq => ?_⟩⟩
    have x3 := Ext.new (o := .tup [.ref o, w4]) nnw
    have hnw : upd H5 nw (.tup [.ref o, w4]) nw = some (.tup [.ref o, w4]) := upd_same
    have k3 := Kp.new (o := .tup [.ref o, w4]) nnw
    generalize upd H5 nw (.tup [.ref o, w4]) = H6 at x3 hnw k3 nnq ⊢
    have x4 := Ext.new (o := .tup [.str x, tv, pv, .ref nw]) nnq
    have x16 := (x14.trans x3).trans x4
    exact q _ (some (x, tt, some ps, some (os, em))) _ (x1.trans x16) (G.less (G.keep (Kp.new nnq) (G.keep k3 ok5)) (by omega)) ⟨nq, tv, pv, .ref nw, rfl, upd_same, htx, G.mono x16.gr htv1, hws, htd, hpath1.ext G x16, nw, o, w4, ys, rfl, x4.tup hnw, x16.lst g2, g3.mono G x16.gr, g4, g5, EndAt.ext he1 (x3.trans x4)⟩
  refine ⟨_, rfl, rfl, _, rfl, ite2 (fun _ => ?_) (fun _ => ?_)⟩
  · refine ⟨_, rfl, pq, _, rfl, .inr (SqT.of hpq1), fun t1 nt1 => ?_⟩
    have y1 := Ext.new (o := .lst [.str x, tv, pv, wv]) nt1
    have l1 := Kp.new (o := .lst [.str x, tv, pv, wv]) nt1
    have h1 : upd H1 t1 (.lst [.str x, tv, pv, wv]) t1 = some (.lst [.str x, tv, pv, wv]) := upd_same
    generalize upd H1 t1 (.lst [.str x, tv, pv, wv]) = H2 at y1 l1 h1 ⊢
    refine ⟨_, rfl, (3 : Int), rfl, pq, _, rfl, SqT.of (y1.tup hpq1), by show ¬ (HT.sIx 4 0 none = 0 ∧ HT.sIx 4 4 (some 3) = 4); decide, fun t2 nt2 => ?_⟩
    have ec : cutV [.str x, tv, pv, wv] none (some 3) = [.str x, tv, pv] := rfl
    rw [ec]
    have y2 := Ext.new (o := .tup [.str x, tv, pv]) nt2
    have l2 := Kp.new (o := .tup [.str x, tv, pv]) nt2
    have h2 : upd H2 t2 (.tup [.str x, tv, pv]) t2 = some (.tup [.str x, tv, pv]) := upd_same
    generalize upd H2 t2 (.tup [.str x, tv, pv]) = H3 at y2 l2 h2 ⊢
    refine ⟨_, rfl, by show 1 ≤ sizeLine; decide, fun t3 nt3 => ?_⟩
    have y3 := Ext.new (o := .tup [.int 0]) nt3
    have l3 := Kp.new (o := .tup [.int 0]) nt3
    have h3 : upd H3 t3 (.tup [.int 0]) t3 = some (.tup [.int 0]) := upd_same
    generalize upd H3 t3 (.tup [.int 0]) = H4 at y3 l3 h3 ⊢
    have y13 := (y1.trans y2).trans y3
    refine ⟨pq, t3, _, _, rfl, rfl, SqT.of (y13.tup hpq1), SqT.of h3, (fun z => nomatch z), by show 5 ≤ sizeLine; omega, (fun z => nomatch z), fun _ t4 nt4 => ?_⟩
    have y4 := Ext.new (o := .tup ([.str x, tv, pv, wv] ++ [.int 0])) nt4
    have l4 := Kp.new (o := .tup ([.str x, tv, pv, wv] ++ [.int 0])) nt4
    have h4 : upd H4 t4 (.tup ([.str x, tv, pv, wv] ++ [.int 0])) t4 = some (.tup [.str x, tv, pv, wv, .int 0]) := upd_same
    generalize upd H4 t4 (.tup ([.str x, tv, pv, wv] ++ [.int 0])) = H5 at y4 l4 h4 ⊢
    refine ⟨by show 4 ≤ sizeLine; decide, fun t5 nt5 => ?_⟩
    have y5 := Ext.new (o := .tup [.ref t1, .ref t2, .non, .ref t4]) nt5
    have l5 := Kp.new (o := .tup [.ref t1, .ref t2, .non, .ref t4]) nt5
    have h5 : upd H5 t5 (.tup [.ref t1, .ref t2, .non, .ref t4]) t5 = some (.tup [.ref t1, .ref t2, .non, .ref t4]) := upd_same
    generalize upd H5 t5 (.tup [.ref t1, .ref t2, .non, .ref t4]) = H6 at y5 l5 h5 ⊢
    refine ⟨_, rfl, _, _, _, rfl, by decide, by decide, by decide, fun z2 H7 z20 z21 s2 => ?_⟩
    have y6 := Ext.of_same s2
    obtain ⟨w4, hat, hw4⟩ := four_at (v0 := .ref t1) (v1 := .ref t2) (v2 := .non) (v3 := .ref t4) z20 z21
    have x17 := ((y13.trans y4).trans y5).trans y6
    have ok7 := G.keep (((((l1.trans l2).trans l3).trans l4).trans l5).trans (kp_same s2)) ok1
    refine ⟨t5, _, z2, w4, rfl, rfl, SqT.of (y6.tup h5), hat, ?_⟩
    obtain ⟨wq, o, ev, ys, rfl, g1, g2, g3, g4, g5, g6⟩ := hway1
    obtain ⟨pa, zs, rfl, p1, p2, _, p4⟩ := hpath1.1
    have dat : ∀ H', Ext H7 H' → ∃ dt ds de es, Dp K H' tv dt ∧ Dp K H' (.ref pa) (.list ds) ∧ Dp K H' (.ref wq) (.tuple [.list es, de]) ∧ dt.canLay0 = true ∧ PyData.canLayAll0 ds = true ∧ (PyData.tuple [.list es, de]).canLay0 = true ∧ dt.depth ≤ 18 ∧ PyData.depthAll ds ≤ 28 ∧ (PyData.tuple [.list es, de]).depth ≤ 41 := fun H' e => by
      have xe := x17.trans e
      obtain ⟨dt, a1, _, a3, a5⟩ := G.same (G.mono xe.gr htv1) (G.mono xe.gr htv1)
      obtain ⟨ds, m1, _, m3, m4⟩ := DenL.same (K := K) (n := 28) G (p2.mono G xe.gr) (p2.mono G xe.gr) fun t ht => (p4 t ht).2
      obtain ⟨es, n1, _, n3, n4⟩ := DenL.same (K := K) (n := 20) G (g3.mono G xe.gr) (g3.mono G xe.gr) fun t ht => (g4 t ht).2
      obtain ⟨de, f1, f2, _, f4⟩ := end_dat (K := K) (EndV.gr g6 xe.gr) H' (Ext.refl H')
      refine ⟨dt, ds, de, es, a1, .lst (SqL.of (xe.lst p1)) m1, .tup (SqT.of (xe.tup g1)) (.cons (.lst (SqL.of (xe.lst g2)) n1) (.cons f1 .nil)), a3, m3, ?_, by omega, m4, ?_⟩
      · show (PyData.canLayAll0 es && (de.canLay0 && true)) = true
        rw [n3, f2]
        rfl
      · show max (PyData.depthAll es + 1) (max de.depth 0) + 1 ≤ 41
        omega
    have hpm : PapAt K S0 H7 w4 none := by
      rcases hw4 with rfl | rfl | rfl | rfl
      · have ht := y6.lst (y5.lst (y4.lst (y3.lst (y2.lst h1))))
        refine ⟨.inl fun H' e => ⟨.type "list", .base (.lst (e.lst ht)), kit_ty (by decide +kernel)⟩, fun H' e => ?_⟩
        obtain ⟨dt, ds, de, es, b1, b2, b3, b4, b5, b6, b7, b8, b9⟩ := dat H' e
        refine ⟨.list [.str x, dt, .list ds, .tuple [.list es, de]], .lst (SqL.of (e.lst ht)) (.cons (.str _) (.cons b1 (.cons b2 (.cons b3 .nil)))), ?_, ?_, fun a b c d z => nomatch z⟩
        · show (txtOk x && (dt.canLay0 && (PyData.canLayAll0 ds && ((PyData.tuple [.list es, de]).canLay0 && true)))) = true
          rw [htx, b4, b5, b6]
          rfl
        · show max 0 (max dt.depth (max (PyData.depthAll ds + 1) (max (PyData.tuple [.list es, de]).depth 0))) + 1 ≤ 50
          omega
      · have ht := y6.tup (y5.tup (y4.tup (y3.tup h2)))
        refine ⟨.inr ⟨t2, _, rfl, ht, by show ¬ 3 = 4; decide⟩, fun H' e => ?_⟩
        obtain ⟨dt, ds, de, es, b1, b2, b3, b4, b5, b6, b7, b8, b9⟩ := dat H' e
        refine ⟨.tuple [.str x, dt, .list ds], .tup (SqT.of (e.tup ht)) (.cons (.str _) (.cons b1 (.cons b2 .nil))), ?_, ?_, fun a b c d z => nomatch z⟩
        · show (txtOk x && (dt.canLay0 && (PyData.canLayAll0 ds && true))) = true
          rw [htx, b4, b5]
          rfl
        · show max 0 (max dt.depth (max (PyData.depthAll ds + 1) 0)) + 1 ≤ 50
          omega
      · exact ⟨.inl fun H' e => ⟨_, .base .non, kit_ty (by decide +kernel)⟩, fun H' e => ⟨.none, .non, rfl, Nat.zero_le _, fun a b c d z => nomatch z⟩⟩
      · have ht := y6.tup (y5.tup h4)
        refine ⟨.inr ⟨t4, _, rfl, ht, by show ¬ 5 = 4; decide⟩, fun H' e => ?_⟩
        obtain ⟨dt, ds, de, es, b1, b2, b3, b4, b5, b6, b7, b8, b9⟩ := dat H' e
        refine ⟨.tuple [.str x, dt, .list ds, .tuple [.list es, de], .int 0], .tup (SqT.of (e.tup ht)) (.cons (.str _) (.cons b1 (.cons b2 (.cons b3 (.cons (.int _) .nil))))), ?_, ?_, fun a b c d z => nomatch z⟩
        · show (txtOk x && (dt.canLay0 && (PyData.canLayAll0 ds && ((PyData.tuple [.list es, de]).canLay0 && (true && true))))) = true
          rw [htx, b4, b5, b6]
          rfl
        · show max 0 (max dt.depth (max (PyData.depthAll ds + 1) (max (PyData.tuple [.list es, de]).depth (max 0 0)))) + 1 ≤ 50
          omega
    exact q _ none _ (x1.trans x17) (G.less ok7 (by omega)) hpm
  refine ⟨_, rfl, rfl, _, rfl, ite2 (fun _ => ?_) (fun _ => ?_)⟩
  · obtain ⟨wq, o, ev, ys, rfl, g1, g2, g3, g4, g5, g6⟩ := hway1
    refine ⟨_, rfl, pq, _, 0, _, rfl, rfl, SqT.of hpq1, rfl, _, rfl, pq, _, 1, _, rfl, rfl, SqT.of hpq1, rfl, _, rfl, pq, _, 2, _, rfl, rfl, SqT.of hpq1, rfl, _, rfl, pq, _, 3, _, rfl, rfl, SqT.of hpq1, rfl, wq, _, rfl, .inr (SqT.of g1), fun t1 nt1 => ?_⟩
    have y1 := Ext.new (o := .lst [.ref o, ev]) nt1
    have l1 := Kp.new (o := .lst [.ref o, ev]) nt1
    have h1 : upd H1 t1 (.lst [.ref o, ev]) t1 = some (.lst [.ref o, ev]) := upd_same
    generalize upd H1 t1 (.lst [.ref o, ev]) = H2 at y1 l1 h1 ⊢
    refine ⟨by show 4 ≤ sizeLine; decide, fun t4 nt4 => ?_⟩
    have y3 := Ext.new (o := .tup [.ref t1, .non, .str "ab", .int 5]) nt4
    have l3 := Kp.new (o := .tup [.ref t1, .non, .str "ab", .int 5]) nt4
    have h4 : upd H2 t4 (.tup [.ref t1, .non, .str "ab", .int 5]) t4 = some (.tup [.ref t1, .non, .str "ab", .int 5]) := upd_same
    generalize upd H2 t4 (.tup [.ref t1, .non, .str "ab", .int 5]) = H4 at y3 l3 h4 ⊢
    refine ⟨_, rfl, _, _, _, rfl, by decide, by decide, by decide, fun z2 H5 z20 z21 s2 => ?_⟩
    have y4 := Ext.of_same s2
    obtain ⟨w4, hat, hw4⟩ := four_at (v0 := .ref t1) (v1 := .non) (v2 := .str "ab") (v3 := .int 5) z20 z21
    have x14 := (y1.trans y3).trans y4
    have ok5 := G.keep ((l1.trans l3).trans (kp_same s2)) ok1
    refine ⟨t4, _, z2, w4, rfl, rfl, SqT.of (y4.tup h4), hat, by show 4 ≤ sizeLine; decide, fun nq nnq => ?_⟩
    have x5 := Ext.new (o := .tup [.str x, tv, pv, w4]) nnq
    have x15 := x14.trans x5
    have hwm : WayAt K S0 (upd H5 nq (.tup [.str x, tv, pv, w4])) w4 none := by
      rcases hw4 with rfl | rfl | rfl | rfl
      · have ht := x5.lst (y4.lst (y3.lst h1))
        refine ⟨.inl fun H' e => ⟨.type "list", .base (.lst (e.lst ht)), kit_ty (by decide +kernel)⟩, fun H' e => ?_⟩
        have xe := x15.trans e
        obtain ⟨ds, m1, _, m3, m4⟩ := DenL.same (K := K) (n := 20) G (g3.mono G xe.gr) (g3.mono G xe.gr) fun t ht => (g4 t ht).2
        obtain ⟨de, f1, f2, _, f4⟩ := end_dat (K := K) (EndV.gr g6 xe.gr) H' (Ext.refl H')
        refine ⟨.list [.list ds, de], .lst (SqL.of (e.lst ht)) (.cons (.lst (SqL.of (xe.lst g2)) m1) (.cons f1 .nil)), ?_, ?_, fun a b z => nomatch z⟩
        · show (PyData.canLayAll0 ds && (de.canLay0 && true)) = true
          rw [m3, f2]
          rfl
        · show max (PyData.depthAll ds + 1) (max de.depth 0) + 1 ≤ 50
          omega
      · exact ⟨.inl fun H' e => ⟨_, .base .non, kit_ty (by decide +kernel)⟩, fun H' e => ⟨.none, .non, rfl, Nat.zero_le _, fun a b z => nomatch z⟩⟩
      · exact ⟨.inl fun H' e => ⟨_, .base (.str _), kit_ty (by decide +kernel)⟩, fun H' e => ⟨.str "ab", .str _, by decide +kernel, Nat.zero_le _, fun a b z => nomatch z⟩⟩
      · exact ⟨.inl fun H' e => ⟨_, .base (.int _), kit_ty (by decide +kernel)⟩, fun H' e => ⟨.int 5, .int _, rfl, Nat.zero_le _, fun a b z => nomatch z⟩⟩
    exact q _ (some (x, tt, some ps, none)) _ (x1.trans x15) (G.less (G.keep (Kp.new nnq) ok5) (by omega)) ⟨nq, tv, pv, w4, rfl, upd_same, htx, G.mono x15.gr htv1, hws, htd, hpath1.ext G x15, hwm⟩
  exact ⟨_, rfl, q _ (some (x, tt, some ps, some (os, some rr))) H1 x1 (G.less ok1 (by omega)) ⟨pq, tv, pv, wv, rfl, hpq1, htx, htv1, hws, htd, hpath1, hway1⟩⟩
end

/-! ### one claim -/
theorem clamp_ix (place : Int) {size : Nat} (h : 0 < size) : ∃ ix : Nat, (if (if (size : Int) - 1 < place then (size : Int) - 1 else place) > 0 then (if (size : Int) - 1 < place then (size : Int) - 1 else place) else 0) = (ix : Int) ∧ ix < size ∧ (0 ≤ place → place < (size : Int) → place = (ix : Int)) := by
  by_cases c1 : (size : Int) - 1 < place
  · rw [if_pos c1]
    by_cases c2 : (size : Int) - 1 > 0
    · rw [if_pos c2]
      exact ⟨size - 1, by omega, by omega, fun _ _ => by omega⟩
    · rw [if_neg c2]
      exact ⟨0, rfl, h, fun _ _ => by omega⟩
  · rw [if_neg c1]
    by_cases c2 : place > 0
    · rw [if_pos c2]
      exact ⟨place.toNat, by omega, by omega, fun _ _ => by omega⟩
    · rw [if_neg c2]
      exact ⟨0, rfl, h, fun _ _ => by omega⟩
section
variable {P : Program} {w : World} {K : PySem.W.Frag} {mg : Str → Option Value} {base : Heap} {Fam : Sys → Prop} {CF CG CS CH CL C_Behind : Addr}
theorem claim_isa {cc : Addr} (T : Txt K mg cc) (KH : K_Holds K mg CH) (KL : K_Lacks K mg CL) {H : Hp} {cp gdx CC : Addr} {c : BhCl} {fs : List (Str × V)} (h : H cp = some (.ins (clB CH CL c) gdx fs)) (g : mg "Claim" = some (.ref CC)) : ∃ t, TyX K H (.ref cp) t ∧ PySem.W.kitOne K t (.ref CC) = some true := by
  obtain ⟨p, k, d, s⟩ := c
  cases s with
  | some x =>
    have h : H cp = some (.ins CH gdx fs) := h
    exact ⟨_, .base (.ins h KH.cl KH.ia_ KH.in_ KH.it_ KH.im_), T.q_Holds_Claim _ _ KH.mgC g⟩
  | none =>
    have h : H cp = some (.ins CL gdx fs) := h
    exact ⟨_, .base (.ins h KL.cl KL.ia_ KL.in_ KL.it_ KL.im_), T.q_Lacks_Claim _ _ KL.mgC g⟩
def spOne12 (Fam : Sys → Prop) : Sp := fun vs H Q _ => ∃ (S0 : Sys) (cell : Int) (B : Addr) (l : Nat) (xs : List V) (es : List En) (near : Addr) (ks : List Int) (r : Nat), Fam S0 ∧ vs = [.ref S0.f, .int cell, .ref B, .int (l : Int), .ref near] ∧ BkAt S0 H B l xs es ∧ H near = some (.lst (ks.map V.int)) ∧ InL l ks ∧ 0 < ks.length ∧ ks.length ≤ 1000 ∧ S0.ok H (r + 10000) ∧
  ∀ H', Ext H H' → S0.ok H' r → Q (.bl true) H'
theorem ok_one12 {cc : Addr} (T : Txt K mg cc) (A : SlA P w K mg base Fam) (I3 : ∀ {S}, Fam S → S.Inj K) (D : ClsM K mg C_Behind "Behind" "__init__" "Behind.__init__" s_Behind___init__ ["self", "place", "key", "depth"]) (KF : K_Follower K mg CF) (KG : K_Grows K mg CG) (KS : K_Stands K mg CS) (KH : K_Holds K mg CH) (KL : K_Lacks K mg CL) : Cal P w K mg base 26 "_law_one" (spOne12 Fam) [] := by
  have Z := T.Z
  have C__law_draw := ok_draw (P := P) (w := w) (base := base) T
  have C__law_word := ok_wordS (P := P) (w := w) (base := base) T
  have C__law_paper := ok_lpaper T A
  have C__law_bent := ok_bent12 T A I3
  have C__law_top := ok_law_top T A 10
  have C_Holds := ok_hoinit (P := P) (w := w) (base := base) D KH
  have C_Lacks := ok_lkinit (P := P) (w := w) (base := base) KL
  have C_Follower := ok_fwinit T A KF
  have M_judged := ok_csB T A I3 KS KH KL
  have M_take := ok_fwtake T A I3 KF KG
  have M_judge := ok_fwjudgeB T A I3 KF KS KH KL
  obtain ⟨C_Claim, g_Claim⟩ := T.g_Claim
  refine cal_of T.d__law_one sc__law_one (fun vs H Q E h => ?_) (fun f cdv A' outer s H vs Q E hr h => ?_)
  · obtain ⟨S0, cell, B, l, xs, es, near, ks, r, _, rfl, _⟩ := h
    rfl
  obtain ⟨S0, cell, B, l, xs, es, near, ks, r, hF, rfl, hB, hn, hin, kpos, klen, hok, q⟩ := h
  have hu := hu_of hr
  have G := A.good hF
  have e16 : sizeLine = 16777216 := sizeLine_eq
  have hxl := hB.en.len
  have hes := hB.ln
  have hl16 := hB.dl
  refine ⟨_, (pss_cons (ps_set (i := 5) sc__law_one.nd rfl (Or.inl rfl) (pe_op op_add pe_int (pe_c C__law_draw hr (by omega) rfl (pa_cons (pv 1) (pa_cons pe_int (pa_cons (pe_callB call_len_seq rfl Z.len PySem.boot_len (pa_cons (pv 2) pa_nil)) pa_nil))))))
  (Evl.pss_cut (ps_set (i := 6) sc__law_one.nd rfl (Or.inl rfl) (pe_ifExp (pt_cmpR op_eq (pe_c C__law_draw hr (by omega) rfl (pa_cons (pv 1) (pa_cons pe_int (pa_cons pe_int pa_nil)))) pe_int (nomark _)) (pe_op op_add pe_int (pe_c C__law_draw hr (by omega) rfl (pa_cons (pv 1) (pa_cons pe_int (pa_cons (pe_callB call_len_seq rfl Z.len PySem.boot_len (pa_cons (pv 2) pa_nil)) pa_nil))))) (pv 5)))
  (Evl.pss_cut (ps_set (i := 7) sc__law_one.nd rfl (Or.inl rfl) (pe_ifExp (pt_cmpR op_eq (pe_c C__law_draw hr (by omega) rfl (pa_cons (pv 1) (pa_cons pe_int (pa_cons pe_int pa_nil)))) pe_int (nomark _)) (pe_c C__law_draw hr (by omega) rfl (pa_cons (pv 1) (pa_cons pe_int (pa_cons (pe_op op_add (pv 5) pe_int) pa_nil)))) (pe_c C__law_draw hr (by omega) rfl (pa_cons (pv 1) (pa_cons pe_int (pa_cons (pv 5) pa_nil))))))
  (Evl.pss_cut (ps_if (pt_cmpR op_eq (pe_c C__law_draw hr (by omega) rfl (pa_cons (pv 1) (pa_cons pe_int (pa_cons pe_int pa_nil)))) pe_int (nomark _)) (pss_one (ps_set (i := 7) sc__law_one.nd rfl (Or.inl rfl) (pe_ix ix_tup (pe_tup (pa_cons (pe_un un_neg pe_int) (pa_cons (pe_op op_sub pe_int (pv 5)) pa_nil))) (pe_c C__law_draw hr (by omega) rfl (pa_cons (pv 1) (pa_cons pe_int (pa_cons pe_int pa_nil)))) (fun _ _ => rfl)))) pss_nil)
  (pss_cons (ps_set (i := 8) sc__law_one.nd rfl (Or.inl rfl) (pe_op op_xor (pe_ix ix_list (pv 4) (pe_c C__law_draw hr (by omega) rfl (pa_cons (pv 1) (pa_cons pe_int (pa_cons (pe_callB call_len_seq rfl Z.len PySem.boot_len (pa_cons (pv 4) pa_nil)) pa_nil)))) (fun _ _ => rfl)) (pe_c C__law_draw hr (by omega) rfl (pa_cons (pv 1) (pa_cons pe_int (pa_cons pe_int pa_nil))))))
  (pss_cons (ps_set (i := 9) sc__law_one.nd rfl (Or.inl rfl) (pe_op op_add (pv 3) (pe_ix ix_tup (pe_tup (pa_cons pe_int (pa_cons pe_int (pa_cons pe_int (pa_cons pe_int (pa_cons pe_int (pa_cons (pe_un un_neg pe_int) pa_nil))))))) (pe_c C__law_draw hr (by omega) rfl (pa_cons (pv 1) (pa_cons pe_int (pa_cons pe_int pa_nil)))) (fun _ _ => rfl))))
  (Evl.pss_cut (ps_set (i := 10) sc__law_one.nd rfl (Or.inl rfl) (pe_dget1 hu (pe_ix ix_tup (pe_ix ix_list (pv 2) (pe_callB (call_max2 rfl) rfl Z.max (by decide +kernel) (pa_cons pe_int (pa_cons (pe_callB (call_min2 rfl) rfl Z.min (by decide +kernel) (pa_cons (pv 7) (pa_cons (pe_op op_sub (pv 5) pe_int) pa_nil))) pa_nil))) (fun _ _ => rfl)) pe_int (fun _ _ => rfl)) (pv 8) ⟨rfl, rfl, rfl, rfl⟩))
  (Evl.pss_cut (ps_set (i := 11) sc__law_one.nd rfl (Or.inl rfl) (pe_ifExp (PW.pt (pw_or (pt_cmpR op_eq (pe_c C__law_draw hr (by omega) rfl (pa_cons (pv 1) (pa_cons pe_int (pa_cons pe_int pa_nil)))) pe_int (nomark _)) (pw_or1 (pt_cmpR op_isN (pv 10) pe_non (nomark _))))) (pe_c C__law_word hr (by omega) rfl (pa_cons (pv 1) pa_nil)) (pv 10)))
  (Evl.pss_cut (ps_set (i := 12) sc__law_one.nd rfl (Or.inl rfl) (pe_ifExp (pt_cmpR op_eq (pe_c C__law_draw hr (by omega) rfl (pa_cons (pv 1) (pa_cons pe_int (pa_cons pe_int pa_nil)))) pe_int (nomark _)) (pe_cmpR op_eq (pe_c C__law_draw hr (by omega) rfl (pa_cons (pv 1) (pa_cons pe_int (pa_cons pe_int pa_nil)))) pe_int (nomark _)) (pe_cmpR op_isN (pv 10) pe_non (nomark _))))
  (Evl.pss_cut (ps_set (i := 13) sc__law_one.nd rfl (Or.inl rfl) (pe_ifExp (pt_cmpR op_gt (pe_c C__law_draw hr (by omega) rfl (pa_cons (pv 1) (pa_cons pe_int (pa_cons pe_int pa_nil)))) pe_int (nomark _)) (pe_tup (pa_cons (pe_callB (call_max2 rfl) rfl Z.max (by decide +kernel) (pa_cons pe_int (pa_cons (pe_callB (call_min2 rfl) rfl Z.min (by decide +kernel) (pa_cons (pv 7) (pa_cons (pe_op op_sub (pv 5) pe_int) pa_nil))) pa_nil))) (pa_cons (pv 8) pa_nil))) (pe_tup (pa_cons (pe_c C__law_draw hr (by omega) rfl (pa_cons (pv 1) (pa_cons pe_int (pa_cons (pv 5) pa_nil)))) (pa_cons (pe_ix ix_list (pv 4) pe_int (fun _ _ => rfl)) pa_nil)))))
  (pss_cons (ps_set (i := 14) sc__law_one.nd rfl (Or.inl rfl) (pe_c C__law_bent hr (by omega) rfl (pa_cons (pv 0) (pa_cons (pe_c C__law_paper hr (by omega) rfl (pa_cons (pv 0) (pa_cons (pv 2) (pa_cons (pe_ix ix_tup (pv 13) pe_int (fun _ _ => rfl)) (pa_cons (pe_ix ix_tup (pv 13) pe_int (fun _ _ => rfl)) (pa_cons (pv 5) (pa_cons (pv 3) pa_nil))))))) (pa_cons (pv 1) pa_nil)))))
  (pss_cons (ps_set (i := 15) sc__law_one.nd rfl (Or.inl rfl) (pe_op op_add (pv 8) (pe_op op_mul (pe_op op_oneShl pe_int (pv 3)) (pe_ix ix_tup (pe_tup (pa_cons pe_int (pa_cons pe_int (pa_cons pe_int (pa_cons pe_int (pa_cons pe_int (pa_cons pe_int (pa_cons (pe_un un_neg pe_int) pa_nil)))))))) (pe_c C__law_draw hr (by omega) rfl (pa_cons (pv 1) (pa_cons pe_int (pa_cons pe_int pa_nil)))) (fun _ _ => rfl)))))
  (Evl.pss_cut (ps_set (i := 16) sc__law_one.nd rfl (Or.inl rfl) (pe_ifExp (pt_val (pv 12)) (pe_mk C_Lacks hr (by omega) rfl (pa_cons (pv 7) (pa_cons (pv 15) (pa_cons (pv 9) pa_nil)))) (pe_mk C_Holds hr (by omega) rfl (pa_cons (pv 7) (pa_cons (pv 15) (pa_cons (pv 11) (pa_cons (pv 9) pa_nil)))))))
  (pss_cons (ps_set (i := 17) sc__law_one.nd rfl (Or.inl rfl) (pe_sl (i := 0) A.held hr (by omega) rfl (by first | exact Or.inl rfl | exact Or.inr (Or.inl rfl) | exact Or.inr (Or.inr rfl)) (pa_cons pe_str (pa_cons (pv 6) (pa_cons (pe_c C__law_top hr (by omega) rfl (pa_cons (pv 0) (pa_cons (pe_lc (own := [("_law_entry", 21)]) (g := gName 21) (tt := tYes) rfl sc__law_one.nd (pi_list (pe_slice sl_list (pv 2) po_none (po_some (pv 6)))) (blkOk_by (N := N__law_one) (sc := defScope s__law_one) (by decide +kernel)) (fun _ _ _ _ _ => (pg_name (i := 21) sc__law_one.nd rfl (Or.inl rfl))) (fun _ _ _ _ _ => pts_nil) (fun _ _ _ _ _ => (pe_sl (i := 0) A.held hr (by omega) rfl (by first | exact Or.inl rfl | exact Or.inr (Or.inl rfl) | exact Or.inr (Or.inr rfl)) (pa_cons pe_str (pa_cons (pe_ix (r := rIxT K) ix_tup (pv 21) pe_int (fun _ _ => rfl)) (pa_cons (pe_ix (r := rIxT K) ix_tup (pv 21) pe_int (fun _ _ => rfl)) pa_nil)))))) pa_nil))) pa_nil)))))
  (pss_cons (ps_set (i := 18) sc__law_one.nd rfl (Or.inl rfl) (pe_mta M_judged takes0 hr (by omega) (pv 16) (pa_cons (pv 0) (pa_cons (pv 5) (pa_cons (pv 17) (pa_cons (pv 14) pa_nil))))))
  (Evl.pss_cut (ps_set (i := 19) sc__law_one.nd rfl (Or.inl rfl) (pe_and (pe_cmpR op_eq (pv 6) (pv 5) (nomark _)) (pe_and (pe_chain op_le op_lt pe_int (pv 7) (pv 5)) (pe_and (pe_cmpR op_eq (pv 9) (pv 3) (nomark _)) (pe_one (pe_cmpR op_eq (pv 15) (pv 8) (nomark _)))))))
  (Evl.pss_cut (ps_if (pt_val (pv 19)) (pss_one (ps_set (i := 19) sc__law_one.nd rfl (Or.inl rfl) (pe_ifExp (pt_val (pv 12)) (pe_cmpR op_isN (pv 10) pe_non (nomark _)) (pe_cmpR op_eq (pv 10) (pv 11) (nomark _))))) pss_nil)
  (Evl.pss_cut (ps_if (pt_val (pv 19)) (pss_one (ps_set (i := 19) sc__law_one.nd rfl (Or.inl rfl) (pe_cmpR (op_eqD hr.units) (pv 14) (pe_c C__law_paper hr (by omega) rfl (pa_cons (pv 0) (pa_cons (pv 2) (pa_cons (pv 7) (pa_cons (pv 8) (pa_cons (pv 5) (pa_cons (pv 3) pa_nil))))))) (nomark _)))) pss_nil)
  (pss_cons (ps_set (i := 20) sc__law_one.nd rfl (Or.inl rfl) (pe_mk C_Follower hr (by omega) rfl (pa_cons (pv 0) pa_nil)))
  (pss_cons (ps_if (PW.pt (pw_or (pt_not (pt_val (pe_mt M_take hr (by omega) (pv 20) (pa_cons (pv 5) (pa_cons (pv 17) (pa_cons (pe_lst pa_nil) pa_nil)))))) (pw_or1 (pt_cmpR op_ne (pe_mt M_judge hr (by omega) (pv 20) (pa_cons (pv 16) (pa_cons (pv 14) pa_nil))) (pv 18) (nomark _))))) (pss_one (ps_ret pe_bl)) pss_nil)
  (pss_one (ps_ret (pe_and (pe_callB call_isi rfl Z.isinstance (by decide +kernel) (pa_cons (pv 16) (pa_cons (pe_glob (v := .ref C_Claim) rfl g_Claim rfl) pa_nil))) (pe_and (pe_callB call_isi rfl Z.isinstance (by decide +kernel) (pa_cons (pv 18) (pa_cons (pe_bltn (v := .ty "bool") rfl Z.bool (by decide +kernel) rfl) pa_nil))) (pe_one (pe_cmpR op_eq (pv 18) (pv 19) (nomark _))))))))))))))))))))))))))), ?_⟩
  refine ⟨_, rfl, _, rfl, B, _, rfl, .inl (SqL.of hB.at_), _, _, _, rfl, by decide, by decide, by omega, fun z1 H1 z10 z11 s1 => ⟨_, _, rfl, rfl, ?_⟩⟩
  obtain ⟨size, hsize, sz0, sz1⟩ : ∃ size : Nat, (1 : Int) + z1 = (size : Int) ∧ 0 < size ∧ size ≤ es.length := ⟨(1 + z1).toNat, by omega, by omega, by omega⟩
  show gName 5 (V.int (1 + z1)) _ _ _
  rw [hsize]
  clear hsize z10 z11
  have x1 := Ext.of_same s1
  have ok1 := G.keep (kp_same s1) hok
  -- held
  refine ⟨fun σ H' => ∃ held : Nat, 0 < held ∧ held ≤ es.length ∧ σ = [some (.ref S0.f), some (.int cell), some (.ref B), some (.int (l : Int)), some (.ref near), some (.int (size : Int)), some (.int (held : Int)), none, none, none, none, none, none, none, none, none, none, none, none, none, none, none] ∧ Ext H H' ∧ S0.ok H' (r + 10000), ?_, ?_⟩
  · refine ⟨_, rfl, _, _, _, rfl, by decide, by decide, by decide, fun z2 H2 _ _ s2 => ⟨rfl, _, rfl, ite2 (fun _ => ?_) (fun _ => ?_)⟩⟩
    · have x2 := x1.trans (Ext.of_same s2)
      refine ⟨_, rfl, _, rfl, B, _, rfl, .inl (SqL.of (x2.lst hB.at_)), _, _, _, rfl, by decide, by decide, by omega, fun z3 H3 z30 z31 s3 => ⟨_, _, rfl, rfl, (1 + z3).toNat, by omega, by omega, ?_, x2.trans (Ext.of_same s3), G.keep (kp_same (s2.trans s3)) ok1⟩⟩
      rw [show (((1 + z3).toNat : Nat) : Int) = 1 + z3 by omega]
      rfl
    · exact ⟨_, rfl, size, sz0, sz1, rfl, x1.trans (Ext.of_same s2), G.keep (kp_same s2) ok1⟩
  rintro σ H2 ⟨held, hd0, hd1, rfl, x2, ok2⟩
  -- place
  refine ⟨fun σ H' => ∃ place : Int, σ = [some (.ref S0.f), some (.int cell), some (.ref B), some (.int (l : Int)), some (.ref near), some (.int (size : Int)), some (.int (held : Int)), some (.int place), none, none, none, none, none, none, none, none, none, none, none, none, none, none] ∧ Ext H H' ∧ S0.ok H' (r + 10000), ?_, ?_⟩
  · refine ⟨_, rfl, _, _, _, rfl, by decide, by decide, by decide, fun z3 H3 _ _ s3 => ⟨rfl, _, rfl, ite2 (fun _ => ?_) (fun _ => ?_)⟩⟩
    · refine ⟨_, rfl, _, rfl, _, _, rfl, rfl, _, _, _, rfl, by decide, by decide, by omega, fun z4 H4 z40 z41 s4 => ?_⟩
      exact ⟨_, rfl, x2.trans (Ext.of_same (s3.trans s4)), G.keep (kp_same (s3.trans s4)) ok2⟩
    · refine ⟨_, rfl, _, rfl, _, _, _, rfl, by decide, by decide, by omega, fun z4 H4 z40 z41 s4 => ?_⟩
      exact ⟨_, rfl, x2.trans (Ext.of_same (s3.trans s4)), G.keep (kp_same (s3.trans s4)) ok2⟩
  rintro σ H3 ⟨place, rfl, x3, ok3⟩
  clear x2 ok2
  refine ⟨fun σ H' => ∃ place : Int, σ = [some (.ref S0.f), some (.int cell), some (.ref B), some (.int (l : Int)), some (.ref near), some (.int (size : Int)), some (.int (held : Int)), some (.int place), none, none, none, none, none, none, none, none, none, none, none, none, none, none] ∧ Ext H H' ∧ S0.ok H' (r + 10000), ?_, ?_⟩
  · refine ⟨_, rfl, _, _, _, rfl, by decide, by decide, by decide, fun z4 H4 _ _ s4 => ⟨rfl, _, rfl, ite2 (fun _ => ?_) (fun _ => ?_)⟩⟩
    · refine ⟨_, rfl, _, rfl, _, _, rfl, rfl, by show 2 ≤ sizeLine; decide, fun p2 np2 => ?_⟩
      have u5 := Ext.new (o := .tup [.int (-1), .int (0 - (size : Int))]) np2
      have k5 := Kp.new (o := .tup [.int (-1), .int (0 - (size : Int))]) np2
      refine ⟨_, rfl, _, _, _, rfl, by decide, by decide, by decide, fun z5 H5 z50 z51 s5 => ?_⟩
      obtain ⟨w, hw⟩ : ∃ w : Int, atI [V.int (-1), V.int (0 - (size : Int))] z5 = some (.int w) := by
        have : z5 = 0 ∨ z5 = 1 := by omega
        rcases this with rfl | rfl
        · exact ⟨_, rfl⟩
        · exact ⟨_, rfl⟩
      exact ⟨p2, _, z5, _, rfl, rfl, SqT.of (s5 _ _ upd_same), hw, w, rfl, ((x3.trans (Ext.of_same s4)).trans u5).trans (Ext.of_same s5), G.keep (((kp_same s4).trans k5).trans (kp_same s5)) ok3⟩
    · exact ⟨_, rfl, x3.trans (Ext.of_same s4), G.keep (kp_same s4) ok3⟩
  clear x3 ok3
  clear place
  rintro σ H3 ⟨place, rfl, x3, ok3⟩
  -- key
  refine ⟨_, rfl, _, rfl, _, rfl, near, _, rfl, .inl (SqL.of (x3.lst hn)), _, _, _, rfl, by decide, by decide, by rw [List.length_map]; omega, fun z4 H4 z40 z41 s4 => ?_⟩
  rw [List.length_map] at z41
  obtain ⟨j, rfl⟩ := Int.eq_ofNat_of_zero_le z40
  have hj : j < ks.length := by omega
  have hkj : (ks.map V.int)[j]? = some (.int ks[j]) := by rw [List.getElem?_map, List.getElem?_eq_getElem hj]; rfl
  have x4 := x3.trans (Ext.of_same s4)
  refine ⟨near, _, _, _, rfl, rfl, SqL.of (x4.lst hn), atI_nat hkj, _, rfl, _, _, _, rfl, by decide, by decide, by decide, fun z5 H5 z50 z51 s5 => ⟨_, _, rfl, rfl, ?_⟩⟩
  obtain ⟨b1, b2⟩ := xor01_in hl16.1 (hin _ (List.getElem_mem hj)) z50 z51
  show gName 8 (V.int (Builtin.bitXor ks[j] z5)) _ _ _
  generalize Builtin.bitXor ks[j] z5 = key at b1 b2
  have x5 := x4.trans (Ext.of_same s5)
  have ok5 := G.keep (kp_same (s4.trans s5)) ok3
  clear hkj
  -- deep
  refine ⟨_, rfl, _, rfl, by show 6 ≤ sizeLine; decide, fun p6 np6 => ?_⟩
  have u6 := Ext.new (o := .tup [.int 0, .int 0, .int 0, .int 0, .int 1, .int (-1)]) np6
  have k6 := Kp.new (o := .tup [.int 0, .int 0, .int 0, .int 0, .int 1, .int (-1)]) np6
  refine ⟨_, rfl, _, _, _, rfl, by decide, by decide, by decide, fun z7 H7 z70 z71 s7 => ?_⟩
  obtain ⟨wd, hwd⟩ : ∃ w : Int, atI [V.int 0, .int 0, .int 0, .int 0, .int 1, .int (-1)] z7 = some (.int w) := by
    have : z7 = 0 ∨ z7 = 1 ∨ z7 = 2 ∨ z7 = 3 ∨ z7 = 4 ∨ z7 = 5 := by omega
    rcases this with rfl | rfl | rfl | rfl | rfl | rfl
    all_goals exact ⟨_, rfl⟩
  refine ⟨p6, _, z7, _, rfl, rfl, SqT.of (s7 _ _ upd_same), hwd, _, _, rfl, rfl, ?_⟩
  show gName 9 (V.int ((l : Int) + wd)) _ _ _
  generalize (l : Int) + wd = deep
  have x7 := (x5.trans u6).trans (Ext.of_same s7)
  have ok7 := G.keep (k6.trans (kp_same s7)) ok5
  have hB7 := hB.ext G x7
  clear x3 x4 x5 ok3 ok5
  -- there
  have clampE := clamp_ix place sz0
  refine ⟨fun σ H' => ∃ (ix : Nat) (e : En) (there : V), (0 ≤ place → place < (size : Int) → place = (ix : Int)) ∧ ix < size ∧ es[ix]? = some e ∧ there = ((getI e.2 key).map V.str).getD .non ∧ σ = [some (.ref S0.f), some (.int cell), some (.ref B), some (.int (l : Int)), some (.ref near), some (.int (size : Int)), some (.int (held : Int)), some (.int place), some (.int key), some (.int deep), some there, none, none, none, none, none, none, none, none, none, none, none] ∧ Ext H H' ∧ S0.ok H' (r + 10000), ?_, ?_⟩
  · obtain ⟨ix, hix, hixs, hixp⟩ := clampE
    have hpe : ix < es.length := by omega
    have hx : xs[ix]? = some (xs[ix]'(by omega)) := List.getElem?_eq_getElem _
    have he : es[ix]? = some (es[ix]'hpe) := List.getElem?_eq_getElem _
    obtain ⟨te, dh, hv, g1, g2, g3, g4⟩ := hB7.en.at_ _ _ _ hx he
    rw [g1] at hx
    refine ⟨_, rfl, _, rfl, _, rfl, _, _, rfl, rfl, _, _, rfl, _, _, rfl, B, xs, _, .ref te, rfl, rfl, SqL.of hB7.at_, by rw [hix]; exact atI_nat hx, te, _, 1, .ref dh, rfl, rfl, SqT.of g2, rfl, dh, rfl, .inl ⟨_, .inl g3⟩, _, rfl, _, DGet.k (k := .inl key) g3, ?_⟩
    rw [conv_get]
    exact ⟨ix, _, _, hixp, hixs, he, rfl, rfl, x7, ok7⟩
  clear clampE hB7 x7 ok7
  rintro σ H8 ⟨ix, e, there, hixp, hixs, he, hth, rfl, x8, ok8⟩
  -- said
  refine ⟨fun σ H' => ∃ said : Str, σ = [some (.ref S0.f), some (.int cell), some (.ref B), some (.int (l : Int)), some (.ref near), some (.int (size : Int)), some (.int (held : Int)), some (.int place), some (.int key), some (.int deep), some there, some (.str said), none, none, none, none, none, none, none, none, none, none] ∧ Ext H H' ∧ S0.ok H' (r + 10000), ?_, ?_⟩
  · refine ⟨_, rfl, _, _, _, rfl, by decide, by decide, by decide, fun z9 H9 _ _ s9 => ⟨rfl, _, rfl, ite2 (fun _ => iteT ?_) (fun _ => ?_)⟩⟩
    · exact ⟨_, rfl, _, rfl, fun t H10 pt lt s10 => ⟨_, rfl, x8.trans (Ext.of_same (s9.trans s10)), G.keep (kp_same (s9.trans s10)) ok8⟩⟩
    · refine ⟨_, rfl, rfl, _, rfl, ?_⟩
      cases hg : getI e.2 key with
      | none =>
        rw [hg] at hth
        subst hth
        rw [decide_eq_true (show ((none : Option Str).map V.str).getD .non = V.non from rfl)]
        refine iteT ?_
        exact ⟨_, rfl, _, rfl, fun t H10 pt lt s10 => ⟨_, rfl, x8.trans (Ext.of_same (s9.trans s10)), G.keep (kp_same (s9.trans s10)) ok8⟩⟩
      | some x =>
        rw [hg] at hth
        subst hth
        rw [decide_eq_false (show ¬ ((some x).map V.str).getD .non = V.non from fun z => nomatch z)]
        refine iteF ?_
        exact ⟨_, rfl, x, rfl, x8.trans (Ext.of_same s9), G.keep (kp_same s9) ok8⟩
  clear x8 ok8
  rintro σ H9 ⟨said, rfl, x9, ok9⟩
  -- lacks
  refine ⟨fun σ H' => ∃ lacks : Bool, σ = [some (.ref S0.f), some (.int cell), some (.ref B), some (.int (l : Int)), some (.ref near), some (.int (size : Int)), some (.int (held : Int)), some (.int place), some (.int key), some (.int deep), some there, some (.str said), some (.bl lacks), none, none, none, none, none, none, none, none, none] ∧ Ext H H' ∧ S0.ok H' (r + 10000), ?_, ?_⟩
  · refine ⟨_, rfl, _, _, _, rfl, by decide, by decide, by decide, fun z10 H10 _ _ s10 => ⟨rfl, _, rfl, ite2 (fun _ => ?_) (fun _ => ?_)⟩⟩
    · refine ⟨_, rfl, _, _, _, rfl, by decide, by decide, by decide, fun z11 H11 _ _ s11 => ⟨rfl, ?_⟩⟩
      exact ⟨_, rfl, x9.trans (Ext.of_same (s10.trans s11)), G.keep (kp_same (s10.trans s11)) ok9⟩
    · exact ⟨_, rfl, rfl, _, rfl, x9.trans (Ext.of_same s10), G.keep (kp_same s10) ok9⟩
  clear x9 ok9
  rintro σ H10 ⟨lacks, rfl, x10, ok10⟩
  -- asked
  refine ⟨fun σ H' => ∃ (aq : Addr) (ap : Nat) (ak : Int), ap < size ∧ 0 ≤ ak ∧ H' aq = some (.tup [.int (ap : Int), .int ak]) ∧ σ = [some (.ref S0.f), some (.int cell), some (.ref B), some (.int (l : Int)), some (.ref near), some (.int (size : Int)), some (.int (held : Int)), some (.int place), some (.int key), some (.int deep), some there, some (.str said), some (.bl lacks), some (.ref aq), none, none, none, none, none, none, none, none] ∧ Ext H H' ∧ S0.ok H' (r + 10000), ?_, ?_⟩
  · refine ⟨_, rfl, _, _, _, rfl, by decide, by decide, by decide, fun z11 H11 _ _ s11 => ⟨_, _, rfl, rfl, _, rfl, ite2 (fun _ => ?_) (fun _ => ?_)⟩⟩
    · obtain ⟨iy, hiy, hiys, _⟩ := clamp_ix place sz0
      refine ⟨_, rfl, _, rfl, _, _, rfl, rfl, _, _, rfl, _, _, rfl, ?_⟩
      rw [hiy]
      refine ⟨_, rfl, by show 2 ≤ sizeLine; decide, fun aq naq => ?_⟩
      have u := Ext.new (o := .tup [.int (iy : Int), .int key]) naq
      exact ⟨aq, iy, key, hiys, b1, upd_same, rfl, (x10.trans (Ext.of_same s11)).trans u, G.keep ((kp_same s11).trans (Kp.new naq)) ok10⟩
    · refine ⟨_, rfl, _, rfl, _, _, _, rfl, by decide, by decide, by omega, fun z12 H12 z120 z121 s12 => ?_⟩
      obtain ⟨iy, rfl⟩ := Int.eq_ofNat_of_zero_le z120
      have x12 := (x10.trans (Ext.of_same s11)).trans (Ext.of_same s12)
      have hk0 : (ks.map V.int)[0]? = some (.int ks[0]) := by rw [List.getElem?_map, List.getElem?_eq_getElem kpos]; rfl
      refine ⟨_, rfl, near, _, 0, _, rfl, rfl, SqL.of (x12.lst hn), atI_nat hk0, by show 2 ≤ sizeLine; decide, fun aq naq => ?_⟩
      have u := Ext.new (o := .tup [.int (iy : Int), .int ks[0]]) naq
      exact ⟨aq, iy, ks[0], by omega, (hin _ (List.getElem_mem kpos)).1, upd_same, rfl, x12.trans u, G.keep (((kp_same s11).trans (kp_same s12)).trans (Kp.new naq)) ok10⟩
  clear x10 ok10
  rintro σ H11 ⟨aq, ap, ak, hap, hak, haq, rfl, x11, ok11⟩
  -- paper
  have hB11 := hB.ext G x11
  refine ⟨_, rfl, _, rfl, _, rfl, _, rfl, aq, _, 0, _, rfl, rfl, SqT.of haq, rfl, _, rfl, aq, _, 1, _, rfl, rfl, SqT.of haq, rfl, _, rfl, _, rfl, S0, B, l, xs, es, ap, size, ak, r + 5800, hF, rfl, hB11, hap, sz1, hak, ok11, fun pv0 H12 x12 ok12 hpv0 => ?_⟩
  obtain ⟨e0, he0⟩ : ∃ e0, es[ap]? = some e0 := ⟨es[ap]'(by omega), List.getElem?_eq_getElem _⟩
  have hme0 := List.mem_of_getElem? he0
  have hpv0 : PapAt K S0 H12 pv0 (some (S e0.1, headT l e0.2, some (pathT ((es.map (leafT l)).take size) ap), some ((wayT l (srtI e0.2) ak).1, some (wayT l (srtI e0.2) ak).2))) := by
    unfold ownPap at hpv0
    rw [he0] at hpv0
    exact hpv0
  have hplen : (pathT ((es.map (leafT l)).take size) ap).length ≤ 18 := by
    rw [pathT_len]
    have := plen_le 9 ap ((es.map (leafT l)).take size).length (by rw [List.length_take, List.length_map]; show _ ≤ 512; omega)
    omega
  have hwlen := wayT_len l (srtI e0.2) ak
  have htl0 := hB.tl e0 hme0
  refine ⟨_, rfl, S0, pv0, _, _, _, _, _, cell, r + 5700, hF, rfl, hpv0, hplen, by omega, by rw [S_len]; omega, G.less ok12 (by omega), fun pv pm H13 x13 ok13 hpv => ?_⟩
  clear hpv0 hplen hwlen htl0
  have x113 := (x11.trans x12).trans x13
  -- named
  have h2l : (2 : Nat) ^ l ≤ 65536 := Nat.pow_le_pow_right (by decide) hl16.2
  have h2c : ((2 ^ l : Nat) : Int) = 2 ^ l := by rw [Int.natCast_pow]; rfl
  refine ⟨_, rfl, _, rfl, l, rfl, rfl, by omega, _, rfl, by show 7 ≤ sizeLine; decide, fun p7 np7 => ?_⟩
  have u7 := Ext.new (o := .tup [.int 0, .int 0, .int 0, .int 0, .int 0, .int 1, .int (-1)]) np7
  have k7 := Kp.new (o := .tup [.int 0, .int 0, .int 0, .int 0, .int 0, .int 1, .int (-1)]) np7
  refine ⟨_, rfl, _, _, _, rfl, by decide, by decide, by decide, fun z14 H14 z140 z141 s14 => ?_⟩
  obtain ⟨wn, hwn, wn0⟩ : ∃ w : Int, atI [V.int 0, .int 0, .int 0, .int 0, .int 0, .int 1, .int (-1)] z14 = some (.int w) ∧ (w = 0 ∨ w = 1 ∨ w = -1) := by
    have : z14 = 0 ∨ z14 = 1 ∨ z14 = 2 ∨ z14 = 3 ∨ z14 = 4 ∨ z14 = 5 ∨ z14 = 6 := by omega
    rcases this with rfl | rfl | rfl | rfl | rfl | rfl | rfl
    all_goals first | exact ⟨_, rfl, .inl rfl⟩ | exact ⟨_, rfl, .inr (.inl rfl)⟩ | exact ⟨_, rfl, .inr (.inr rfl)⟩
  refine ⟨p7, _, z14, _, rfl, rfl, SqT.of (s14 _ _ upd_same), hwn, _, _, rfl, rfl, ?_, _, _, rfl, rfl, ?_⟩
  · exact .inl ⟨by omega, by omega⟩
  show gName 15 (V.int (key + 2 ^ l * wn)) _ _ _
  have hnk : ∀ {named : Int}, key + 2 ^ l * wn = named → 0 ≤ named → named < 2 ^ l → named = key := fun {named} h h1 h2 => by
    generalize (2 : Int) ^ l = M at *
    rcases wn0 with rfl | rfl | rfl
    · omega
    · omega
    · omega
  generalize hnm : key + 2 ^ l * wn = named
  have hnk := hnk hnm
  clear hnm
  have x14 := (x113.trans u7).trans (Ext.of_same s14)
  have ok14 := G.keep (k7.trans (kp_same s14)) ok13
  have hpv14 := hpv.ext G (u7.trans (Ext.of_same s14))
  -- claim
  refine ⟨fun σ H' => ∃ (cp gdx : Addr), H' cp = some (.ins (clB CH CL ⟨place, named, deep, if lacks = true then none else some said⟩) gdx (bhF ⟨place, named, deep, if lacks = true then none else some said⟩)) ∧ σ = [some (.ref S0.f), some (.int cell), some (.ref B), some (.int (l : Int)), some (.ref near), some (.int (size : Int)), some (.int (held : Int)), some (.int place), some (.int key), some (.int deep), some there, some (.str said), some (.bl lacks), some (.ref aq), some pv, some (.int named), some (.ref cp), none, none, none, none, none] ∧ Ext H H' ∧ PapAt K S0 H' pv pm ∧ S0.ok H' (r + 5700), ?_, ?_⟩
  · refine ⟨_, rfl, _, rfl, ?_⟩
    cases lacks with
    | true =>
      refine iteT ?_
      refine ⟨_, rfl, _, rfl, _, rfl, fun cp cdx ncp ncdx nce => ?_⟩
      have y1 : Ext H14 (upd (upd H14 cdx (.own cp)) cp (.ins CL cdx [])) := (Ext.new ncdx).trans (Ext.new (by rw [upd_ne nce.symm]; exact ncp))
      have ky1 : Kp H14 (upd (upd H14 cdx (.own cp)) cp (.ins CL cdx [])) := (Kp.new ncdx).trans (Kp.new (by rw [upd_ne nce.symm]; exact ncp))
      refine ⟨cp, cdx, place, named, deep, rfl, upd_same, fun H15 xo kp h15 => ⟨rfl, ?_⟩⟩
      have x15 := xo.ext y1 ncp
      exact ⟨cp, cdx, h15, rfl, x14.trans x15, hpv14.ext G x15, G.keep (ky1.trans kp) ok14⟩
    | false =>
      refine iteF ?_
      refine ⟨_, rfl, _, rfl, _, rfl, _, rfl, fun cp cdx ncp ncdx nce => ?_⟩
      have y1 : Ext H14 (upd (upd H14 cdx (.own cp)) cp (.ins CH cdx [])) := (Ext.new ncdx).trans (Ext.new (by rw [upd_ne nce.symm]; exact ncp))
      have ky1 : Kp H14 (upd (upd H14 cdx (.own cp)) cp (.ins CH cdx [])) := (Kp.new ncdx).trans (Kp.new (by rw [upd_ne nce.symm]; exact ncp))
      refine ⟨cp, cdx, place, named, deep, said, rfl, upd_same, fun H15 xo kp h15 => ⟨rfl, ?_⟩⟩
      have x15 := xo.ext y1 ncp
      exact ⟨cp, cdx, h15, rfl, x14.trans x15, hpv14.ext G x15, G.keep (ky1.trans kp) ok14⟩
  clear hpv14 x14 ok14 u7 k7 hpv x113 x13 ok13 x12 ok12
  rintro σ H15 ⟨cp, gdx, hcp, rfl, x15, hpv15, ok15⟩
  obtain ⟨c, hc⟩ : ∃ c : BhCl, c = ⟨place, named, deep, if lacks = true then none else some said⟩ := ⟨_, rfl⟩
  rw [← hc] at hcp
  -- head
  have hB15 := hB.ext G x15
  refine ⟨S0, _, hF, rfl, ok15, _, rfl, _, rfl, _, rfl, _, rfl, (held : Int), rfl, B, xs, rfl, SqL.of hB15.at_, fun p1 np1 => ?_⟩
  rw [cut_to]
  have u1 := Ext.new (o := .lst (xs.take held)) np1
  have k1 := Kp.new (o := .lst (xs.take held)) np1
  have h1 : upd H15 p1 (.lst (xs.take held)) p1 = some (.lst (xs.take held)) := upd_same
  generalize upd H15 p1 (.lst (xs.take held)) = H16 at u1 k1 h1 ⊢
  have hB16 := hB15.ext G u1
  have ok16 := G.keep k1 ok15
  refine ⟨p1, rfl, ⟨_, SqL.of h1⟩, fun D nD => ?_⟩
  refine lc_list (K := K) (a := p1) (xs := xs.take held) (fun i H' => ∃ ys, Ext H16 H' ∧ H' D = some (.lst ys) ∧ S0.ok H' (r + 5700 - i) ∧ DenL S0 H' ys ((es.take i).map (leafT l)))
    ⟨[], Ext.new nD, upd_same, G.keep (Kp.new nD) ok16, DenL.nil⟩ (fun i H' _ ⟨_, x, _⟩ => SqL.of (x.lst h1)) ?_ ?_
  · rintro i w H' hi ⟨ys, x, hD, hok', hd⟩
    have hil : i < held ∧ i < es.length := by
      have := (List.getElem?_eq_some_iff.mp hi).1
      rw [List.length_take] at this
      omega
    rw [List.getElem?_take_of_lt hil.1] at hi
    have hei : es[i]? = some (es[i]'hil.2) := List.getElem?_eq_getElem _
    have hmem := List.getElem_mem hil.2
    obtain ⟨t, dh, hv, rfl, ht, _, hden⟩ := (hB16.en.ext G x).at_ i w _ hi hei
    generalize es[i]'hil.2 = e at hei hmem ht hden
    have hr1 : r + 5700 - i = (r + 5700 - (i + 1)) + 1 := by omega
    refine ⟨rfl, S0, _, hF, rfl, hok', _, rfl, t, _, 0, _, rfl, rfl, SqT.of ht, rfl, _, rfl, t, _, 2, _, rfl, rfl, SqT.of ht, rfl, r + 5700 - (i + 1), "leaf", .str (S e.1), headT l e.2, _, _, rfl, by decide +kernel, by rw [← hr1]; exact hok', G.str _ hok' (hB.ok e hmem).2.2, hden, fun u H2 x2 ok2 du => ?_⟩
    have hl2 := hd.len
    rw [List.length_map, List.length_take] at hl2
    have hD2 := x2.lst hD
    refine ⟨ys, hD2, by omega, ys ++ [u], (x.trans x2).mut nD, upd_same, G.keep (Kp.lst hD2) ok2, ?_⟩
    rw [List.take_succ, hei, List.map_append]
    exact (hd.mono G (x2.gr.trans (Kp.lst hD2).gr)).append (DenL.one (G.mono (Kp.lst hD2).gr du))
  rintro H17 ⟨ls, x17, hD, ok17, hd⟩
  have hls : (xs.take held).length = held := by rw [List.length_take]; omega
  rw [hls] at ok17 hd
  rw [List.map_take] at hd
  have lt : ((es.map (leafT l)).take held).length = held := by rw [List.length_take, List.length_map]; omega
  have ct := costT_le ((es.map (leafT l)).take held).length
  refine ⟨S0, D, ls, _, r + 5001, hF, rfl, SqL.of hD, hd, by decide, by rw [lt]; show _ ≤ 512; omega, by omega, G.less ok17 (by omega), fun tv H18 x18 ok18 d18 => ?_⟩
  refine ⟨r + 5000, "book", .int (held : Int), _, _, _, rfl, by decide +kernel, ok18, G.int _ ok18, d18, fun hv H19 x19 ok19 dh => ?_⟩
  have x1519 := ((u1.trans x17).trans x18).trans x19
  have x19' := x15.trans x1519
  have hcp19 := x1519.ins hcp
  have hpv19 := hpv15.ext G x1519
  have hlf : ∀ t ∈ (es.map (leafT l)).take held, WS t ∧ t.dep ≤ 19 := fun t ht => by
    obtain ⟨e, _, rfl⟩ := List.mem_map.mp (List.mem_of_mem_take ht)
    exact leaf_ok hl16.2 e
  have tws := topT_ws fun t ht => (hlf t ht).1
  have tdp := topT_dep (d := 19) 6 ((es.map (leafT l)).take held) (by rw [lt]; show _ ≤ 64; omega) fun t ht => (hlf t ht).2
  -- found
  refine ⟨_, rfl, clB CH CL c, _, cp, gdx, _, csB_at K CH CL Fam c, rfl, hcp19, (bhF_no c).1, _, rfl, _, rfl, _, rfl, _, rfl, S0, cp, gdx, c, size, (held : Int), _, hv, pv, pm, r + 4900, hF, rfl, hcp19, rfl, by omega, dh, tws, by omega, hpv19, G.less ok19 (by omega), fun H20 x20 ok20 => ?_⟩
  obtain ⟨found, hfd⟩ : ∃ b, b = judgeB c size (.sl "book" (.int (held : Int)) (topT ((es.map (leafT l)).take held))) pm := ⟨_, rfl⟩
  rw [← hfd]
  have x20' := x19'.trans x20
  have dh20 := G.mono x20.gr dh
  have hcp20 := x20.ins hcp19
  have hpv20 := hpv19.ext G x20
  clear hpv19 hcp19 dh x19 x19' x1519 ok19 hpv15 hcp x15 ok15 hB15 hB16 ok16 ok17 ok18
  -- due, by the numbers
  refine ⟨fun σ H' => ∃ due : Bool, due = decide (held = size ∧ 0 ≤ place ∧ place < (size : Int) ∧ deep = (l : Int) ∧ named = key) ∧ σ = [some (.ref S0.f), some (.int cell), some (.ref B), some (.int (l : Int)), some (.ref near), some (.int (size : Int)), some (.int (held : Int)), some (.int place), some (.int key), some (.int deep), some there, some (.str said), some (.bl lacks), some (.ref aq), some pv, some (.int named), some (.ref cp), some hv, some (.bl found), some (.bl due), none, none] ∧ H20 = H', ?_, ?_⟩
  · refine ⟨_, rfl, _, rfl, rfl, ?_⟩
    by_cases c1 : held = size
    · rw [decide_eq_true (show V.int (held : Int) = V.int (size : Int) by rw [c1])]
      refine ⟨_, rfl, iteT ?_⟩
      refine ⟨_, rfl, _, _, rfl, rfl, _, rfl, ?_⟩
      by_cases c2 : 0 ≤ place
      · rw [decide_eq_true c2]
        refine iteT ?_
        refine ⟨_, rfl, _, _, rfl, rfl, _, rfl, ?_⟩
        by_cases c3 : place < (size : Int)
        · rw [decide_eq_true c3]
          refine iteT ?_
          refine ⟨_, rfl, _, rfl, rfl, ?_⟩
          by_cases c4 : deep = (l : Int)
          · rw [decide_eq_true (show V.int deep = V.int (l : Int) by rw [c4])]
            refine ⟨_, rfl, iteT ?_⟩
            refine ⟨_, rfl, _, rfl, rfl, ?_⟩
            refine ⟨_, ?_, rfl, rfl⟩
            exact decide_eq_decide.mpr ⟨fun z => ⟨c1, c2, c3, c4, V.int.inj z⟩, fun z => congrArg V.int z.2.2.2.2⟩
          · rw [decide_eq_false (show ¬ V.int deep = V.int (l : Int) from fun z => c4 (V.int.inj z))]
            refine ⟨_, rfl, iteF ?_⟩
            exact ⟨false, (decide_eq_false fun z => c4 z.2.2.2.1).symm, rfl, rfl⟩
        · rw [decide_eq_false c3]
          refine iteF ?_
          exact ⟨false, (decide_eq_false fun z => c3 z.2.2.1).symm, rfl, rfl⟩
      · rw [decide_eq_false c2]
        refine ⟨_, rfl, iteF ?_⟩
        exact ⟨false, (decide_eq_false fun z => c2 z.2.1).symm, rfl, rfl⟩
    · rw [decide_eq_false (show ¬ V.int (held : Int) = V.int (size : Int) from fun z => c1 (by have := V.int.inj z; omega))]
      refine ⟨_, rfl, iteF ?_⟩
      exact ⟨false, (decide_eq_false fun z => c1 z.1).symm, rfl, rfl⟩
  rintro σ H' ⟨due, hdue, rfl, rfl⟩
  -- due, by what is there
  refine ⟨fun σ H' => ∃ due : Bool, due = (decide (held = size ∧ 0 ≤ place ∧ place < (size : Int) ∧ deep = (l : Int) ∧ named = key) && thereB ⟨place, key, deep, if lacks = true then none else some said⟩ e.2) ∧ σ = [some (.ref S0.f), some (.int cell), some (.ref B), some (.int (l : Int)), some (.ref near), some (.int (size : Int)), some (.int (held : Int)), some (.int place), some (.int key), some (.int deep), some there, some (.str said), some (.bl lacks), some (.ref aq), some pv, some (.int named), some (.ref cp), some hv, some (.bl found), some (.bl due), none, none] ∧ H20 = H', ?_, ?_⟩
  · refine ⟨_, rfl, _, rfl, ?_⟩
    cases due with
    | false =>
      rw [← hdue]
      refine iteF ?_
      exact ⟨false, rfl, rfl, rfl⟩
    | true =>
      rw [← hdue]
      refine iteT ?_
      refine ⟨_, rfl, _, rfl, ?_⟩
      cases lacks with
      | true =>
        refine iteT ?_
        refine ⟨_, rfl, rfl, ?_⟩
        refine ⟨_, ?_, rfl, rfl⟩
        show _ = (getI e.2 key).isNone
        rw [hth]
        cases getI e.2 key with
        | none => exact decide_eq_true rfl
        | some x => exact decide_eq_false fun z => nomatch z
      | false =>
        refine iteF ?_
        refine ⟨_, rfl, _, rfl, by rw [hth]; cases getI e.2 key <;> rfl, ?_⟩
        refine ⟨_, ?_, rfl, rfl⟩
        show _ = decide (getI e.2 key = some said)
        rw [hth]
        cases getI e.2 key with
        | none => exact decide_eq_decide.mpr ⟨fun z => (nomatch z), fun z => (nomatch z)⟩
        | some x => exact decide_eq_decide.mpr ⟨fun z => congrArg some (V.str.inj z), fun z => congrArg V.str (Option.some.inj z)⟩
  clear hdue due
  rintro σ H' ⟨due, hdue, rfl, rfl⟩
  have hJ := judge_law (fun e he => (hB.ok e he).1) ⟨sz0, sz1⟩ hd1 hl16 c pm hpv20.okm
  rw [← hfd] at hJ
  have hmt := List.mem_of_getElem? he
  -- due, by the paper
  refine ⟨fun σ H' => ∃ due : Bool, due = found ∧ σ = [some (.ref S0.f), some (.int cell), some (.ref B), some (.int (l : Int)), some (.ref near), some (.int (size : Int)), some (.int (held : Int)), some (.int place), some (.int key), some (.int deep), some there, some (.str said), some (.bl lacks), some (.ref aq), some pv, some (.int named), some (.ref cp), some hv, some (.bl found), some (.bl due), none, none] ∧ Ext H20 H' ∧ S0.ok H' (r + 300), ?_, ?_⟩
  · refine ⟨_, rfl, ?_⟩
    cases hd : due with
    | false =>
      rw [hd] at hdue
      refine ⟨_, rfl, iteF ?_⟩
      refine ⟨false, ?_, rfl, Ext.refl _, G.less ok20 (by omega)⟩
      cases found with
      | false => rfl
      | true =>
        obtain ⟨h1, h2, h3, h4, h5, h6, e', h7, h8, h9⟩ := hJ.mp rfl
        rw [hc] at h2 h3 h4 h5 h6 h7 h8
        have h2 : 0 ≤ place := h2
        have h3 : place < (size : Int) := h3
        have h4 : deep = (l : Int) := h4
        have h5 : named = key := hnk h5 h6
        have h10 := hixp h2 h3
        have h7 : es[place.toNat]? = some e' := h7
        rw [h10, Int.toNat_natCast, he] at h7
        cases h7
        have h8 : thereB ⟨place, named, deep, if lacks = true then none else some said⟩ e.2 = true := h8
        rw [h5] at h8
        rw [decide_eq_true ⟨h1, h2, h3, h4, h5⟩, Bool.true_and, h8] at hdue
        cases hdue
    | true =>
      rw [hd] at hdue
      have hdue := Bool.and_eq_true_iff.mp hdue.symm
      obtain ⟨c1, c2, c3, c4, c5⟩ := of_decide_eq_true hdue.1
      have hpl := hixp c2 c3
      refine ⟨_, rfl, iteT ?_⟩
      have hB20 := hB.ext G x20'
      refine ⟨_, rfl, _, rfl, _, rfl, _, rfl, _, rfl, _, rfl, _, rfl, S0, B, l, xs, es, ix, size, key, r + 300, hF, by rw [hpl]; rfl, hB20, hixs, sz1, b1, G.less ok20 (by omega), fun ov H21 x21 ok21 hov => ?_⟩
      have hov2 := hov
      unfold ownPap at hov2
      rw [he] at hov2
      obtain ⟨d, d', e1, e2, e3, e4, e5⟩ := pap_apart (I3 hF) ok21 (hpv20.ext G x21) hov2
      refine ⟨d, d', e1, e2, e3, e4, ?_⟩
      rw [e5]
      refine ⟨_, ?_, rfl, x21, ok21⟩
      have ho : ownPap l es size ix key = some (S e.1, headT l e.2, some (pathT ((es.map (leafT l)).take size) ix), some ((wayT l (srtI e.2) key).1, some (wayT l (srtI e.2) key).2)) := by
        unfold ownPap
        rw [he]
      rw [← ho]
      have hiff : pm = ownPap l es size ix key ↔ found = true := by
        rw [hJ, hc]
        constructor
        · intro z
          refine ⟨c1, c2, c3, c4, by show 0 ≤ named; rw [c5]; exact b1, by show named < 2 ^ l; rw [c5]; exact b2, e, ?_, ?_, ?_⟩
          · show es[place.toNat]? = some e
            rw [hpl, Int.toNat_natCast]
            exact he
          · show thereB ⟨place, named, deep, _⟩ e.2 = true
            rw [c5]
            exact hdue.2
          · show pm = ownPap l es size place.toNat named
            rw [c5, hpl, Int.toNat_natCast]
            exact z
        · rintro ⟨_, _, _, _, _, _, _, _, _, z⟩
          have z : pm = ownPap l es size place.toNat named := z
          rw [c5, hpl, Int.toNat_natCast] at z
          exact z
      cases found with
      | true => exact decide_eq_true (hiff.mpr rfl)
      | false => exact decide_eq_false fun z => nomatch hiff.mp z
  clear hdue due
  rintro σ H21 ⟨due, rfl, rfl, x21, ok21⟩
  have x0 := x20'.trans x21
  have hcp21 := x21.ins hcp20
  have hpv21 := hpv20.ext G x21
  have dh21 := G.mono x21.gr dh20
  -- a follower
  refine ⟨_, rfl, fun fp fx nf nfx nfe => ?_⟩
  have z1 : Ext H21 (upd (upd H21 fx (.own fp)) fp (.ins CF fx [])) := (Ext.new nfx).trans (Ext.new (by rw [upd_ne nfe.symm]; exact nf))
  have kz1 : Kp H21 (upd (upd H21 fx (.own fp)) fp (.ins CF fx [])) := (Kp.new nfx).trans (Kp.new (by rw [upd_ne nfe.symm]; exact nf))
  refine ⟨S0, fp, fx, r + 200, hF, rfl, upd_same, G.less (G.keep kz1 ok21) (by omega), fun H22 hv0 xo22 ok22 hf22 hd22 => ⟨rfl, ?_⟩⟩
  have x22 : Ext H21 H22 := xo22.ext z1 nf
  have hbk : BkT (.sl "book" (.int (held : Int)) (topT ((es.map (leafT l)).take held))) := ⟨_, _, rfl, tws, by omega⟩
  refine ⟨_, rfl, fp, fx, _, rfl, hf22, (fwF_no _ _ _).1, _, rfl, _, rfl, by show 0 ≤ sizeLine; decide, fun el nel => ?_⟩
  have u23 := Ext.new (o := .lst []) nel
  have k23 := Kp.new (o := .lst []) nel
  have hel : upd H22 el (.lst []) el = some (.lst []) := upd_same
  generalize upd H22 el (.lst []) = H23 at u23 k23 hel ⊢
  have hpe : Pap K S0 H23 (.ref el) (some []) := ⟨el, [], rfl, hel, DenL.nil, Nat.zero_le _, fun t h => nomatch h⟩
  refine ⟨S0, fp, fx, 0, hv0, emptyT, size, hv, _, .ref el, some [], r + 100, hF, rfl, u23.ins hf22, G.mono u23.gr hd22, empty_bk, by omega, G.mono (x22.trans u23).gr dh21, hbk, hpe, G.less (G.keep k23 ok22) (by omega), fun H24 xo24 ok24 hf24 => ?_⟩
  have htk : takeB 0 size emptyT (.sl "book" (.int (held : Int)) (topT ((es.map (leafT l)).take held))) (some []) = true := by
    unfold takeB
    rw [decide_eq_true (Nat.zero_le size), Bool.true_and]
    exact decide_eq_true ⟨rfl, rfl, .inl sz0⟩
  rw [htk] at hf24 ⊢
  rw [if_pos rfl] at hf24
  refine ⟨_, rfl, iteF ?_⟩
  have x24 : Ext H21 H24 := by
    have w1 : ExtO fp (upd (upd H21 fx (.own fp)) fp (.ins CF fx [])) H24 := (xo22.trans u23.o).trans xo24
    exact w1.ext z1 nf
  have hcp24 := x24.ins hcp21
  refine ⟨_, rfl, fp, fx, _, rfl, hf24, (fwF_no _ _ _).2.1, _, rfl, _, rfl, S0, fp, fx, cp, gdx, c, size, hv, (held : Int), _, pv, pm, r, hF, rfl, hf24, hcp24, by omega, G.mono x24.gr dh21, tws, by omega, hpv21.ext G x24, G.less ok24 (by omega), fun H25 x25 ok25 => ?_⟩
  rw [← hfd]
  refine ⟨_, rfl, rfl, _, rfl, ?_⟩
  rw [decide_eq_true (show V.bl due = V.bl due from rfl)]
  refine iteF ?_
  have x0' := (x0.trans x24).trans x25
  have hcp25 := x25.ins hcp24
  obtain ⟨ty, hty, hkit⟩ := claim_isa T KH KL hcp25 g_Claim
  refine ⟨_, rfl, .ref cp, .ref C_Claim, _, _, true, rfl, .own C_Claim, hty, hkit, ?_⟩
  refine ⟨_, rfl, iteT ?_⟩
  refine ⟨_, rfl, .bl due, .ty "bool", _, _, true, rfl, .ty "bool", .base (.bl _), kit_ty (by decide +kernel), ?_⟩
  refine ⟨_, rfl, iteT ?_⟩
  refine ⟨_, rfl, _, rfl, rfl, ?_⟩
  rw [decide_eq_true (show V.bl due = V.bl due from rfl)]
  exact q H25 x0' ok25
end

/-! ### the law -/
section
variable {P : Program} {w : World} {K : PySem.W.Frag} {mg : Str → Option Value} {base : Heap} {Fam : Sys → Prop} {CK CT : Addr}
theorem ok_kpaper0 {cc : Addr} (T : Txt K mg cc) (A : SlA P w K mg base Fam) (KT : K_Table K mg CT) (KK : K_Keeper K mg CK) : MetRD P w K mg base 27 CK "paper" (spKPaper mg CK CT Fam) [.non] :=
  metRD_of 3 0 KK.cl KK.m_paper (by simp) rfl (fun T kV doc pm an cdv ct us its hu hi => match us, its, hu, hi with | [_, _, _], [_], _, _ => ⟨_, rfl, rfl⟩) sc_Keeper_paper (fun vs H Q E h => by obtain ⟨S0, p, l, t, b, v, es, i, k, sz, r, _, rfl, _⟩ := h; rfl) (kpaper_body T A KT KK)
theorem three_places {m : Nat} (h : 0 < m) : ∀ {i : Nat} {w : V}, ([.int 0, .int ((m : Int) / 2), .int ((m : Int) - 1)] : List V)[i]? = some w → ∃ n : Nat, w = .int (n : Int) ∧ n < m ∧ i < 3
  | 0, w, hi => by
    cases hi
    exact ⟨0, rfl, h, by decide⟩
  | 1, w, hi => by
    cases hi
    refine ⟨m / 2, ?_, by omega, by decide⟩
    rw [show ((m / 2 : Nat) : Int) = (m : Int) / 2 by omega]
  | 2, w, hi => by
    cases hi
    refine ⟨m - 1, ?_, by omega, by decide⟩
    rw [show ((m - 1 : Nat) : Int) = (m : Int) - 1 by omega]
  | i + 3, w, hi => by simp at hi
/-- a range whose end is one of two -/
theorem for_ways {ta : TE} {g : TG} {tb : TS} {D : Ends} {σ : L2.St} {H : Hp} {n : Nat} (hκ : ∀ mm : Nat, mm ≤ n → tFor (iRng1 (tCons (tC (.int (mm : Int))) tNil)) g tb D σ H) (h : ∀ {κ : VK}, (∀ mm : Nat, mm ≤ n → κ (.int (mm : Int)) H) → ta σ H κ) : tFor (iRng1 (tCons ta tNil)) g tb D σ H := h hκ
end
section
variable {P : Program} {w : World} {K : PySem.W.Frag} {mg : Str → Option Value}
theorem ok_law {fa cc PT : Addr} (T : Txt K mg cc) (hfa : mg "law" = some (.ref fa)) : ∃ fd : FuncData, (∀ (s : Shared) (v : Value), BindsTo s fd ⟨[v], []⟩ [("_law_script", v)]) ∧ ∀ base : Heap, K.In base → base.Ns mainGlobals mg → LamX.TabB base mg cc PT → FnOk P w K mg base L2.CX0 30 fa fd ["_law_script"] (spLaw K PT) := by
  have Z := T.Z
  obtain ⟨CT, KT⟩ := T.k_Table
  obtain ⟨CK, KK⟩ := T.k_Keeper
  obtain ⟨CF, KF⟩ := T.k_Follower
  obtain ⟨CG, KG⟩ := T.k_Grows
  obtain ⟨CS, KS⟩ := T.k_Stands
  obtain ⟨CH, KH⟩ := T.k_Holds
  obtain ⟨CL, KL⟩ := T.k_Lacks
  obtain ⟨CB, DB⟩ := T.c_Behind___init__
  obtain ⟨C, B, EI⟩ := T.y_BadRow
  refine law_fnT T.d_law hfa sc_law (fun vs H Q E h => ?_) (fun base TB f cdv A' outer s H vs Q E hr h => ?_)
  · obtain ⟨a, ns, rfl, _⟩ := h
    rfl
  obtain ⟨a, ns, rfl, hS, hlen, hPT, q⟩ := h
  have A := sla3 (P := P) (w := w) (base := base) T
  have C__law_seal_by := ok_seal_by (P := P) (w := w) T TB
  have C__law_cell_at := ok_cell_at (P := P) (w := w) (base := base) T
  have C__law_draw := ok_draw (P := P) (w := w) (base := base) T
  have C__law_filled := ok_filled (base := base) T A KT KK EI
  have C__law_paper := ok_lpaper T A
  have C__law_one := ok_one12 T A (fun {S} h => inj3 h) DB KF KG KS KH KL
  have C_Keeper := ok_kinit (CT := CT) A KK
  have M_paper := ok_kpaper0 T A KT KK
  have e16 : sizeLine = 16777216 := sizeLine_eq
  refine ⟨_, (pss_cons (ps_set (i := 0) sc_law.nd rfl (Or.inr rfl) (pe_slice sl_list (pv 0) po_none (po_some pe_int)))
  (pss_cons (ps_set (i := 1) sc_law.nd rfl (Or.inl rfl) (pe_c C__law_seal_by hr (by omega) rfl (pa_cons (pv 0) pa_nil)))
  (pss_cons (ps_set (i := 2) sc_law.nd rfl (Or.inr rfl) (pe_op op_add pe_int (pe_op op_mod (pe_c C__law_cell_at hr (by omega) rfl (pa_cons (pv 0) (pa_cons pe_int pa_nil))) pe_int)))
  (Evl.pss_cut (ps_set (i := 3) sc_law.nd rfl (Or.inl rfl) (pe_ifExp (pt_cmpR op_eq (pe_op op_mod (pe_c C__law_cell_at hr (by omega) rfl (pa_cons (pv 0) (pa_cons pe_int pa_nil))) pe_int) pe_int (nomark _)) pe_int pe_int))
  (pss_cons (ps_setLc (i := 4) (own := [("_law_k", 9)]) (g := gName 9) (tt := tYes) rfl sc_law.nd rfl rfl (sw_true rfl rfl rfl (by decide +kernel)) (pi_range1 rfl Z.range (pa_cons (pv 3) pa_nil)) (blkOk_by (N := N_law) (sc := defScope s_law) (by decide +kernel)) (fun _ _ _ _ _ => (pg_name (i := 9) sc_law.nd rfl (Or.inl rfl))) (fun _ _ _ _ _ => pts_nil) (fun _ _ _ _ _ => (pe_c C__law_draw hr (by omega) rfl (pa_cons (pe_op op_add (pe_c C__law_cell_at hr (by omega) rfl (pa_cons (pv 0) (pa_cons pe_int pa_nil))) (pv 9)) (pa_cons pe_int (pa_cons (pe_op op_oneShl pe_int (pv 2)) pa_nil))))))
  (pss_cons (ps_set (i := 5) sc_law.nd rfl (Or.inl rfl) (pe_mk C_Keeper hr (by omega) rfl (pa_cons (pv 1) (pa_cons (pv 2) pa_nil))))
  (pss_cons (ps_set (i := 6) sc_law.nd rfl (Or.inl rfl) (pe_c C__law_filled hr (by omega) rfl (pa_cons (pv 1) (pa_cons (pv 5) (pa_cons (pv 0) (pa_cons (pv 2) (pa_cons (pv 4) pa_nil)))))))
  (pss_cons (ps_for PassesOwn.never rfl (pi_tup (pe_tup (pa_cons pe_int (pa_cons (pe_op op_fdiv (pe_callB call_len_seq rfl Z.len PySem.boot_len (pa_cons (pv 6) pa_nil)) pe_int) (pa_cons (pe_op op_sub (pe_callB call_len_seq rfl Z.len PySem.boot_len (pa_cons (pv 6) pa_nil)) pe_int) pa_nil))))) (pg_name (i := 7) sc_law.nd rfl (Or.inl rfl)) (pss_one (ps_if (pt_cmpR (op_neD hr.units) (pe_mtd M_paper takes0 hr (by omega) (pv 5) (pa_cons (pv 7) (pa_cons (pe_ix ix_list (pv 4) pe_int (fun _ _ => rfl)) pa_nil))) (pe_c C__law_paper hr (by omega) rfl (pa_cons (pv 1) (pa_cons (pv 6) (pa_cons (pv 7) (pa_cons (pe_ix ix_list (pv 4) pe_int (fun _ _ => rfl)) (pa_cons (pe_callB call_len_seq rfl Z.len PySem.boot_len (pa_cons (pv 6) pa_nil)) (pa_cons (pv 2) pa_nil))))))) (nomark _)) (pss_one (ps_ret pe_bl)) pss_nil)))
  (pss_cons (ps_for PassesOwn.never rfl (pi_range1 rfl Z.range (pa_cons (pe_ifExp (pt_cmpR op_gt (pv 3) pe_int (nomark _)) (pe_callB (call_min2 rfl) rfl Z.min (by decide +kernel) (pa_cons (pe_callB call_len_seq rfl Z.len PySem.boot_len (pa_cons (pv 0) pa_nil)) (pa_cons pe_int pa_nil))) (pe_callB call_len_seq rfl Z.len PySem.boot_len (pa_cons (pv 0) pa_nil))) pa_nil)) (pg_name (i := 8) sc_law.nd rfl (Or.inl rfl)) (pss_one (ps_if (pt_not (pt_val (pe_c C__law_one hr (by omega) rfl (pa_cons (pv 1) (pa_cons (pe_op op_add (pe_ix ix_list (pv 0) (pv 8) (fun _ _ => rfl)) (pe_op op_mul pe_int (pv 8))) (pa_cons (pv 6) (pa_cons (pv 2) (pa_cons (pv 4) pa_nil)))))))) (pss_one (ps_ret pe_bl)) pss_nil)))
  (pss_one (ps_ret pe_bl))))))))))), ?_⟩
  refine ⟨.ref a, rfl, 63, rfl, a, _, rfl, hS, fun c nc => ?_⟩
  rw [take63 hlen]
  refine ⟨_, rfl, c, ns, rfl, SqL.of upd_same, by rw [upd_ne (ne_of_none hPT nc)]; exact hPT, fun S0 H1 hF x1 ok1 => ?_⟩
  have G := A.good hF
  have hc1 : H1 c = some (.lst (ns.map V.int)) := x1 _ _ upd_same fun _ z => nomatch z
  have ok1' := G.less ok1 (show 16000000 ≤ sizeLine by omega)
  refine ⟨_, rfl, c, ns, 0, rfl, SqL.of hc1, by decide, _, 16, rfl, rfl, by show (0 : Int) < 16; decide, _, _, rfl, rfl, ?_⟩
  obtain ⟨l0, hl0⟩ := Int.eq_ofNat_of_zero_le (Int.emod_nonneg (cell ns 0) (show (16 : Int) ≠ 0 by decide))
  have hl16 := Int.emod_lt_of_pos (cell ns 0) (show (0 : Int) < 16 by decide)
  obtain ⟨l, hl, l1, l2⟩ : ∃ l : Nat, 1 + cell ns 0 % 16 = (l : Int) ∧ 1 ≤ l ∧ l ≤ 16 := ⟨l0 + 1, by omega, by omega, by omega⟩
  show gName 2 (V.int (1 + cell ns 0 % 16)) _ _ _
  rw [hl]
  have h2l : (0 : Int) < 2 ^ l := Int.pow_pos (by decide)
  refine ⟨fun σ H' => ∃ W : Nat, 1 ≤ W ∧ W ≤ 40 ∧ σ = [some (.ref c), some (.ref S0.f), some (.int (l : Int)), some (.int (W : Int)), none, none, none, none, none, none] ∧ H1 = H', ?_, ?_⟩
  · refine ⟨_, rfl, c, ns, 1, rfl, SqL.of hc1, by decide, _, 5, rfl, rfl, by show (0 : Int) < 5; decide, rfl, _, rfl, ite2 (fun _ => ?_) (fun _ => ?_)⟩
    · exact ⟨40, by decide, by decide, rfl, rfl⟩
    · exact ⟨4, by decide, by decide, rfl, rfl⟩
  rintro σ H' ⟨W, hW1, hW2, rfl, rfl⟩
  -- near keys
  refine ⟨_, rfl, (W : Int), rfl, by omega, by omega, fun nr nnr => ?_⟩
  rw [Int.toNat_natCast]
  refine lc_range (fun i H' => ∃ ks : List Int, ks.length = i ∧ Ext H1 H' ∧ Kp H1 H' ∧ H' nr = some (.lst (ks.map V.int)) ∧ InL l ks) ⟨[], rfl, Ext.new nnr, Kp.new nnr, upd_same, fun k h => nomatch h⟩ ?_ ?_
  · rintro i H' hi ⟨ks, rfl, x, k, hnr, hin⟩
    refine ⟨rfl, ?_⟩
    refine ⟨_, rfl, c, ns, 1, rfl, SqL.of (x.lst hc1), by decide, _, rfl, _, _, rfl, rfl, _, rfl, l, rfl, rfl, by omega, _, _, _, rfl, by decide, by decide, h2l, fun z H2 z0 z1 s2 => ?_⟩
    have hnr2 := s2 _ _ hnr
    refine ⟨ks.map V.int, hnr2, by rw [List.length_map]; omega, ks ++ [z], by simp, (x.trans (Ext.of_same s2)).mut nnr, (k.trans (kp_same s2)).trans (Kp.lst hnr2), by rw [upd_same, List.map_append]; rfl, fun k' hk' => ?_⟩
    rcases List.mem_append.mp hk' with h | h
    · exact hin k' h
    · rw [List.mem_singleton.mp h]
      exact ⟨z0, z1⟩
  rintro H2 ⟨ks, hks, x2, k2, hnr, hin⟩
  have hks : ks.length = W := hks
  have hc2 := x2.lst hc1
  have ok2 := G.keep k2 ok1'
  -- the keeper
  refine ⟨_, rfl, _, rfl, fun q1 qx nq nqx nex => ?_⟩
  have y1 : Ext H2 (upd (upd H2 qx (.own q1)) q1 (.ins CK qx [])) := (Ext.new nqx).trans (Ext.new (by rw [upd_ne nex.symm]; exact nq))
  have ky1 : Kp H2 (upd (upd H2 qx (.own q1)) q1 (.ins CK qx [])) := (Kp.new nqx).trans (Kp.new (by rw [upd_ne nex.symm]; exact nq))
  refine ⟨S0, q1, qx, l, 16000000, hF, rfl, upd_same, l2, G.keep ky1 ok2, fun H3 t0 b0 v0 xo3 kp3 nt0 nb0 nv0 ok3 kp0 => ⟨rfl, ?_⟩⟩
  have x3 : Ext H2 H3 := xo3.ext y1 nq
  have early : ∀ a, (∃ xs, H2 a = some (.lst xs)) → a ∉ [t0, b0, v0] := fun a ⟨xs, e⟩ ha => by
    have e1 := y1.lst e
    rcases List.mem_cons.mp ha with rfl | ha
    · rw [nt0] at e1; cases e1
    rcases List.mem_cons.mp ha with rfl | ha
    · rw [nb0] at e1; cases e1
    rcases List.mem_cons.mp ha with rfl | ha
    · rw [nv0] at e1; cases e1
    cases ha
  have hc3 := x3.lst hc2
  have hnr3 := x3.lst hnr
  have nc' := early c ⟨_, hc2⟩
  have nnr' := early nr ⟨_, hnr⟩
  -- the book
  refine ⟨_, rfl, _, rfl, _, rfl, _, rfl, _, rfl, S0, q1, l, t0, b0, v0, c, nr, ns, ks, 15000000, hF, rfl, kp0, hc3, nc', hnr3, nnr', by omega, by omega, hin, l1, ok3, fun Bk xs es H4 m4 ok4 nBk kp4 hB4 hen4 he0 he38 htl => ?_⟩
  have hc4 := m4.lst nc' hc3
  have hnr4 := m4.lst nnr' hnr3
  have hBk : BkAt S0 H4 Bk l xs es := ⟨hB4, hen4, fun e he => by obtain ⟨h1, h2, h3⟩ := kp4.ok e he; exact ⟨h1, h2, h3⟩, ⟨he0, he38⟩, ⟨l1, l2⟩, htl⟩
  have hxl := hen4.len
  have hk0 : (ks.map V.int)[0]? = some (.int ks[0]) := by rw [List.getElem?_map, List.getElem?_eq_getElem (show 0 < ks.length by omega)]; rfl
  have hin0 := hin _ (List.getElem_mem (show 0 < ks.length by omega))
  -- three papers
  refine ⟨_, rfl, Bk, _, rfl, .inl (SqL.of hB4), _, 2, rfl, rfl, ⟨by decide, by decide⟩, _, rfl, Bk, _, rfl, .inl (SqL.of hB4), _, _, rfl, rfl, by show 3 ≤ sizeLine; decide, fun tt ntt => ?_⟩
  have htt : upd H4 tt (.tup [.int 0, .int ((xs.length : Int) / 2), .int ((xs.length : Int) - 1)]) tt = some (.tup [.int 0, .int ((xs.length : Int) / 2), .int ((xs.length : Int) - 1)]) := upd_same
  have x5 := Ext.new (o := .tup [.int 0, .int ((xs.length : Int) / 2), .int ((xs.length : Int) - 1)]) ntt
  have ok5 := G.keep (Kp.new (o := .tup [.int 0, .int ((xs.length : Int) / 2), .int ((xs.length : Int) - 1)]) ntt) ok4
  generalize upd H4 tt (.tup [.int 0, .int ((xs.length : Int) / 2), .int ((xs.length : Int) - 1)]) = H5 at htt x5 ok5 ⊢
  have hB5 := hBk.ext G x5
  have kp5 := kp4.ext G x5
  have hc5 := x5.lst hc4
  have hnr5 := x5.lst hnr4
  refine ⟨tt, rfl, ⟨_, SqT.of htt⟩, for_tup (K := K) (a := tt) (xs := [.int 0, .int ((xs.length : Int) / 2), .int ((xs.length : Int) - 1)]) (fun i σ H' => ∃ (y7 : Option V), σ = [some (.ref c), some (.ref S0.f), some (.int (l : Int)), some (.int (W : Int)), some (.ref nr), some (.ref q1), some (.ref Bk), y7, none, none] ∧ Ext H5 H' ∧ S0.ok H' (15000000 - i * 20000)) ⟨none, rfl, Ext.refl _, ok5⟩ (fun i σ H' _ ⟨_, _, x, _⟩ => SqT.of (x.tup htt)) ?_ ?_⟩
  · rintro i w σ H6 hi ⟨y7, rfl, x6, ok6⟩
    obtain ⟨n, rfl, hn, hi3⟩ := three_places (show 0 < xs.length by omega) hi
    rw [hxl] at hn
    have kp6 := kp5.ext G x6
    obtain ⟨dxk, hpk⟩ := kp6.at_
    refine ⟨_, rfl, q1, dxk, _, rfl, hpk, kno "paper", _, rfl, _, rfl, nr, _, 0, _, rfl, rfl, SqL.of (x6.lst hnr5), (show atI _ ((0 : Nat) : Int) = _ from atI_nat hk0), S0, q1, l, t0, b0, v0, es, (n : Int), ks[0], none, 15000000 - i * 20000 - 9000, hF, rfl, kp6, G.less ok6 (by omega), fun c' n' e hc' hn' hnc he _ _ u H7 x7 ok7 pv => ?_, fun hout => absurd ⟨⟨es.length, rfl, by omega, by omega⟩, hin0⟩ hout⟩
    cases hc'
    obtain rfl : n = n' := by omega
    have x57 := x6.trans x7
    have hB7 := hB5.ext G x57
    refine ⟨_, rfl, _, rfl, _, rfl, _, rfl, nr, _, 0, _, rfl, rfl, SqL.of (x57.lst hnr5), (show atI _ ((0 : Nat) : Int) = _ from atI_nat hk0), _, rfl, Bk, _, rfl, .inl (SqL.of hB7.at_), _, rfl, S0, Bk, l, xs, es, n, es.length, ks[0], 15000000 - (i + 1) * 20000, hF, by rw [← hxl]; rfl, hB7, hn, Nat.le_refl _, hin0.1, G.less ok7 (by omega), fun ov H8 x8 ok8 hov => ?_⟩
    have hte := hBk.ok e (List.mem_of_getElem? he)
    obtain ⟨pq, pp, hv, wv, ys, rfl, g1, _, g3, g4, g5, g6, _⟩ := pv.ex
    have hpv := (own_at G ⟨l1, l2⟩ he38 he hte g1 g5 g3 g4 hn (Nat.le_refl _) g6).ext G x8
    have hov2 := hov
    unfold ownPap at hov2
    rw [he] at hov2
    obtain ⟨d, d', e1, e2, e3, e4, e5⟩ := pap_apart (inj3 hF) ok8 hpv hov2
    have ho : ownPap l es es.length n ks[0] = some (S e.1, headT l e.2, some (pathT ((es.map (leafT l)).take es.length) n), some ((wayT l (srtI e.2) ks[0]).1, some (wayT l (srtI e.2) ks[0]).2)) := by
      unfold ownPap
      rw [he]
    refine ⟨d, d', e1, e2, e3, e4, _, rfl, ?_⟩
    rw [e5, decide_eq_true ho]
    refine iteF ?_
    exact ⟨_, rfl, x57.trans x8, ok8⟩
  rintro σ H6 ⟨y7, rfl, x6, ok6⟩
  have ok6 := G.less ok6 (show 14000000 ≤ 15000000 - 3 * 20000 by decide)
  have hc6 := x6.lst hc5
  dsimp only
  rw [tSeq]
  dsimp only
  refine for_ways (n := ns.length) (fun mm hmm => ?_) (fun {κ} key => ?_)
  rotate_left
  · refine ⟨_, rfl, _, _, rfl, rfl, _, rfl, ite2 (fun _ => ?_) (fun _ => ?_)⟩
    · refine ⟨_, rfl, c, _, rfl, .inl (SqL.of hc6), _, 9, rfl, ?_⟩
      obtain ⟨m, hm, eL⟩ : ∃ m : Nat, m ≤ ns.length ∧ (if (9 : Int) < ((ns.map V.int).length : Int) then (9 : Int) else ((ns.map V.int).length : Int)) = (m : Int) := by
        rw [List.length_map]
        by_cases h9 : (9 : Int) < (ns.length : Int)
        · exact ⟨9, by omega, by rw [if_pos h9]; rfl⟩
        · exact ⟨ns.length, by omega, by rw [if_neg h9]⟩
      rw [eL]
      exact key m hm
    · refine ⟨_, rfl, c, _, rfl, .inl (SqL.of hc6), ?_⟩
      rw [List.length_map]
      exact key ns.length (Nat.le_refl _)
  refine ⟨(mm : Int), rfl, by omega, by omega, ?_⟩
  rw [Int.toNat_natCast]
  refine for_range (fun i σ H' => ∃ (y8 : Option V), σ = [some (.ref c), some (.ref S0.f), some (.int (l : Int)), some (.int (W : Int)), some (.ref nr), some (.ref q1), some (.ref Bk), y7, y8, none] ∧ Ext H6 H' ∧ S0.ok H' (14000000 - i * 12000)) ⟨none, rfl, Ext.refl _, ok6⟩ ?_ ?_
  · rintro i σ H7 hi ⟨y8, rfl, x7, ok7⟩
    rw [Int.zero_add]
    obtain ⟨z0, hz0⟩ : ∃ z0 : Int, (ns.map V.int)[i]? = some (.int z0) := ⟨_, by rw [List.getElem?_map, List.getElem?_eq_getElem (show i < ns.length by omega)]; rfl⟩
    have hB7 := hB5.ext G (x6.trans x7)
    refine ⟨_, rfl, _, rfl, _, rfl, c, _, _, _, rfl, rfl, SqL.of (x7.lst hc6), atI_nat hz0, _, rfl, _, _, rfl, rfl, .inl ⟨by decide, by decide⟩, _, _, rfl, rfl, _, rfl, _, rfl, _, rfl, S0, _, Bk, l, xs, es, nr, ks, 14000000 - (i + 1) * 12000, hF, rfl, hB7, x7.lst (x6.lst hnr5), hin, by omega, by omega, G.less ok7 (by omega), fun H8 x8 ok8 => ?_⟩
    refine ⟨_, rfl, iteF ?_⟩
    exact ⟨_, rfl, x7.trans x8, ok8⟩
  · rintro σ H7 _
    exact q _
end

end My
open PySem PySem.W PyProof.Rows
set_option maxHeartbeats 0 in
theorem PySem.Challenge.cw_growbook_k12_whole_keys_behind_holds : PySem.Challenge.rw_growbook_k12_whole_keys_behind.Holds := by
  w_on; o_law; k_head; (case hw => w_witness2)
  k_fill
  refine LamX.walk_ofTs (l := PySem.Challenge.rw_growbook_k12_whole_keys_behind) (n := 63) (k := 30) (x := "_law_script") (CX := fun _ => L2.CX0) rfl (by decide) rfl ⟨rfl, by decide, by decide⟩ (fun w h Y => PySem.W.km_in_of Y) ?F (fun _ _ _ _ _ h => h)
  case F =>
    intro w mg fa h Y KX G hmg
    have hT := PySem.W.km_tabs_of Y
    refine My.law_end (c := ?c) KX hT (by kernel_rfl) ?hcode (My.ok_law ?T hmg)
    case T =>
      refine' My.txt_mk KX G ?a0 ?l0 ?c0 ?k0 ?a1 ?l1 ?c1 ?k1 ?a2 ?l2 ?c2 ?k2 ?a3 ?l3 ?c3 ?k3 ?a4 ?l4 ?c4 ?k4 ?a5 ?l5 ?c5 ?k5 ?a6 ?l6 ?c6 ?k6 ?a7 ?l7 ?c7 ?k7 ?a8 ?l8 ?c8 ?k8 ?a9 ?l9 ?c9 ?k9 ?a10 ?l10 ?c10 ?k10 ?a11 ?l11 ?c11 ?k11 ?a12 ?l12 ?c12 ?k12 ?a13 ?l13 ?c13 ?k13 ?a14 ?l14 ?c14 ?k14 ?a15 ?l15 ?c15 ?k15 ?a16 ?l16 ?c16 ?k16 ?a17 ?l17 ?c17 ?k17 ?a18 ?l18 ?c18 ?k18 ?a19 ?l19 ?c19 ?k19 ?a20 ?l20 ?c20 ?k20 ?a21 ?l21 ?c21 ?k21 ?a22 ?l22 ?c22 ?k22 ?a23 ?l23 ?c23 ?k23 ?a24 ?l24 ?c24 ?k24 ?a25 ?l25 ?c25 ?k25 ?a26 ?l26 ?c26 ?k26 ?a27 ?l27 ?c27 ?k27 ?a28 ?l28 ?c28 ?k28 ?a29 ?l29 ?c29 ?k29 ?a30 ?l30 ?c30 ?k30 ?a31 ?l31 ?c31 ?k31 ?a32 ?l32 ?c32 ?k32 ?a33 ?l33 ?c33 ?k33 ?a34 ?l34 ?c34 ?k34 ?a35 ?l35 ?c35 ?k35 ?a36 ?l36 ?c36 ?k36 ?a37 ?l37 ?c37 ?k37 ?a38 ?l38 ?c38 ?k38 ?a39 ?l39 ?c39 ?k39 ?a40 ?l40 ?c40 ?k40 ?z_len ?z_isinstance ?z_int ?z_bool ?z_list ?z_dict ?z_tuple ?z_range ?z_str ?z_sorted ?z_min ?z_max ?z_enumerate ?z_reversed ?g_BookError ?g_Claim ?g_BadPaper ?xP_BadPaper ?kP_BadPaper ?bP_BadPaper ?tP_BadPaper ?hg_BadPaper ?hk_BadPaper ?hd_BadPaper ?ha_BadPaper ?hn_BadPaper ?ht_BadPaper ?hm_BadPaper ?ex_BadPaper ?g_NoPlace ?xP_NoPlace ?kP_NoPlace ?bP_NoPlace ?tP_NoPlace ?hg_NoPlace ?hk_NoPlace ?hd_NoPlace ?ha_NoPlace ?hn_NoPlace ?ht_NoPlace ?hm_NoPlace ?ex_NoPlace ?g_BadRow ?xL_BadRow ?sa_BadRow ?ga_BadRow ?gg_BadRow ?nf_BadRow ?kC_BadRow ?eC_BadRow ?tC_BadRow ?hC_BadRow ?iac_BadRow ?xm_BadRow ?xe_BadRow ?fi_BadRow ?ti_BadRow ?bg_BadRow ?br_BadRow ?bf_BadRow ?xn_BadRow ?xt_BadRow ?li_BadRow ?ci_BadRow ?ki_BadRow ?g_Behind ?aMBehind ?lMBehind ?cMBehind ?kMBehind ?gaMBehind ?rdMBehind ?fcMBehind ?g_Table ?pg_Table ?hd_Table ?po_Table ?sa_Table ?n_Table_seal ?n_Table_depth ?n_Table_held ?ia_Table ?in_Table ?it_Table ?im_Table ?aTable0 ?iTable0 ?lTable0 ?cTable0 ?kTable0 ?dTable0 ?mk_Table ?kc_Table ?aTable1 ?iTable1 ?lTable1 ?cTable1 ?kTable1 ?aTable2 ?iTable2 ?lTable2 ?cTable2 ?kTable2 ?aTable3 ?iTable3 ?lTable3 ?cTable3 ?kTable3 ?aTable4 ?iTable4 ?lTable4 ?cTable4 ?kTable4 ?aTable5 ?iTable5 ?lTable5 ?cTable5 ?kTable5 ?aTable6 ?iTable6 ?lTable6 ?cTable6 ?kTable6 ?aTable7 ?iTable7 ?lTable7 ?cTable7 ?kTable7 ?g_Keeper ?pg_Keeper ?hd_Keeper ?po_Keeper ?sa_Keeper ?n_Keeper_seal ?n_Keeper_depth ?n_Keeper_texts ?n_Keeper_tables ?n_Keeper_leaves ?ia_Keeper ?in_Keeper ?it_Keeper ?im_Keeper ?aKeeper0 ?iKeeper0 ?lKeeper0 ?cKeeper0 ?kKeeper0 ?dKeeper0 ?mk_Keeper ?kc_Keeper ?aKeeper1 ?iKeeper1 ?lKeeper1 ?cKeeper1 ?kKeeper1 ?aKeeper2 ?iKeeper2 ?lKeeper2 ?cKeeper2 ?kKeeper2 ?aKeeper3 ?iKeeper3 ?lKeeper3 ?cKeeper3 ?kKeeper3 ?aKeeper4 ?iKeeper4 ?lKeeper4 ?cKeeper4 ?kKeeper4 ?aKeeper5 ?iKeeper5 ?lKeeper5 ?cKeeper5 ?kKeeper5 ?aKeeper6 ?iKeeper6 ?lKeeper6 ?cKeeper6 ?kKeeper6 ?aKeeper7 ?iKeeper7 ?lKeeper7 ?cKeeper7 ?kKeeper7 ?dKeeper7 ?aKeeper8 ?iKeeper8 ?lKeeper8 ?cKeeper8 ?kKeeper8 ?dKeeper8 ?aKeeper9 ?iKeeper9 ?lKeeper9 ?cKeeper9 ?kKeeper9 ?dKeeper9 ?aKeeper10 ?iKeeper10 ?lKeeper10 ?cKeeper10 ?kKeeper10 ?aKeeper11 ?iKeeper11 ?lKeeper11 ?cKeeper11 ?kKeeper11 ?dKeeper11 ?g_Stands ?pg_Stands ?hd_Stands ?po_Stands ?sa_Stands ?n_Stands_place ?n_Stands_words ?n_Stands_table ?ia_Stands ?in_Stands ?it_Stands ?im_Stands ?aStands0 ?iStands0 ?lStands0 ?cStands0 ?kStands0 ?mk_Stands ?kc_Stands ?aStands1 ?iStands1 ?lStands1 ?cStands1 ?kStands1 ?aStands2 ?iStands2 ?lStands2 ?cStands2 ?kStands2 ?g_Grows ?pg_Grows ?hd_Grows ?po_Grows ?sa_Grows ?n_Grows_old ?n_Grows_before ?ia_Grows ?in_Grows ?it_Grows ?im_Grows ?aGrows0 ?iGrows0 ?lGrows0 ?cGrows0 ?kGrows0 ?mk_Grows ?kc_Grows ?aGrows1 ?iGrows1 ?lGrows1 ?cGrows1 ?kGrows1 ?aGrows2 ?iGrows2 ?lGrows2 ?cGrows2 ?kGrows2 ?g_Holds ?pg_Holds ?hd_Holds ?po_Holds ?sa_Holds ?n_Holds_place ?n_Holds_key ?n_Holds_depth ?n_Holds_said ?ia_Holds ?in_Holds ?it_Holds ?im_Holds ?aHolds0 ?iHolds0 ?lHolds0 ?cHolds0 ?kHolds0 ?mk_Holds ?kc_Holds ?aHolds1 ?iHolds1 ?lHolds1 ?cHolds1 ?kHolds1 ?aHolds2 ?iHolds2 ?lHolds2 ?cHolds2 ?kHolds2 ?aHolds3 ?iHolds3 ?lHolds3 ?cHolds3 ?kHolds3 ?g_Lacks ?pg_Lacks ?hd_Lacks ?po_Lacks ?sa_Lacks ?n_Lacks_place ?n_Lacks_key ?n_Lacks_depth ?ia_Lacks ?in_Lacks ?it_Lacks ?im_Lacks ?aLacks0 ?iLacks0 ?lLacks0 ?cLacks0 ?kLacks0 ?aLacks1 ?iLacks1 ?lLacks1 ?cLacks1 ?kLacks1 ?mk_Lacks ?kc_Lacks ?aLacks2 ?iLacks2 ?lLacks2 ?cLacks2 ?kLacks2 ?aLacks3 ?iLacks3 ?lLacks3 ?cLacks3 ?kLacks3 ?q_Holds_Claim ?q_Lacks_Claim ?g_Follower ?pg_Follower ?hd_Follower ?po_Follower ?sa_Follower ?n_Follower_seal ?n_Follower_count ?n_Follower_newest ?ia_Follower ?in_Follower ?it_Follower ?im_Follower ?aFollower0 ?iFollower0 ?lFollower0 ?cFollower0 ?kFollower0 ?mk_Follower ?kc_Follower ?aFollower1 ?iFollower1 ?lFollower1 ?cFollower1 ?kFollower1 ?aFollower2 ?iFollower2 ?lFollower2 ?cFollower2 ?kFollower2 ?aFollower3 ?iFollower3 ?lFollower3 ?cFollower3 ?kFollower3 ?aFollower4 ?iFollower4 ?lFollower4 ?cFollower4 ?kFollower4
      (case a0 => k_is)
      (case l0 => k_is)
      (case c0 => k_is)
      (case k0 => k_is)
      (case a1 => k_is)
      (case l1 => k_is)
      (case c1 => k_is)
      (case k1 => k_is)
      (case a2 => k_is)
      (case l2 => k_is)
      (case c2 => k_is)
      (case k2 => k_is)
      (case a3 => k_is)
      (case l3 => k_is)
      (case c3 => k_is)
      (case k3 => k_is)
      (case a4 => k_is)
      (case l4 => k_is)
      (case c4 => k_is)
      (case k4 => k_is)
      (case a5 => k_is)
      (case l5 => k_is)
      (case c5 => k_is)
      (case k5 => k_is)
      (case a6 => k_is)
      (case l6 => k_is)
      (case c6 => k_is)
      (case k6 => k_is)
      (case a7 => k_is)
      (case l7 => k_is)
      (case c7 => k_is)
      (case k7 => k_is)
      (case a8 => k_is)
      (case l8 => k_is)
      (case c8 => k_is)
      (case k8 => k_is)
      (case a9 => k_is)
      (case l9 => k_is)
      (case c9 => k_is)
      (case k9 => k_is)
      (case a10 => k_is)
      (case l10 => k_is)
      (case c10 => k_is)
      (case k10 => k_is)
      (case a11 => k_is)
      (case l11 => k_is)
      (case c11 => k_is)
      (case k11 => k_is)
      (case a12 => k_is)
      (case l12 => k_is)
      (case c12 => k_is)
      (case k12 => k_is)
      (case a13 => k_is)
      (case l13 => k_is)
      (case c13 => k_is)
      (case k13 => k_is)
      (case a14 => k_is)
      (case l14 => k_is)
      (case c14 => k_is)
      (case k14 => k_is)
      (case a15 => k_is)
      (case l15 => k_is)
      (case c15 => k_is)
      (case k15 => k_is)
      (case a16 => k_is)
      (case l16 => k_is)
      (case c16 => k_is)
      (case k16 => k_is)
      (case a17 => k_is)
      (case l17 => k_is)
      (case c17 => k_is)
      (case k17 => k_is)
      (case a18 => k_is)
      (case l18 => k_is)
      (case c18 => k_is)
      (case k18 => k_is)
      (case a19 => k_is)
      (case l19 => k_is)
      (case c19 => k_is)
      (case k19 => k_is)
      (case a20 => k_is)
      (case l20 => k_is)
      (case c20 => k_is)
      (case k20 => k_is)
      (case a21 => k_is)
      (case l21 => k_is)
      (case c21 => k_is)
      (case k21 => k_is)
      (case a22 => k_is)
      (case l22 => k_is)
      (case c22 => k_is)
      (case k22 => k_is)
      (case a23 => k_is)
      (case l23 => k_is)
      (case c23 => k_is)
      (case k23 => k_is)
      (case a24 => k_is)
      (case l24 => k_is)
      (case c24 => k_is)
      (case k24 => k_is)
      (case a25 => k_is)
      (case l25 => k_is)
      (case c25 => k_is)
      (case k25 => k_is)
      (case a26 => k_is)
      (case l26 => k_is)
      (case c26 => k_is)
      (case k26 => k_is)
      (case a27 => k_is)
      (case l27 => k_is)
      (case c27 => k_is)
      (case k27 => k_is)
      (case a28 => k_is)
      (case l28 => k_is)
      (case c28 => k_is)
      (case k28 => k_is)
      (case a29 => k_is)
      (case l29 => k_is)
      (case c29 => k_is)
      (case k29 => k_is)
      (case a30 => k_is)
      (case l30 => k_is)
      (case c30 => k_is)
      (case k30 => k_is)
      (case a31 => k_is)
      (case l31 => k_is)
      (case c31 => k_is)
      (case k31 => k_is)
      (case a32 => k_is)
      (case l32 => k_is)
      (case c32 => k_is)
      (case k32 => k_is)
      (case a33 => k_is)
      (case l33 => k_is)
      (case c33 => k_is)
      (case k33 => k_is)
      (case a34 => k_is)
      (case l34 => k_is)
      (case c34 => k_is)
      (case k34 => k_is)
      (case a35 => k_is)
      (case l35 => k_is)
      (case c35 => k_is)
      (case k35 => k_is)
      (case a36 => k_is)
      (case l36 => k_is)
      (case c36 => k_is)
      (case k36 => k_is)
      (case a37 => k_is)
      (case l37 => k_is)
      (case c37 => k_is)
      (case k37 => k_is)
      (case a38 => k_is)
      (case l38 => k_is)
      (case c38 => k_is)
      (case k38 => k_is)
      (case a39 => k_is)
      (case l39 => k_is)
      (case c39 => k_is)
      (case k39 => k_is)
      (case a40 => k_is)
      (case l40 => k_is)
      (case c40 => k_is)
      (case k40 => k_is)
      (case z_len => k_is)
      (case z_isinstance => k_is)
      (case z_int => k_is)
      (case z_bool => k_is)
      (case z_list => k_is)
      (case z_dict => k_is)
      (case z_tuple => k_is)
      (case z_range => k_is)
      (case z_str => k_is)
      (case z_sorted => k_is)
      (case z_min => k_is)
      (case z_max => k_is)
      (case z_enumerate => k_is)
      (case z_reversed => k_is)
      (case g_BookError => k_is)
      (case g_Claim => k_is)
      (case g_BadPaper => k_is)
      (case xP_BadPaper => k_exc)
      (case kP_BadPaper => k_is)
      (case bP_BadPaper => k_is)
      (case tP_BadPaper => k_is)
      (case hg_BadPaper => k_is)
      (case hk_BadPaper => k_is)
      (case hd_BadPaper => k_is)
      (case ha_BadPaper => k_is)
      (case hn_BadPaper => k_is)
      (case ht_BadPaper => k_is)
      (case hm_BadPaper => k_is)
      (case ex_BadPaper => kernel_rfl)
      (case g_NoPlace => k_is)
      (case xP_NoPlace => k_exc)
      (case kP_NoPlace => k_is)
      (case bP_NoPlace => k_is)
      (case tP_NoPlace => k_is)
      (case hg_NoPlace => k_is)
      (case hk_NoPlace => k_is)
      (case hd_NoPlace => k_is)
      (case ha_NoPlace => k_is)
      (case hn_NoPlace => k_is)
      (case ht_NoPlace => k_is)
      (case hm_NoPlace => k_is)
      (case ex_NoPlace => kernel_rfl)
      (case g_BadRow => k_is)
      (case xL_BadRow => k_is)
      (case sa_BadRow => k_is)
      (case ga_BadRow => k_is)
      (case gg_BadRow => k_is)
      (case nf_BadRow => k_is)
      (case kC_BadRow => k_is)
      (case eC_BadRow => k_is)
      (case tC_BadRow => k_is)
      (case hC_BadRow => k_is)
      (case iac_BadRow => k_is)
      (case xm_BadRow => k_is)
      (case xe_BadRow => kernel_rfl)
      (case fi_BadRow => k_is)
      (case ti_BadRow => k_is)
      (case bg_BadRow => k_is)
      (case br_BadRow => kernel_rfl)
      (case bf_BadRow => kernel_rfl)
      (case xn_BadRow => k_is)
      (case xt_BadRow => k_is)
      (case li_BadRow => k_is)
      (case ci_BadRow => k_is)
      (case ki_BadRow => k_is)
      (case g_Behind => k_is)
      (case aMBehind => k_is)
      (case lMBehind => k_is)
      (case cMBehind => k_is)
      (case kMBehind => k_is)
      (case gaMBehind => k_is)
      (case rdMBehind => kernel_rfl)
      (case fcMBehind => kernel_rfl)
      (case g_Table => k_is)
      (case pg_Table => k_is)
      (case hd_Table => k_is)
      (case po_Table => k_is)
      (case sa_Table => k_is)
      (case n_Table_seal => k_is)
      (case n_Table_depth => k_is)
      (case n_Table_held => k_is)
      (case ia_Table => k_is)
      (case in_Table => k_is)
      (case it_Table => k_is)
      (case im_Table => k_is)
      (case aTable0 => k_is)
      (case iTable0 => k_is)
      (case lTable0 => k_is)
      (case cTable0 => k_is)
      (case kTable0 => k_is)
      (case dTable0 => k_is)
      (case mk_Table => k_is)
      (case kc_Table => k_is)
      (case aTable1 => k_is)
      (case iTable1 => k_is)
      (case lTable1 => k_is)
      (case cTable1 => k_is)
      (case kTable1 => k_is)
      (case aTable2 => k_is)
      (case iTable2 => k_is)
      (case lTable2 => k_is)
      (case cTable2 => k_is)
      (case kTable2 => k_is)
      (case aTable3 => k_is)
      (case iTable3 => k_is)
      (case lTable3 => k_is)
      (case cTable3 => k_is)
      (case kTable3 => k_is)
      (case aTable4 => k_is)
      (case iTable4 => k_is)
      (case lTable4 => k_is)
      (case cTable4 => k_is)
      (case kTable4 => k_is)
      (case aTable5 => k_is)
      (case iTable5 => k_is)
      (case lTable5 => k_is)
      (case cTable5 => k_is)
      (case kTable5 => k_is)
      (case aTable6 => k_is)
      (case iTable6 => k_is)
      (case lTable6 => k_is)
      (case cTable6 => k_is)
      (case kTable6 => k_is)
      (case aTable7 => k_is)
      (case iTable7 => k_is)
      (case lTable7 => k_is)
      (case cTable7 => k_is)
      (case kTable7 => k_is)
      (case g_Keeper => k_is)
      (case pg_Keeper => k_is)
      (case hd_Keeper => k_is)
      (case po_Keeper => k_is)
      (case sa_Keeper => k_is)
      (case n_Keeper_seal => k_is)
      (case n_Keeper_depth => k_is)
      (case n_Keeper_texts => k_is)
      (case n_Keeper_tables => k_is)
      (case n_Keeper_leaves => k_is)
      (case ia_Keeper => k_is)
      (case in_Keeper => k_is)
      (case it_Keeper => k_is)
      (case im_Keeper => k_is)
      (case aKeeper0 => k_is)
      (case iKeeper0 => k_is)
      (case lKeeper0 => k_is)
      (case cKeeper0 => k_is)
      (case kKeeper0 => k_is)
      (case dKeeper0 => k_is)
      (case mk_Keeper => k_is)
      (case kc_Keeper => k_is)
      (case aKeeper1 => k_is)
      (case iKeeper1 => k_is)
      (case lKeeper1 => k_is)
      (case cKeeper1 => k_is)
      (case kKeeper1 => k_is)
      (case aKeeper2 => k_is)
      (case iKeeper2 => k_is)
      (case lKeeper2 => k_is)
      (case cKeeper2 => k_is)
      (case kKeeper2 => k_is)
      (case aKeeper3 => k_is)
      (case iKeeper3 => k_is)
      (case lKeeper3 => k_is)
      (case cKeeper3 => k_is)
      (case kKeeper3 => k_is)
      (case aKeeper4 => k_is)
      (case iKeeper4 => k_is)
      (case lKeeper4 => k_is)
      (case cKeeper4 => k_is)
      (case kKeeper4 => k_is)
      (case aKeeper5 => k_is)
      (case iKeeper5 => k_is)
      (case lKeeper5 => k_is)
      (case cKeeper5 => k_is)
      (case kKeeper5 => k_is)
      (case aKeeper6 => k_is)
      (case iKeeper6 => k_is)
      (case lKeeper6 => k_is)
      (case cKeeper6 => k_is)
      (case kKeeper6 => k_is)
      (case aKeeper7 => k_is)
      (case iKeeper7 => k_is)
      (case lKeeper7 => k_is)
      (case cKeeper7 => k_is)
      (case kKeeper7 => k_is)
      (case dKeeper7 => k_is)
      (case aKeeper8 => k_is)
      (case iKeeper8 => k_is)
      (case lKeeper8 => k_is)
      (case cKeeper8 => k_is)
      (case kKeeper8 => k_is)
      (case dKeeper8 => k_is)
      (case aKeeper9 => k_is)
      (case iKeeper9 => k_is)
      (case lKeeper9 => k_is)
      (case cKeeper9 => k_is)
      (case kKeeper9 => k_is)
      (case dKeeper9 => k_is)
      (case aKeeper10 => k_is)
      (case iKeeper10 => k_is)
      (case lKeeper10 => k_is)
      (case cKeeper10 => k_is)
      (case kKeeper10 => k_is)
      (case aKeeper11 => k_is)
      (case iKeeper11 => k_is)
      (case lKeeper11 => k_is)
      (case cKeeper11 => k_is)
      (case kKeeper11 => k_is)
      (case dKeeper11 => k_is)
      (case g_Stands => k_is)
      (case pg_Stands => k_is)
      (case hd_Stands => k_is)
      (case po_Stands => k_is)
      (case sa_Stands => k_is)
      (case n_Stands_place => k_is)
      (case n_Stands_words => k_is)
      (case n_Stands_table => k_is)
      (case ia_Stands => k_is)
      (case in_Stands => k_is)
      (case it_Stands => k_is)
      (case im_Stands => k_is)
      (case aStands0 => k_is)
      (case iStands0 => k_is)
      (case lStands0 => k_is)
      (case cStands0 => k_is)
      (case kStands0 => k_is)
      (case mk_Stands => k_is)
      (case kc_Stands => k_is)
      (case aStands1 => k_is)
      (case iStands1 => k_is)
      (case lStands1 => k_is)
      (case cStands1 => k_is)
      (case kStands1 => k_is)
      (case aStands2 => k_is)
      (case iStands2 => k_is)
      (case lStands2 => k_is)
      (case cStands2 => k_is)
      (case kStands2 => k_is)
      (case g_Grows => k_is)
      (case pg_Grows => k_is)
      (case hd_Grows => k_is)
      (case po_Grows => k_is)
      (case sa_Grows => k_is)
      (case n_Grows_old => k_is)
      (case n_Grows_before => k_is)
      (case ia_Grows => k_is)
      (case in_Grows => k_is)
      (case it_Grows => k_is)
      (case im_Grows => k_is)
      (case aGrows0 => k_is)
      (case iGrows0 => k_is)
      (case lGrows0 => k_is)
      (case cGrows0 => k_is)
      (case kGrows0 => k_is)
      (case mk_Grows => k_is)
      (case kc_Grows => k_is)
      (case aGrows1 => k_is)
      (case iGrows1 => k_is)
      (case lGrows1 => k_is)
      (case cGrows1 => k_is)
      (case kGrows1 => k_is)
      (case aGrows2 => k_is)
      (case iGrows2 => k_is)
      (case lGrows2 => k_is)
      (case cGrows2 => k_is)
      (case kGrows2 => k_is)
      (case g_Holds => k_is)
      (case pg_Holds => k_is)
      (case hd_Holds => k_is)
      (case po_Holds => k_is)
      (case sa_Holds => k_is)
      (case n_Holds_place => k_is)
      (case n_Holds_key => k_is)
      (case n_Holds_depth => k_is)
      (case n_Holds_said => k_is)
      (case ia_Holds => k_is)
      (case in_Holds => k_is)
      (case it_Holds => k_is)
      (case im_Holds => k_is)
      (case aHolds0 => k_is)
      (case iHolds0 => k_is)
      (case lHolds0 => k_is)
      (case cHolds0 => k_is)
      (case kHolds0 => k_is)
      (case mk_Holds => k_is)
      (case kc_Holds => k_is)
      (case aHolds1 => k_is)
      (case iHolds1 => k_is)
      (case lHolds1 => k_is)
      (case cHolds1 => k_is)
      (case kHolds1 => k_is)
      (case aHolds2 => k_is)
      (case iHolds2 => k_is)
      (case lHolds2 => k_is)
      (case cHolds2 => k_is)
      (case kHolds2 => k_is)
      (case aHolds3 => k_is)
      (case iHolds3 => k_is)
      (case lHolds3 => k_is)
      (case cHolds3 => k_is)
      (case kHolds3 => k_is)
      (case g_Lacks => k_is)
      (case pg_Lacks => k_is)
      (case hd_Lacks => k_is)
      (case po_Lacks => k_is)
      (case sa_Lacks => k_is)
      (case n_Lacks_place => k_is)
      (case n_Lacks_key => k_is)
      (case n_Lacks_depth => k_is)
      (case ia_Lacks => k_is)
      (case in_Lacks => k_is)
      (case it_Lacks => k_is)
      (case im_Lacks => k_is)
      (case aLacks0 => k_is)
      (case iLacks0 => k_is)
      (case lLacks0 => k_is)
      (case cLacks0 => k_is)
      (case kLacks0 => k_is)
      (case aLacks1 => k_is)
      (case iLacks1 => k_is)
      (case lLacks1 => k_is)
      (case cLacks1 => k_is)
      (case kLacks1 => k_is)
      (case mk_Lacks => k_is)
      (case kc_Lacks => k_is)
      (case aLacks2 => k_is)
      (case iLacks2 => k_is)
      (case lLacks2 => k_is)
      (case cLacks2 => k_is)
      (case kLacks2 => k_is)
      (case aLacks3 => k_is)
      (case iLacks3 => k_is)
      (case lLacks3 => k_is)
      (case cLacks3 => k_is)
      (case kLacks3 => k_is)
      (case q_Holds_Claim => kernel_rfl)
      (case q_Lacks_Claim => kernel_rfl)
      (case g_Follower => k_is)
      (case pg_Follower => k_is)
      (case hd_Follower => k_is)
      (case po_Follower => k_is)
      (case sa_Follower => k_is)
      (case n_Follower_seal => k_is)
      (case n_Follower_count => k_is)
      (case n_Follower_newest => k_is)
      (case ia_Follower => k_is)
      (case in_Follower => k_is)
      (case it_Follower => k_is)
      (case im_Follower => k_is)
      (case aFollower0 => k_is)
      (case iFollower0 => k_is)
      (case lFollower0 => k_is)
      (case cFollower0 => k_is)
      (case kFollower0 => k_is)
      (case mk_Follower => k_is)
      (case kc_Follower => k_is)
      (case aFollower1 => k_is)
      (case iFollower1 => k_is)
      (case lFollower1 => k_is)
      (case cFollower1 => k_is)
      (case kFollower1 => k_is)
      (case aFollower2 => k_is)
      (case iFollower2 => k_is)
      (case lFollower2 => k_is)
      (case cFollower2 => k_is)
      (case kFollower2 => k_is)
      (case aFollower3 => k_is)
      (case iFollower3 => k_is)
      (case lFollower3 => k_is)
      (case cFollower3 => k_is)
      (case kFollower3 => k_is)
      (case aFollower4 => k_is)
      (case iFollower4 => k_is)
      (case lFollower4 => k_is)
      (case cFollower4 => k_is)
      (case kFollower4 => k_is)
    case hcode => kernel_rfl
#print axioms PySem.Challenge.cw_growbook_k12_whole_keys_behind_holds

