/- Joined: ILt. -/
import Derived.Test.YtlbcmeebcfalpaaGreatDoorR08
set_option linter.unusedVariables false
set_option linter.unusedSimpArgs false
set_option maxRecDepth 100000
set_option maxHeartbeats 16000000
namespace Go.Proofs.YtlbcmeebcfalpaaGreatDoor
open Go.RowKit

inductive LT where
  | op
  | dec
  | rew
  | grp
  | pat
  | sec
  | rul
  | wit
  | nod
  | exp
  | cst
  | sty
  | edi
  | int
  | bool
  | text
  | pos
  | tok
  | inp
  | toks
namespace LT
@[reducible] def ty : LT -> Ty | op => tyOp | dec => tyDecision | rew => tyRewrite | grp => tyGroup | pat => tyPattern | sec => tySection | rul => tyRule | wit => tyWitness | nod => .node | exp => .expr | cst => tyCosts | sty => tyStyle | edi => tyEdition | int => .int | bool => .bool | text => .text | pos => tyPosition | tok => tyToken | inp => tyInput | toks => (.list 6 80 tyToken)
@[reducible] def ts : LT -> List Ty | op => [.int, .text, .int, .int, .text] | dec => [.int, .text, .int, .text] | rew => [.text, .text] | grp => [.text, .list 1 8 .int] | pat => [.text, .list 1 8 .int] | sec => [.text, .list 5 56 tyOp, .list 1 1 .bool, .list 4 48 tyDecision, .text] | rul => [.text, .expr] | wit => [.text, .list 4 56 .node] | nod => [.int, .text, .int, .list 4 56 .node] | exp => [.int, .int, .text, .list 4 56 .expr] | cst => [.int, .int, .int, .int] | sty => [.int, .int, .int, .int, .int, .int, .int, .int, .int, .int, .int, .list 1 1 .bool, .list 1 16 .text] | edi => [.text, .list 2 40 tyWitness, .list 2 32 tyRewrite, tyCosts, .list 5 72 tyRule, .list 2 40 tyGroup, .list 2 40 tyPattern, .int, .list 5 104 tySection, tyStyle] | pos => [.text, .int] | tok => [.text, .text, tyPosition, .int, .text] | inp => [.text, .list 1 16 .text, .list 1 24 (.list 6 80 tyToken), tyCosts, .list 5 72 tyRule, .list 2 40 tyGroup, .list 2 40 tyPattern, .int, .list 5 56 tyOp, .list 1 1 .bool, .list 4 48 tyDecision, .text, tyStyle] | _ => []
@[reducible] def tid : LT -> TypeId | op => 201 | dec => 207 | rew => 106 | grp => 120 | pat => 124 | sec => 87 | rul => 115 | wit => 66 | nod => 64 | exp => 113 | cst => 30 | sty => 38 | edi => 40 | int => 3 | bool => 4 | text => 9 | pos => 192 | tok => 194 | inp => 58 | toks => 88
@[reducible] def sl : LT -> TypeId | op => 55 | dec => 56 | rew => 28 | grp => 32 | pat => 33 | sec => 34 | rul => 31 | wit => 27 | nod => 62 | exp => 111 | int => 118 | bool => 35 | text => 36 | tok => 88 | toks => 54 | _ => 0
@[reducible] def ft : LT -> TypeId | op => 235 | dec => 239 | rew => 107 | grp => 121 | pat => 125 | sec => 128 | rul => 116 | wit => 103 | nod => 224 | exp => 228 | _ => 0
@[reducible] def zero : LT -> List Value | op => [.int .i64 0, .string ⟨#[]⟩, .int .i64 0, .int .i64 0, .string ⟨#[]⟩] | dec => [.int .i64 0, .string ⟨#[]⟩, .int .i64 0, .string ⟨#[]⟩] | rew => [.string ⟨#[]⟩, .string ⟨#[]⟩] | grp => [.string ⟨#[]⟩, .slice none 0 0] | pat => [.string ⟨#[]⟩, .slice none 0 0] | sec => [.string ⟨#[]⟩, .slice none 0 0, .slice none 0 0, .slice none 0 0, .string ⟨#[]⟩] | rul => [.string ⟨#[]⟩, .int .i64 0, .int .i64 0, .string ⟨#[]⟩, .slice none 0 0] | wit => [.string ⟨#[]⟩, .slice none 0 0] | nod => [.int .i64 0, .string ⟨#[]⟩, .int .i64 0, .slice none 0 0] | exp => [.int .i64 0, .int .i64 0, .string ⟨#[]⟩, .slice none 0 0] | cst => [.int .i64 0, .int .i64 0, .int .i64 0, .int .i64 0] | sty => [.int .i64 0, .int .i64 0, .int .i64 0, .int .i64 0, .int .i64 0, .int .i64 0, .int .i64 0, .int .i64 0, .int .i64 0, .int .i64 0, .int .i64 0, .slice none 0 0, .slice none 0 0] | edi => [.string ⟨#[]⟩, .slice none 0 0, .slice none 0 0, .int .i64 0, .int .i64 0, .int .i64 0, .int .i64 0, .slice none 0 0, .slice none 0 0, .slice none 0 0, .int .i64 0, .slice none 0 0, .int .i64 0, .int .i64 0, .int .i64 0, .int .i64 0, .int .i64 0, .int .i64 0, .int .i64 0, .int .i64 0, .int .i64 0, .int .i64 0, .int .i64 0, .slice none 0 0, .slice none 0 0] | int => [.int .i64 0] | bool => [.bool false] | text => [.string ⟨#[]⟩] | pos => [.string ⟨#[]⟩, .int .i64 0] | tok => [.string ⟨#[]⟩, .string ⟨#[]⟩, .string ⟨#[]⟩, .int .i64 0, .int .i64 0, .string ⟨#[]⟩] | inp => [.string ⟨#[]⟩, .slice none 0 0, .slice none 0 0, .int .i64 0, .int .i64 0, .int .i64 0, .int .i64 0, .slice none 0 0, .slice none 0 0, .slice none 0 0, .int .i64 0, .slice none 0 0, .slice none 0 0, .slice none 0 0, .string ⟨#[]⟩, .int .i64 0, .int .i64 0, .int .i64 0, .int .i64 0, .int .i64 0, .int .i64 0, .int .i64 0, .int .i64 0, .int .i64 0, .int .i64 0, .int .i64 0, .slice none 0 0, .slice none 0 0] | toks => [.slice none 0 0]
@[reducible] def k : LT -> Nat | op => 5 | dec => 4 | rew => 2 | grp => 2 | pat => 2 | sec => 5 | rul => 5 | wit => 2 | nod => 4 | exp => 4 | cst => 4 | sty => 13 | edi => 25 | int => 1 | bool => 1 | text => 1 | pos => 2 | tok => 6 | inp => 28 | toks => 1
@[reducible] def s : LT -> Nat | op => 56 | dec => 48 | rew => 32 | grp => 40 | pat => 40 | sec => 104 | rul => 72 | wit => 40 | nod => 56 | exp => 56 | cst => 32 | sty => 136 | edi => 336 | int => 8 | bool => 1 | text => 16 | pos => 24 | tok => 80 | inp => 400 | toks => 24
@[reducible] def fi : LT -> FuncId | op => 228 | dec => 231 | rew => 159 | grp => 167 | pat => 171 | sec => 174 | rul => 162 | wit => 154 | nod => 224 | exp => 163 | cst => 61 | sty => 72 | edi => 32 | _ => 0
@[reducible] def st1 : LT -> FuncId | op => 227 | dec => 230 | rew => 158 | grp => 166 | pat => 170 | sec => 173 | rul => 161 | wit => 153 | nod => 223 | exp => 252 | _ => 0
@[reducible] def ss : LT -> FuncId | op => 175 | dec => 179 | rew => 59 | grp => 65 | pat => 67 | sec => 70 | rul => 63 | wit => 57 | nod => 155 | exp => 225 | _ => 0
@[reducible] def el : LT -> FuncId | op => 226 | dec => 229 | rew => 157 | grp => 165 | pat => 169 | sec => 172 | rul => 160 | wit => 152 | nod => 222 | exp => 251 | int => 168 | bool => 177 | text => 181 | _ => 0
@[reducible] def rd : LT -> FuncId | op => 176 | dec => 180 | rew => 60 | grp => 66 | pat => 68 | sec => 71 | rul => 64 | wit => 58 | nod => 156 | exp => 164 | cst => 62 | sty => 73 | edi => 33 | int => 69 | bool => 178 | text => 56 | _ => 0
@[reducible] def isS : LT -> Bool | op => true | dec => true | rew => true | grp => true | pat => true | sec => true | rul => true | wit => true | nod => true | exp => true | _ => false
@[reducible] def isF : LT -> Bool | op => true | dec => true | rew => true | grp => true | pat => true | sec => true | rul => true | wit => true | nod => true | exp => true | cst => true | sty => true | edi => true | _ => false
@[reducible] def isL : LT -> Bool | op => true | dec => true | rew => true | grp => true | pat => true | sec => true | rul => true | wit => true | nod => true | exp => true | int => true | bool => true | text => true | _ => false
@[reducible] def isW : LT -> Bool | op => true | dec => true | rew => true | grp => true | pat => true | sec => true | rul => true | wit => true | nod => true | exp => true | cst => true | sty => true | edi => true | pos => true | tok => true | inp => true | _ => false
@[reducible] def isE : LT -> Bool | op => true | dec => true | rew => true | grp => true | pat => true | sec => true | rul => true | wit => true | nod => true | exp => true | int => true | bool => true | text => true | tok => true | toks => true | _ => false
@[reducible] def isA : LT -> Bool | op => true | dec => true | rew => true | grp => true | _ => false
@[reducible] def isB : LT -> Bool | pat => true | sec => true | rul => true | _ => false
@[reducible] def isC : LT -> Bool | wit => true | nod => true | exp => true | cst => true | _ => false
@[reducible] def isD : LT -> Bool | sty => true | _ => false
@[reducible] def isY : LT -> Bool | edi => true | _ => false
@[reducible] def item : LT -> FuncId | op => 227 | dec => 230 | rew => 158 | grp => 166 | pat => 170 | sec => 173 | rul => 161 | wit => 153 | nod => 223 | exp => 252 | int => 69 | bool => 178 | text => 56 | _ => 0
@[reducible] def cap : LT -> Nat -> Array Value | op => fun q => #[.pointer (some ⟨q, 0, none⟩)] | dec => fun q => #[.pointer (some ⟨q, 0, none⟩)] | rew => fun q => #[.pointer (some ⟨q, 0, none⟩)] | grp => fun q => #[.pointer (some ⟨q, 0, none⟩)] | pat => fun q => #[.pointer (some ⟨q, 0, none⟩)] | sec => fun q => #[.pointer (some ⟨q, 0, none⟩)] | rul => fun q => #[.pointer (some ⟨q, 0, none⟩)] | wit => fun q => #[.pointer (some ⟨q, 0, none⟩)] | nod => fun q => #[.pointer (some ⟨q, 0, none⟩)] | exp => fun q => #[.pointer (some ⟨q, 0, none⟩)] | int => fun _ => #[] | bool => fun _ => #[] | text => fun _ => #[] | _ => fun _ => #[]
@[reducible] def args : LT -> Nat -> Nat -> Array Value | op => fun p q => #[.pointer (some ⟨p, 0, none⟩), .pointer (some ⟨q, 0, none⟩)] | dec => fun p q => #[.pointer (some ⟨p, 0, none⟩), .pointer (some ⟨q, 0, none⟩)] | rew => fun p q => #[.pointer (some ⟨p, 0, none⟩), .pointer (some ⟨q, 0, none⟩)] | grp => fun p q => #[.pointer (some ⟨p, 0, none⟩), .pointer (some ⟨q, 0, none⟩)] | pat => fun p q => #[.pointer (some ⟨p, 0, none⟩), .pointer (some ⟨q, 0, none⟩)] | sec => fun p q => #[.pointer (some ⟨p, 0, none⟩), .pointer (some ⟨q, 0, none⟩)] | rul => fun p q => #[.pointer (some ⟨p, 0, none⟩), .pointer (some ⟨q, 0, none⟩)] | wit => fun p q => #[.pointer (some ⟨p, 0, none⟩), .pointer (some ⟨q, 0, none⟩)] | nod => fun p q => #[.pointer (some ⟨p, 0, none⟩), .pointer (some ⟨q, 0, none⟩)] | exp => fun p q => #[.pointer (some ⟨p, 0, none⟩), .pointer (some ⟨q, 0, none⟩)] | int => fun p _ => #[.pointer (some ⟨p, 0, none⟩)] | bool => fun p _ => #[.pointer (some ⟨p, 0, none⟩)] | text => fun p _ => #[.pointer (some ⟨p, 0, none⟩)] | _ => fun _ _ => #[]
end LT
/-- How the data of one such type is built. -/
def LT.Inv : LT -> Dv -> Prop
  | .op, d => ∃ y0 y1 y2 y3 y4, d = .struc [.int y0, .text y1, .int y2, .int y3, .text y4]
  | .dec, d => ∃ y0 y1 y2 y3, d = .struc [.int y0, .text y1, .int y2, .text y3]
  | .rew, d => ∃ y0 y1, d = .struc [.text y0, .text y1]
  | .grp, d => ∃ y0 y1a y1c y1l, d = .struc [.text y0, .list 1 8 y1a y1c y1l]
  | .pat, d => ∃ y0 y1a y1c y1l, d = .struc [.text y0, .list 1 8 y1a y1c y1l]
  | .sec, d => ∃ y0 y1a y1c y1l y2a y2c y2l y3a y3c y3l y4, d = .struc [.text y0, .list 5 56 y1a y1c y1l, .list 1 1 y2a y2c y2l, .list 4 48 y3a y3c y3l, .text y4]
  | .rul, d => ∃ y0 y1_0 y1_1 y1_2 y1_3a y1_3c y1_3l, d = .struc [.text y0, .struc [.int y1_0, .int y1_1, .text y1_2, .list 4 56 y1_3a y1_3c y1_3l]]
  | .wit, d => ∃ y0 y1a y1c y1l, d = .struc [.text y0, .list 4 56 y1a y1c y1l]
  | .nod, d => ∃ y0 y1 y2 y3a y3c y3l, d = .struc [.int y0, .text y1, .int y2, .list 4 56 y3a y3c y3l]
  | .exp, d => ∃ y0 y1 y2 y3a y3c y3l, d = .struc [.int y0, .int y1, .text y2, .list 4 56 y3a y3c y3l]
  | .cst, d => ∃ y0 y1 y2 y3, d = .struc [.int y0, .int y1, .int y2, .int y3]
  | .sty, d => ∃ y0 y1 y2 y3 y4 y5 y6 y7 y8 y9 y10 y11a y11c y11l y12a y12c y12l, d = .struc [.int y0, .int y1, .int y2, .int y3, .int y4, .int y5, .int y6, .int y7, .int y8, .int y9, .int y10, .list 1 1 y11a y11c y11l, .list 1 16 y12a y12c y12l]
  | .edi, d => ∃ y0 y1a y1c y1l y2a y2c y2l y3_0 y3_1 y3_2 y3_3 y4a y4c y4l y5a y5c y5l y6a y6c y6l y7 y8a y8c y8l y9_0 y9_1 y9_2 y9_3 y9_4 y9_5 y9_6 y9_7 y9_8 y9_9 y9_10 y9_11a y9_11c y9_11l y9_12a y9_12c y9_12l, d = .struc [.text y0, .list 2 40 y1a y1c y1l, .list 2 32 y2a y2c y2l, .struc [.int y3_0, .int y3_1, .int y3_2, .int y3_3], .list 5 72 y4a y4c y4l, .list 2 40 y5a y5c y5l, .list 2 40 y6a y6c y6l, .int y7, .list 5 104 y8a y8c y8l, .struc [.int y9_0, .int y9_1, .int y9_2, .int y9_3, .int y9_4, .int y9_5, .int y9_6, .int y9_7, .int y9_8, .int y9_9, .int y9_10, .list 1 1 y9_11a y9_11c y9_11l, .list 1 16 y9_12a y9_12c y9_12l]]
  | .int, d => ∃ y, d = .int y
  | .bool, d => ∃ y, d = .bool y
  | .text, d => ∃ y, d = .text y
  | .pos, d => ∃ y0 y1, d = .struc [.text y0, .int y1]
  | .tok, d => ∃ y0 y1 y2_0 y2_1 y3 y4, d = .struc [.text y0, .text y1, .struc [.text y2_0, .int y2_1], .int y3, .text y4]
  | .inp, d => ∃ y0 y1a y1c y1l y2a y2c y2l y3_0 y3_1 y3_2 y3_3 y4a y4c y4l y5a y5c y5l y6a y6c y6l y7 y8a y8c y8l y9a y9c y9l y10a y10c y10l y11 y12_0 y12_1 y12_2 y12_3 y12_4 y12_5 y12_6 y12_7 y12_8 y12_9 y12_10 y12_11a y12_11c y12_11l y12_12a y12_12c y12_12l, d = .struc [.text y0, .list 1 16 y1a y1c y1l, .list 1 24 y2a y2c y2l, .struc [.int y3_0, .int y3_1, .int y3_2, .int y3_3], .list 5 72 y4a y4c y4l, .list 2 40 y5a y5c y5l, .list 2 40 y6a y6c y6l, .int y7, .list 5 56 y8a y8c y8l, .list 1 1 y9a y9c y9l, .list 4 48 y10a y10c y10l, .text y11, .struc [.int y12_0, .int y12_1, .int y12_2, .int y12_3, .int y12_4, .int y12_5, .int y12_6, .int y12_7, .int y12_8, .int y12_9, .int y12_10, .list 1 1 y12_11a y12_11c y12_11l, .list 1 16 y12_12a y12_12c y12_12l]]
  | .toks, d => ∃ a c l, d = .list 6 80 a c l
theorem LT.inv (t : LT) {d : Dv} (h : Has t.ty d) : t.Inv d := by
  cases t
  case op => obtain ⟨y0, y1, y2, y3, y4, rfl⟩ := inv_Op h; exact ⟨_, _, _, _, _, rfl⟩
  case dec => obtain ⟨y0, y1, y2, y3, rfl⟩ := inv_Decision h; exact ⟨_, _, _, _, rfl⟩
  case rew => obtain ⟨y0, y1, rfl⟩ := inv_Rewrite h; exact ⟨_, _, rfl⟩
  case grp => obtain ⟨y0, y1a, y1c, y1l, rfl, -⟩ := inv_Group h; exact ⟨_, _, _, _, rfl⟩
  case pat => obtain ⟨y0, y1a, y1c, y1l, rfl, -⟩ := inv_Pattern h; exact ⟨_, _, _, _, rfl⟩
  case sec => obtain ⟨y0, y1a, y1c, y1l, y2a, y2c, y2l, y3a, y3c, y3l, y4, rfl, -, -, -⟩ := inv_Section h; exact ⟨_, _, _, _, _, _, _, _, _, _, _, rfl⟩
  case rul => obtain ⟨y0, y1_0, y1_1, y1_2, y1_3a, y1_3c, y1_3l, rfl, -⟩ := inv_Rule h; exact ⟨_, _, _, _, _, _, _, rfl⟩
  case wit => obtain ⟨y0, y1a, y1c, y1l, rfl, -⟩ := inv_Witness h; exact ⟨_, _, _, _, rfl⟩
  case nod => obtain ⟨y0, y1, y2, y3a, y3c, y3l, rfl, -⟩ := inv_Node h.node_inv; exact ⟨_, _, _, _, _, _, rfl⟩
  case exp => obtain ⟨y0, y1, y2, y3a, y3c, y3l, rfl, -⟩ := inv_Expr h.expr_inv; exact ⟨_, _, _, _, _, _, rfl⟩
  case cst => obtain ⟨y0, y1, y2, y3, rfl⟩ := inv_Costs h; exact ⟨_, _, _, _, rfl⟩
  case sty => obtain ⟨y0, y1, y2, y3, y4, y5, y6, y7, y8, y9, y10, y11a, y11c, y11l, y12a, y12c, y12l, rfl, -, -⟩ := inv_Style h; exact ⟨_, _, _, _, _, _, _, _, _, _, _, _, _, _, _, _, _, rfl⟩
  case edi => obtain ⟨y0, y1a, y1c, y1l, y2a, y2c, y2l, y3_0, y3_1, y3_2, y3_3, y4a, y4c, y4l, y5a, y5c, y5l, y6a, y6c, y6l, y7, y8a, y8c, y8l, y9_0, y9_1, y9_2, y9_3, y9_4, y9_5, y9_6, y9_7, y9_8, y9_9, y9_10, y9_11a, y9_11c, y9_11l, y9_12a, y9_12c, y9_12l, rfl, -, -, -, -, -, -, -, -⟩ := inv_Edition h; exact ⟨_, _, _, _, _, _, _, _, _, _, _, _, _, _, _, _, _, _, _, _, _, _, _, _, _, _, _, _, _, _, _, _, _, _, _, _, _, _, _, _, _, rfl⟩
  case int => exact h.int_inv
  case bool => exact h.bool_inv
  case text => exact h.text_inv
  case pos => obtain ⟨y0, y1, rfl⟩ := inv_Position h; exact ⟨_, _, rfl⟩
  case tok => obtain ⟨y0, y1, y2_0, y2_1, y3, y4, rfl⟩ := inv_Token h; exact ⟨_, _, _, _, _, _, rfl⟩
  case inp => obtain ⟨y0, y1a, y1c, y1l, y2a, y2c, y2l, y3_0, y3_1, y3_2, y3_3, y4a, y4c, y4l, y5a, y5c, y5l, y6a, y6c, y6l, y7, y8a, y8c, y8l, y9a, y9c, y9l, y10a, y10c, y10l, y11, y12_0, y12_1, y12_2, y12_3, y12_4, y12_5, y12_6, y12_7, y12_8, y12_9, y12_10, y12_11a, y12_11c, y12_11l, y12_12a, y12_12c, y12_12l, rfl, -, -, -, -, -, -, -, -, -, -⟩ := inv_Input h; exact ⟨_, _, _, _, _, _, _, _, _, _, _, _, _, _, _, _, _, _, _, _, _, _, _, _, _, _, _, _, _, _, _, _, _, _, _, _, _, _, _, _, _, _, _, _, _, _, _, _, rfl⟩
  case toks => obtain ⟨a0, a1, a2, rfl, -⟩ := h.list_inv; exact ⟨_, _, _, rfl⟩
/-- Cells, one behind the other. -/
def CellsAt (W : World) (b : Nat) : Nat -> List Value -> Prop
  | _, [] => True
  | i, v :: r => W.cell? ⟨b, i, none⟩ = some v /\ CellsAt W b (i + 1) r
theorem cellsAt_gen {w : World} {b : Nat} {cs : Array Value} {t : TypeId} {fr : Nat × Nat} (h : w.heap[b]? = some (.cells cs t fr)) : ∀ (l : List Value) (i : Nat), (∀ j x, l[j]? = some x -> cs[i + j]? = some x) -> CellsAt w b i l
  | [], _, _ => trivial
  | v :: r, i, hx => ⟨cell_box h i (hx 0 v rfl), cellsAt_gen h r (i + 1) fun j x hj => by
    have := hx (j + 1) x (by simpa using hj)
    rw [show i + 1 + j = i + (j + 1) by omega]; exact this⟩
theorem cellsAt {w : World} {b : Nat} {cs : List Value} {t : TypeId} {fr : Nat × Nat} (h : w.heap[b]? = some (.cells cs.toArray t fr)) : CellsAt w b 0 cs :=
  cellsAt_gen h cs 0 fun j x hx => by rw [Nat.zero_add]; simpa using hx
theorem LT.len (T : LT) {d : Dv} (h : Has T.ty d) : d.cells.length = T.k /\ T.zero.length = T.k /\ (∀ v ∈ d.cells, v.oneCell' = true) /\ (T.isW = true -> d.val = .agg d.cells.toArray) := by
  have hi := T.inv h
  cases T
  all_goals
    dsimp only [LT.Inv] at hi
    repeat (rcases (hi : ∃ _, _) with ⟨_, hi⟩)
    subst hi
    refine ⟨rfl, rfl, by simp [Dv.cells, Dv.cellsL, Value.oneCell'], fun h => ?_⟩
    first | rfl | cases h
theorem LT.kpos (T : LT) : 0 < T.k /\ T.s <= 1000 := by cases T <;> exact ⟨by decide, by decide⟩
theorem LT.info (T : LT) : (Tryz.prog.info? T.tid).map (fun i => (i.zero, i.size, i.bytes)) = some (some (if T.isW then .agg T.zero.toArray else T.zero.headD (.bool true)), T.k, T.s) := by
  cases T <;> kernel_rfl
theorem LT.und (T : LT) (h : T.isE = true) : Tryz.prog.underlying T.sl = some (.slice T.tid) := by
  cases T <;> first | (cases h; done) | kernel_rfl
/-- From the struct to the type that bears its name. -/
theorem LT.up (T : LT) (h : T.isF = true) {S : Nat -> Prop} {rb wb : Nat} {l : List Vl} {g : Bool} {w : World} {e : Ending} {W : World} (k : RdOne S (.struc T.ts) rb wb l g w e W) : RdOne S T.ty rb wb l g w e W := by
  cases T
  case nod =>
    obtain ⟨d, a', n', c', l', g', he, hT, hrd, ⟨hs, hx⟩, hr, hv, hE⟩ := k
    refine ⟨d, a', n', c', l', g', he, .node hT, hrd, ⟨hs, ?_⟩, hr, hv, hE⟩
    rcases hx with ⟨h1, h2⟩ | ⟨h1, h2, v, h3, h4, h5⟩
    · exact .inl ⟨h1, h2.imp id fun h2 v r e hf => h2 v r e (fit_node.1 hf)⟩
    · exact .inr ⟨h1, h2, v, h3, fit_node.2 h4, h5⟩
  case exp =>
    obtain ⟨d, a', n', c', l', g', he, hT, hrd, ⟨hs, hx⟩, hr, hv, hE⟩ := k
    refine ⟨d, a', n', c', l', g', he, .expr hT, hrd, ⟨hs, ?_⟩, hr, hv, hE⟩
    rcases hx with ⟨h1, h2⟩ | ⟨h1, h2, v, h3, h4, h5⟩
    · exact .inl ⟨h1, h2.imp id fun h2 v r e hf => h2 v r e (fit_expr.1 hf)⟩
    · exact .inr ⟨h1, h2, v, h3, fit_expr.2 h4, h5⟩
  all_goals first | exact k | cases h
theorem LT.isF_W {T : LT} (h : T.isF = true) : T.isW = true := by cases T <;> first | rfl | cases h
theorem LT.isL_E {T : LT} (h : T.isL = true) : T.isE = true := by cases T <;> first | rfl | cases h
/-- The store of a struct's cells into block b, and the load of them. -/
abbrev StL (b : Nat) (cs : List Value) (W WF : World) : Prop := (storeCells ⟨b, 0, none⟩ cs 0).run Tryz.prog W = .ok () WF
abbrev LdV (b : Nat) (t : TypeId) (v : Value) (W : World) : Prop := (loadVar t ⟨b, 0, none⟩).run Tryz.prog W = .ok v W
theorem LT.und_s (T : LT) (h : T.isW = true) : ∃ fs, Tryz.prog.underlying T.tid = some (.struct fs) := by
  cases T
  case op => exact ⟨_, Tryz.underlying201⟩
  case dec => exact ⟨_, Tryz.underlying207⟩
  case rew => exact ⟨_, Tryz.underlying106⟩
  case grp => exact ⟨_, Tryz.underlying120⟩
  case pat => exact ⟨_, Tryz.underlying124⟩
  case sec => exact ⟨_, Tryz.underlying87⟩
  case rul => exact ⟨_, Tryz.underlying115⟩
  case wit => exact ⟨_, Tryz.underlying66⟩
  case nod => exact ⟨_, Tryz.underlying64⟩
  case exp => exact ⟨_, Tryz.underlying113⟩
  case cst => exact ⟨_, Tryz.underlying30⟩
  case sty => exact ⟨_, Tryz.underlying38⟩
  case edi => exact ⟨_, Tryz.underlying40⟩
  case pos => exact ⟨_, Tryz.underlying192⟩
  case tok => exact ⟨_, Tryz.underlying194⟩
  case inp => exact ⟨_, Tryz.underlying58⟩
  all_goals cases h
theorem LT.ld (T : LT) (hW : T.isW = true) {W : World} {b : Nat} {cs : List Value} {tt : TypeId} {fr : Nat × Nat} (hl : cs.length = T.k) (h : W.heap[b]? = some (.cells cs.toArray tt fr)) : LdV b T.tid (.agg cs.toArray) W := by
  obtain ⟨fs, hu⟩ := T.und_s hW
  obtain ⟨i0, hi, hz0, hz1, hz2⟩ := info_parts T.info
  exact run_loadVar_row _ b tt T.tid cs.toArray fr _ h hu rfl (by rw [hi]; simp [hz1, hl])
section
variable {ops : Array Oper} {rest : List Oper} {o : Oper} {act : Act} {Q : Exit -> Act -> World -> Prop} {W WF : World} {b k : Nat} {cs : List Value}
theorem wpList_stL (h : StL b cs W WF) (hgd : o.guard = none) (t : TypeId) (x y : Operand) (ho : o.op = .store t x y) (hx : act.eval x = .pointer (some ⟨b, 0, none⟩)) (hy : act.eval y = .agg cs.toArray) (hi : (Tryz.prog.info? t).map (·.size) = some cs.length)
    (hk : wpList Tryz.prog ops Q rest (act.put o.dst undef) WF) : wpList Tryz.prog ops Q (o :: rest) act W := by
  refine wpList_plain hgd fun K hK => ?_
  have hv : (storeVar t ⟨b, 0, none⟩ (.agg cs.toArray)).run Tryz.prog W = .ok () WF := by
    cases hq : Tryz.prog.info? t with
    | none => simp [hq] at hi
    | some i =>
      have hs : cs.length = i.size := by simp [hq] at hi; omega
      have h' : (storeCells ⟨b, 0, none⟩ cs).run Tryz.prog W = .ok () WF := h
      simp [storeVar, sizeOf, typeInfo, hq, Value.cells, hs, h']
  unfold Oper.wp execOp
  simp only [ho, hx, hy, Instr.storeAt, Instr.sureAddr, Sem.run_bind, Sem.run_pure, Result.andThen_ok, hv]
  exact hK _ _ hk
end
section
variable {ops : Array Oper} {rest : List Oper} {o : Oper} {act : Act} {Q : Exit -> Act -> World -> Prop} {W : World} {b : Nat} {t : TypeId} {v : Value}
theorem wpList_ldL (h : LdV b t v W) (hgd : o.guard = none) (x : Operand) (ho : o.op = .load t x) (hx : act.eval x = .pointer (some ⟨b, 0, none⟩))
    (hk : wpList Tryz.prog ops Q rest (act.put o.dst v) W) : wpList Tryz.prog ops Q (o :: rest) act W := by
  refine wpList_plain hgd fun K hK => ?_
  have h' : (loadVar t ⟨b, 0, none⟩).run Tryz.prog W = .ok v W := h
  unfold Oper.wp execOp
  simp only [ho, hx, Instr.loadAt, Instr.sureAddr, Sem.run_bind, Sem.run_pure, Result.andThen_ok, h']
  exact hK _ _ hk
theorem ret_ldL {fn : Func} {R : Ending -> World -> Prop} {i : Nat} (h : LdV b t v W) (hres : fn.results = #[.cell i t]) (hp : act.tmps.getD i undef = .pointer (some ⟨b, 0, none⟩)) (hd : act.defers = []) (hR : R (.returned v) W) : bodyPost Tryz.prog fn R .ret act W := by
  have h' : (loadVar t ⟨b, 0, none⟩).run Tryz.prog W = .ok v W := h
  refine bodyPost_ret (v := v) ?_ hd hR
  have hp' : act.tmps[i]?.getD undef = .pointer (some ⟨b, 0, none⟩) := by rw [<- hp]; simp
  simp [results, hres, hp', asAddr, h', Result.andThen]
end
/-- The result of type T, put into its block at the end. -/
def LT.Put (T : LT) (S : Nat -> Prop) (rb wb : Nat) (l : List Vl) (g : Bool) (w : World) (e : Ending) (W : World) : Prop :=
  ∃ (d : Dv) (WF : World), e = .returned (.agg d.cells.toArray) /\ T.Inv d /\ StL w.heap.size d.cells W WF /\ LdV w.heap.size T.tid (.agg d.cells.toArray) WF /\ RdOne S T.ty rb wb l g w e WF
theorem LT.put_of (T : LT) (hF : T.isF = true) {S : Nat -> Prop} {rb wb : Nat} {l : List Vl} {g : Bool} {w W1 W : World} {e : Ending} (h : RdOne (InS S w) T.ty rb wb l g W1 e W) (hlt : rb < w.heap.size /\ wb < w.heap.size) (hb : Below w.heap.size w W1) (hz : W1.heap[w.heap.size]? = some (.cells T.zero.toArray T.tid (0, 0))) : T.Put S rb wb l g w e W := by
  obtain ⟨d, a1, n1, c1, l1, g1, he, hT, hrd, hgot, hr, hv, hE⟩ := h
  have hz1 := (Array.getElem?_eq_some_iff.1 hz).1
  have z := hE.heap (fun hn => by rcases hn with e | e <;> omega) hz
  obtain ⟨hl, hl2, h1, hval⟩ := T.len hT
  refine ⟨d, _, by rw [he, hval (LT.isF_W hF)], T.inv hT, run_putL d.cells 0 _ W z (by simp; omega) h1, T.ld (LT.isF_W hF) hl (putL_at d.cells (by simp; omega) z), ?_⟩
  rw [he]
  exact RdOne.put _ hT hrd hgot hr hv hE hb hz1 hlt
theorem LT.isS_F {T : LT} (h : T.isS = true) : T.isF = true := by cases T <;> first | rfl | cases h
theorem LT.isS_L {T : LT} (h : T.isS = true) : T.isL = true := by cases T <;> first | rfl | cases h
end Go.Proofs.YtlbcmeebcfalpaaGreatDoor
