/-
  Words and walks for DeciderBallots. No condition.
-/
import Derived.Test.YtajehicfjidaiaaGreatDoorRows
import Derived.Test.YtajehicfjidaiaaGreatDoorDeciderBallotsX3
set_option linter.unusedSectionVars false
set_option linter.unnecessarySimpa false
set_option linter.unusedSimpArgs false
set_option linter.unusedVariables false
set_option maxRecDepth 100000
namespace Go.RX.L
open Go Go.RX Go.Proofs
def gl_parts:List Int:= [65536,62757,60097,57549,55109,52773,50535,48393,46341,44376,42495,40693,38968,37316,35734,34219]
def gl_deBruijn64tab:List Int:= [0,1,56,2,57,49,28,3,61,58,42,50,38,29,17,4,62,47,59,36,45,43,51,22,53,39,33,30,24,18,12,5,63,55,48,27,60,41,37,16,46,35,44,21,52,32,23,11,54,26,40,15,34,20,31,10,25,14,19,9,13,8,7,6]
def gl_four:List Int:= [0,498536548,997073096,651767980,1994146192,1802195444,1303535960,1342533948,3988292384,4027552580,3604390888,3412177804,2607071920,2262029012,2685067896,3183342108]
def bg4:List UInt8:= [0,1,2,2,3,3,3,3,4,4,4,4,4,4,4,4,5,5,5,5,5,5,5,5,5,5,5,5,5,5,5,5,6,6,6,6,6,6,6,6,6,6,6,6,6,6,6,6,6,6,6,6,6,6,6,6,6,6,6,6,6,6,6,6,7,7,7,7,7,7,7,7,7,7,7,7,7,7,7,7,7,7,7,7,7,7,7,7,7,7,7,7,7,7,7,7,7,7,7,7,7,7,7,7,7,7,7,7,7,7,7,7,7,7,7,7,7,7,7,7,7,7,7,7,7,7,7,7,8,8,8,8,8,8,8,8,8,8,8,8,8,8,8,8,8,8,8,8,8,8,8,8,8,8,8,8,8,8,8,8,8,8,8,8,8,8,8,8,8,8,8,8,8,8,8,8,8,8,8,8,8,8,8,8,8,8,8,8,8,8,8,8,8,8,8,8,8,8,8,8,8,8,8,8,8,8,8,8,8,8,8,8,8,8,8,8,8,8,8,8,8,8,8,8,8,8,8,8,8,8,8,8,8,8,8,8,8,8,8,8,8,8,8,8,8,8,8,8,8,8,8,8,8,8,8,8]
noncomputable def E:H2:=⟨Tryz.prog,fun f=>⟨f==8 || f==10 || f==12 || f==13 || f==18 || f==21 || f==23 || f==24 || f==25 || f==28 || f==30 || f==32 || f==37 || f==49 || f==50 || f==51 || f==52 || f==53 || f==55 || f==63 || f==64 || f==66 || f==67 || f==68 || f==86 || f==87 || f==88 || f==93 || f==94 || f==106 || f==110 || f==117 || f==121 || f==123 || f==125 || f==126 || f==140 || f==144 || f==151 || f==152,f==10 || f==12 || f==13 || f==18 || f==21 || f==23 || f==24 || f==25 || f==29 || f==30 || f==32 || f==49 || f==50 || f==51 || f==52 || f==53 || f==55 || f==63 || f==64 || f==66 || f==67 || f==68 || f==85 || f==86 || f==87 || f==88 || f==89 || f==91 || f==93 || f==94 || f==106 || f==109 || f==117 || f==125 || f==126 || f==147 || f==152,f==105 || f==138 || f==146,f==12 || f==13 || f==18 || f==21 || f==23 || f==49 || f==64 || f==68 || f==88 || f==106⟩,fun g=>bif g==2 then .iptr 1 (List.map (d7 .u32) gl_four) 0 0 else bif g==1 then .iptr 1 (List.map (d7 .u8) gl_deBruijn64tab) 0 0 else bif g==0 then .iptr 1 (List.map (d7 .i64) gl_parts) 0 0 else .undef⟩
theorem hm:E.P.follows .mixedOrders=true:=Tryz.checked.mixed
instance:Mix E:=⟨hm⟩
structure d8 where
 F_:Int
 Deciders:Int
 Targets:Int
 Routers:Int
 Observers:Int
 Tiers:List Int
 Every:Int
 Wait:Int
 Rise:Int
 Fall:Int
 Fresh:Int
 L_:Int
 M_:Int
 Dwell:Int
 D_:Int
 W_:Int
 B_:Int
 Hit:Int
 Suppress:Int
 Reuse:Int
 Half:Int
 First:Int
 Step:Int
 StepTime:Int
 S_:Int
 Cap:Int
 Span:Int
 Room:Int
 Tries:Int
 Retry:Int
def d8.enc (x:d8):List D:= [D.int .i64 x.F_,D.int .i64 x.Deciders,D.int .i64 x.Targets,D.int .i64 x.Routers,D.int .i64 x.Observers,D.sl false 1 (List.map (d7 .i64) x.Tiers),D.int .i64 x.Every,D.int .i64 x.Wait,D.int .i64 x.Rise,D.int .i64 x.Fall,D.int .i64 x.Fresh,D.int .i64 x.L_,D.int .i64 x.M_,D.int .i64 x.Dwell,D.int .i64 x.D_,D.int .i64 x.W_,D.int .i64 x.B_,D.int .i64 x.Hit,D.int .i64 x.Suppress,D.int .i64 x.Reuse,D.int .i64 x.Half,D.int .i64 x.First,D.int .i64 x.Step,D.int .i64 x.StepTime,D.int .i64 x.S_,D.int .i64 x.Cap,D.int .i64 x.Span,D.int .i64 x.Room,D.int .i64 x.Tries,D.int .i64 x.Retry]
def d8.encL (x:d8) (r:List D):List D:=D.int .i64 x.F_::D.int .i64 x.Deciders::D.int .i64 x.Targets::D.int .i64 x.Routers::D.int .i64 x.Observers::D.sl false 1 (List.map (d7 .i64) x.Tiers)::D.int .i64 x.Every::D.int .i64 x.Wait::D.int .i64 x.Rise::D.int .i64 x.Fall::D.int .i64 x.Fresh::D.int .i64 x.L_::D.int .i64 x.M_::D.int .i64 x.Dwell::D.int .i64 x.D_::D.int .i64 x.W_::D.int .i64 x.B_::D.int .i64 x.Hit::D.int .i64 x.Suppress::D.int .i64 x.Reuse::D.int .i64 x.Half::D.int .i64 x.First::D.int .i64 x.Step::D.int .i64 x.StepTime::D.int .i64 x.S_::D.int .i64 x.Cap::D.int .i64 x.Span::D.int .i64 x.Room::D.int .i64 x.Tries::D.int .i64 x.Retry::r
def f5 (n:Nat) (l:List (List D)):D:= .msl n 0 l.length l.length false
def d8.l (x:d8) (r:List D):List D:=D.int .i64 x.F_::D.int .i64 x.Deciders::D.int .i64 x.Targets::D.int .i64 x.Routers::D.int .i64 x.Observers::D.sl false 1 (List.map (d7 .i64) x.Tiers)::D.int .i64 x.Every::D.int .i64 x.Wait::D.int .i64 x.Rise::D.int .i64 x.Fall::D.int .i64 x.Fresh::D.int .i64 x.L_::D.int .i64 x.M_::D.int .i64 x.Dwell::D.int .i64 x.D_::D.int .i64 x.W_::D.int .i64 x.B_::D.int .i64 x.Hit::D.int .i64 x.Suppress::D.int .i64 x.Reuse::D.int .i64 x.Half::D.int .i64 x.First::D.int .i64 x.Step::D.int .i64 x.StepTime::D.int .i64 x.S_::D.int .i64 x.Cap::D.int .i64 x.Span::D.int .i64 x.Room::D.int .i64 x.Tries::D.int .i64 x.Retry::r
def d8.Ok (x:d8):Prop:=n8 .i64 x.F_∧n8 .i64 x.Deciders∧n8 .i64 x.Targets∧n8 .i64 x.Routers∧n8 .i64 x.Observers∧(x.Tiers.length*8≤reachBytes∧∀y∈x.Tiers,n8 .i64 y)∧n8 .i64 x.Every∧n8 .i64 x.Wait∧n8 .i64 x.Rise∧n8 .i64 x.Fall∧n8 .i64 x.Fresh∧n8 .i64 x.L_∧n8 .i64 x.M_∧n8 .i64 x.Dwell∧n8 .i64 x.D_∧n8 .i64 x.W_∧n8 .i64 x.B_∧n8 .i64 x.Hit∧n8 .i64 x.Suppress∧n8 .i64 x.Reuse∧n8 .i64 x.Half∧n8 .i64 x.First∧n8 .i64 x.Step∧n8 .i64 x.StepTime∧n8 .i64 x.S_∧n8 .i64 x.Cap∧n8 .i64 x.Span∧n8 .i64 x.Room∧n8 .i64 x.Tries∧n8 .i64 x.Retry
structure Plan where
 Epoch:Int
 Target:Int
 Prev:Int
 Spill:Int
 Percent:Int
 Stamp:Int
 Since:Int
 Ramped:Int
 Up:Int
 Sup:Int
 Pen:List Int
 Changes:List Int
def Plan.enc (x:Plan):List D:= [D.int .i64 x.Epoch,D.int .i64 x.Target,D.int .i64 x.Prev,D.int .i64 x.Spill,D.int .i64 x.Percent,D.int .i64 x.Stamp,D.int .i64 x.Since,D.int .i64 x.Ramped,D.int .u64 x.Up,D.int .u64 x.Sup,D.sl false 1 (List.map (d7 .i64) x.Pen),D.sl false 1 (List.map (d7 .i64) x.Changes)]
def Plan.encL (x:Plan) (r:List D):List D:=D.int .i64 x.Epoch::D.int .i64 x.Target::D.int .i64 x.Prev::D.int .i64 x.Spill::D.int .i64 x.Percent::D.int .i64 x.Stamp::D.int .i64 x.Since::D.int .i64 x.Ramped::D.int .u64 x.Up::D.int .u64 x.Sup::D.sl false 1 (List.map (d7 .i64) x.Pen)::D.sl false 1 (List.map (d7 .i64) x.Changes)::r
def Plan.l (x:Plan) (r:List D):List D:=D.int .i64 x.Epoch::D.int .i64 x.Target::D.int .i64 x.Prev::D.int .i64 x.Spill::D.int .i64 x.Percent::D.int .i64 x.Stamp::D.int .i64 x.Since::D.int .i64 x.Ramped::D.int .u64 x.Up::D.int .u64 x.Sup::D.sl false 1 (List.map (d7 .i64) x.Pen)::D.sl false 1 (List.map (d7 .i64) x.Changes)::r
def Plan.Ok (x:Plan):Prop:=n8 .i64 x.Epoch∧n8 .i64 x.Target∧n8 .i64 x.Prev∧n8 .i64 x.Spill∧n8 .i64 x.Percent∧n8 .i64 x.Stamp∧n8 .i64 x.Since∧n8 .i64 x.Ramped∧n8 .u64 x.Up∧n8 .u64 x.Sup∧(x.Pen.length*8≤reachBytes∧∀y∈x.Pen,n8 .i64 y)∧(x.Changes.length*8≤reachBytes∧∀y∈x.Changes,n8 .i64 y)
structure e9 where
 Kind:Int
 From:Int
 To:Int
 Epoch:Int
 Ballot:Int
 Accepted:Int
 Nonce:Int
 Time:Int
 Up:Int
 Code:Int
 HasPlan:Bool
 Plan:Plan
 ID:List Int
 Session:List Int
 Payload:List Int
def e9.enc (x:e9):List D:= [D.int .i64 x.Kind,D.int .i64 x.From,D.int .i64 x.To,D.int .i64 x.Epoch,D.int .i64 x.Ballot,D.int .i64 x.Accepted,D.int .i64 x.Nonce,D.int .i64 x.Time,D.int .u64 x.Up,D.int .i64 x.Code,D.bool x.HasPlan,D.int .i64 x.Plan.Epoch,D.int .i64 x.Plan.Target,D.int .i64 x.Plan.Prev,D.int .i64 x.Plan.Spill,D.int .i64 x.Plan.Percent,D.int .i64 x.Plan.Stamp,D.int .i64 x.Plan.Since,D.int .i64 x.Plan.Ramped,D.int .u64 x.Plan.Up,D.int .u64 x.Plan.Sup,D.sl false 1 (List.map (d7 .i64) x.Plan.Pen),D.sl false 1 (List.map (d7 .i64) x.Plan.Changes),D.sl false 1 (List.map (d7 .i64) x.ID),D.sl false 1 (List.map (d7 .u8) x.Session),D.sl false 1 (List.map (d7 .u8) x.Payload)]
def e9.l (x:e9) (r:List D):List D:=D.int .i64 x.Kind::D.int .i64 x.From::D.int .i64 x.To::D.int .i64 x.Epoch::D.int .i64 x.Ballot::D.int .i64 x.Accepted::D.int .i64 x.Nonce::D.int .i64 x.Time::D.int .u64 x.Up::D.int .i64 x.Code::D.bool x.HasPlan::D.int .i64 x.Plan.Epoch::D.int .i64 x.Plan.Target::D.int .i64 x.Plan.Prev::D.int .i64 x.Plan.Spill::D.int .i64 x.Plan.Percent::D.int .i64 x.Plan.Stamp::D.int .i64 x.Plan.Since::D.int .i64 x.Plan.Ramped::D.int .u64 x.Plan.Up::D.int .u64 x.Plan.Sup::D.sl false 1 (List.map (d7 .i64) x.Plan.Pen)::D.sl false 1 (List.map (d7 .i64) x.Plan.Changes)::D.sl false 1 (List.map (d7 .i64) x.ID)::D.sl false 1 (List.map (d7 .u8) x.Session)::D.sl false 1 (List.map (d7 .u8) x.Payload)::r
def e9.Ok (x:e9):Prop:=n8 .i64 x.Kind∧n8 .i64 x.From∧n8 .i64 x.To∧n8 .i64 x.Epoch∧n8 .i64 x.Ballot∧n8 .i64 x.Accepted∧n8 .i64 x.Nonce∧n8 .i64 x.Time∧n8 .u64 x.Up∧n8 .i64 x.Code∧True∧x.Plan.Ok∧(x.ID.length*8≤reachBytes∧∀y∈x.ID,n8 .i64 y)∧(x.Session.length*1≤reachBytes∧∀y∈x.Session,n8 .u8 y)∧(x.Payload.length*1≤reachBytes∧∀y∈x.Payload,n8 .u8 y)
structure Op where
 What:Int
 M_:e9
 Now:Int
 N_:Int
def Op.enc (x:Op):List D:= [D.int .i64 x.What,D.int .i64 x.M_.Kind,D.int .i64 x.M_.From,D.int .i64 x.M_.To,D.int .i64 x.M_.Epoch,D.int .i64 x.M_.Ballot,D.int .i64 x.M_.Accepted,D.int .i64 x.M_.Nonce,D.int .i64 x.M_.Time,D.int .u64 x.M_.Up,D.int .i64 x.M_.Code,D.bool x.M_.HasPlan,D.int .i64 x.M_.Plan.Epoch,D.int .i64 x.M_.Plan.Target,D.int .i64 x.M_.Plan.Prev,D.int .i64 x.M_.Plan.Spill,D.int .i64 x.M_.Plan.Percent,D.int .i64 x.M_.Plan.Stamp,D.int .i64 x.M_.Plan.Since,D.int .i64 x.M_.Plan.Ramped,D.int .u64 x.M_.Plan.Up,D.int .u64 x.M_.Plan.Sup,D.sl false 1 (List.map (d7 .i64) x.M_.Plan.Pen),D.sl false 1 (List.map (d7 .i64) x.M_.Plan.Changes),D.sl false 1 (List.map (d7 .i64) x.M_.ID),D.sl false 1 (List.map (d7 .u8) x.M_.Session),D.sl false 1 (List.map (d7 .u8) x.M_.Payload),D.int .i64 x.Now,D.int .i64 x.N_]
def Op.l (x:Op) (r:List D):List D:=D.int .i64 x.What::D.int .i64 x.M_.Kind::D.int .i64 x.M_.From::D.int .i64 x.M_.To::D.int .i64 x.M_.Epoch::D.int .i64 x.M_.Ballot::D.int .i64 x.M_.Accepted::D.int .i64 x.M_.Nonce::D.int .i64 x.M_.Time::D.int .u64 x.M_.Up::D.int .i64 x.M_.Code::D.bool x.M_.HasPlan::D.int .i64 x.M_.Plan.Epoch::D.int .i64 x.M_.Plan.Target::D.int .i64 x.M_.Plan.Prev::D.int .i64 x.M_.Plan.Spill::D.int .i64 x.M_.Plan.Percent::D.int .i64 x.M_.Plan.Stamp::D.int .i64 x.M_.Plan.Since::D.int .i64 x.M_.Plan.Ramped::D.int .u64 x.M_.Plan.Up::D.int .u64 x.M_.Plan.Sup::D.sl false 1 (List.map (d7 .i64) x.M_.Plan.Pen)::D.sl false 1 (List.map (d7 .i64) x.M_.Plan.Changes)::D.sl false 1 (List.map (d7 .i64) x.M_.ID)::D.sl false 1 (List.map (d7 .u8) x.M_.Session)::D.sl false 1 (List.map (d7 .u8) x.M_.Payload)::D.int .i64 x.Now::D.int .i64 x.N_::r
def Op.Ok (x:Op):Prop:=n8 .i64 x.What∧x.M_.Ok∧n8 .i64 x.Now∧n8 .i64 x.N_
structure i8 where
 Observer:Int
 Up:Int
 At:Int
def i8.enc (x:i8):List D:= [D.int .i64 x.Observer,D.int .u64 x.Up,D.int .i64 x.At]
def i8.l (x:i8) (r:List D):List D:=D.int .i64 x.Observer::D.int .u64 x.Up::D.int .i64 x.At::r
def i8.Ok (x:i8):Prop:=n8 .i64 x.Observer∧n8 .u64 x.Up∧n8 .i64 x.At
structure p5 where
 Epoch:Int
 Nonce:Int
 Grants:Int
 Until:Int
def p5.enc (x:p5):List D:= [D.int .i64 x.Epoch,D.int .i64 x.Nonce,D.int .u64 x.Grants,D.int .i64 x.Until]
def p5.l (x:p5) (r:List D):List D:=D.int .i64 x.Epoch::D.int .i64 x.Nonce::D.int .u64 x.Grants::D.int .i64 x.Until::r
def p5.Ok (x:p5):Prop:=n8 .i64 x.Epoch∧n8 .i64 x.Nonce∧n8 .u64 x.Grants∧n8 .i64 x.Until
structure T4 where
 ever:Bool
 at_:Int
def T4.enc (x:T4):List D:= [D.bool x.ever,D.int .i64 x.at_]
def T4.Ok (x:T4):Prop:=True∧n8 .i64 x.at_
structure i7 where
 Epoch:Int
 Ballot:Int
 Phase:Int
 Own:Plan
 Best:Int
 Value:Plan
 Promises:Int
 Accepts:Int
def i7.enc (x:i7):List D:= [D.int .i64 x.Epoch,D.int .i64 x.Ballot,D.int .i64 x.Phase,D.int .i64 x.Own.Epoch,D.int .i64 x.Own.Target,D.int .i64 x.Own.Prev,D.int .i64 x.Own.Spill,D.int .i64 x.Own.Percent,D.int .i64 x.Own.Stamp,D.int .i64 x.Own.Since,D.int .i64 x.Own.Ramped,D.int .u64 x.Own.Up,D.int .u64 x.Own.Sup,D.sl false 1 (List.map (d7 .i64) x.Own.Pen),D.sl false 1 (List.map (d7 .i64) x.Own.Changes),D.int .i64 x.Best,D.int .i64 x.Value.Epoch,D.int .i64 x.Value.Target,D.int .i64 x.Value.Prev,D.int .i64 x.Value.Spill,D.int .i64 x.Value.Percent,D.int .i64 x.Value.Stamp,D.int .i64 x.Value.Since,D.int .i64 x.Value.Ramped,D.int .u64 x.Value.Up,D.int .u64 x.Value.Sup,D.sl false 1 (List.map (d7 .i64) x.Value.Pen),D.sl false 1 (List.map (d7 .i64) x.Value.Changes),D.int .u64 x.Promises,D.int .u64 x.Accepts]
def i7.l (x:i7) (r:List D):List D:=D.int .i64 x.Epoch::D.int .i64 x.Ballot::D.int .i64 x.Phase::D.int .i64 x.Own.Epoch::D.int .i64 x.Own.Target::D.int .i64 x.Own.Prev::D.int .i64 x.Own.Spill::D.int .i64 x.Own.Percent::D.int .i64 x.Own.Stamp::D.int .i64 x.Own.Since::D.int .i64 x.Own.Ramped::D.int .u64 x.Own.Up::D.int .u64 x.Own.Sup::D.sl false 1 (List.map (d7 .i64) x.Own.Pen)::D.sl false 1 (List.map (d7 .i64) x.Own.Changes)::D.int .i64 x.Best::D.int .i64 x.Value.Epoch::D.int .i64 x.Value.Target::D.int .i64 x.Value.Prev::D.int .i64 x.Value.Spill::D.int .i64 x.Value.Percent::D.int .i64 x.Value.Stamp::D.int .i64 x.Value.Since::D.int .i64 x.Value.Ramped::D.int .u64 x.Value.Up::D.int .u64 x.Value.Sup::D.sl false 1 (List.map (d7 .i64) x.Value.Pen)::D.sl false 1 (List.map (d7 .i64) x.Value.Changes)::D.int .u64 x.Promises::D.int .u64 x.Accepts::r
def i7.Ok (x:i7):Prop:=n8 .i64 x.Epoch∧n8 .i64 x.Ballot∧n8 .i64 x.Phase∧x.Own.Ok∧n8 .i64 x.Best∧x.Value.Ok∧n8 .u64 x.Promises∧n8 .u64 x.Accepts
structure d9 where
 boot:Int
 known:Plan
 heard:Int
 votes:List i8
 hold:p5
 asked:T4
 prop:i7
 made:Int
 top:Int
 sealed:Int
 told:T4
def d9.enc (x:d9):List D:= [D.int .i64 x.boot,D.int .i64 x.known.Epoch,D.int .i64 x.known.Target,D.int .i64 x.known.Prev,D.int .i64 x.known.Spill,D.int .i64 x.known.Percent,D.int .i64 x.known.Stamp,D.int .i64 x.known.Since,D.int .i64 x.known.Ramped,D.int .u64 x.known.Up,D.int .u64 x.known.Sup,D.sl false 1 (List.map (d7 .i64) x.known.Pen),D.sl false 1 (List.map (d7 .i64) x.known.Changes),D.int .i64 x.heard,D.sl false 3 (List.map i8.enc x.votes),D.int .i64 x.hold.Epoch,D.int .i64 x.hold.Nonce,D.int .u64 x.hold.Grants,D.int .i64 x.hold.Until,D.bool x.asked.ever,D.int .i64 x.asked.at_,D.int .i64 x.prop.Epoch,D.int .i64 x.prop.Ballot,D.int .i64 x.prop.Phase,D.int .i64 x.prop.Own.Epoch,D.int .i64 x.prop.Own.Target,D.int .i64 x.prop.Own.Prev,D.int .i64 x.prop.Own.Spill,D.int .i64 x.prop.Own.Percent,D.int .i64 x.prop.Own.Stamp,D.int .i64 x.prop.Own.Since,D.int .i64 x.prop.Own.Ramped,D.int .u64 x.prop.Own.Up,D.int .u64 x.prop.Own.Sup,D.sl false 1 (List.map (d7 .i64) x.prop.Own.Pen),D.sl false 1 (List.map (d7 .i64) x.prop.Own.Changes),D.int .i64 x.prop.Best,D.int .i64 x.prop.Value.Epoch,D.int .i64 x.prop.Value.Target,D.int .i64 x.prop.Value.Prev,D.int .i64 x.prop.Value.Spill,D.int .i64 x.prop.Value.Percent,D.int .i64 x.prop.Value.Stamp,D.int .i64 x.prop.Value.Since,D.int .i64 x.prop.Value.Ramped,D.int .u64 x.prop.Value.Up,D.int .u64 x.prop.Value.Sup,D.sl false 1 (List.map (d7 .i64) x.prop.Value.Pen),D.sl false 1 (List.map (d7 .i64) x.prop.Value.Changes),D.int .u64 x.prop.Promises,D.int .u64 x.prop.Accepts,D.int .i64 x.made,D.int .i64 x.top,D.int .u64 x.sealed,D.bool x.told.ever,D.int .i64 x.told.at_]
def d9.l (x:d9) (r:List D):List D:=D.int .i64 x.boot::D.int .i64 x.known.Epoch::D.int .i64 x.known.Target::D.int .i64 x.known.Prev::D.int .i64 x.known.Spill::D.int .i64 x.known.Percent::D.int .i64 x.known.Stamp::D.int .i64 x.known.Since::D.int .i64 x.known.Ramped::D.int .u64 x.known.Up::D.int .u64 x.known.Sup::D.sl false 1 (List.map (d7 .i64) x.known.Pen)::D.sl false 1 (List.map (d7 .i64) x.known.Changes)::D.int .i64 x.heard::D.sl false 3 (List.map i8.enc x.votes)::D.int .i64 x.hold.Epoch::D.int .i64 x.hold.Nonce::D.int .u64 x.hold.Grants::D.int .i64 x.hold.Until::D.bool x.asked.ever::D.int .i64 x.asked.at_::D.int .i64 x.prop.Epoch::D.int .i64 x.prop.Ballot::D.int .i64 x.prop.Phase::D.int .i64 x.prop.Own.Epoch::D.int .i64 x.prop.Own.Target::D.int .i64 x.prop.Own.Prev::D.int .i64 x.prop.Own.Spill::D.int .i64 x.prop.Own.Percent::D.int .i64 x.prop.Own.Stamp::D.int .i64 x.prop.Own.Since::D.int .i64 x.prop.Own.Ramped::D.int .u64 x.prop.Own.Up::D.int .u64 x.prop.Own.Sup::D.sl false 1 (List.map (d7 .i64) x.prop.Own.Pen)::D.sl false 1 (List.map (d7 .i64) x.prop.Own.Changes)::D.int .i64 x.prop.Best::D.int .i64 x.prop.Value.Epoch::D.int .i64 x.prop.Value.Target::D.int .i64 x.prop.Value.Prev::D.int .i64 x.prop.Value.Spill::D.int .i64 x.prop.Value.Percent::D.int .i64 x.prop.Value.Stamp::D.int .i64 x.prop.Value.Since::D.int .i64 x.prop.Value.Ramped::D.int .u64 x.prop.Value.Up::D.int .u64 x.prop.Value.Sup::D.sl false 1 (List.map (d7 .i64) x.prop.Value.Pen)::D.sl false 1 (List.map (d7 .i64) x.prop.Value.Changes)::D.int .u64 x.prop.Promises::D.int .u64 x.prop.Accepts::D.int .i64 x.made::D.int .i64 x.top::D.int .u64 x.sealed::D.bool x.told.ever::D.int .i64 x.told.at_::r
def d9.Ok (x:d9):Prop:=n8 .i64 x.boot∧x.known.Ok∧n8 .i64 x.heard∧(x.votes.length*24≤reachBytes∧∀y∈x.votes,y.Ok)∧x.hold.Ok∧x.asked.Ok∧x.prop.Ok∧n8 .i64 x.made∧n8 .i64 x.top∧n8 .u64 x.sealed∧x.told.Ok
structure r6 where
 synced:List Int
 tail:List Int
 fuse:Int
 down:Bool
def r6.enc (x:r6):List D:= [D.sl false 1 (List.map (d7 .u8) x.synced),D.sl false 1 (List.map (d7 .u8) x.tail),D.int .i64 x.fuse,D.bool x.down]
def r6.l (x:r6) (r:List D):List D:=D.sl false 1 (List.map (d7 .u8) x.synced)::D.sl false 1 (List.map (d7 .u8) x.tail)::D.int .i64 x.fuse::D.bool x.down::r
def r6.Ok (x:r6):Prop:=(x.synced.length*1≤reachBytes∧∀y∈x.synced,n8 .u8 y)∧(x.tail.length*1≤reachBytes∧∀y∈x.tail,n8 .u8 y)∧n8 .i64 x.fuse∧True
structure p7 where
 bits:Int
 n:Int
 most:Int
def p7.enc (x:p7):List D:= [D.int .i64 x.bits,D.int .i64 x.n,D.int .i64 x.most]
def p7.l (x:p7) (r:List D):List D:=D.int .i64 x.bits::D.int .i64 x.n::D.int .i64 x.most::r
def p7.Ok (x:p7):Prop:=n8 .i64 x.bits∧n8 .i64 x.n∧n8 .i64 x.most
structure af9 where
 kind:Int
 body:List Int
def af9.enc (x:af9):List D:= [D.int .u8 x.kind,D.sl false 1 (List.map (d7 .u8) x.body)]
def af9.Ok (x:af9):Prop:=n8 .u8 x.kind∧(x.body.length*1≤reachBytes∧∀y∈x.body,n8 .u8 y)
structure be8 where
 at_:Int
 e:Int
def be8.enc (x:be8):List D:= [D.int .i64 x.at_,D.int .i64 x.e]
def be8.Ok (x:be8):Prop:=n8 .i64 x.at_∧n8 .i64 x.e
structure m8 where
 place:be8
 b:List Int
def m8.enc (x:m8):List D:= [D.int .i64 x.place.at_,D.int .i64 x.place.e,D.sl false 1 (List.map (d7 .u8) x.b)]
def m8.l (x:m8) (r:List D):List D:=D.int .i64 x.place.at_::D.int .i64 x.place.e::D.sl false 1 (List.map (d7 .u8) x.b)::r
def m8.Ok (x:m8):Prop:=x.place.Ok∧(x.b.length*1≤reachBytes∧∀y∈x.b,n8 .u8 y)
structure r9 where
 Ballot:Int
 Plan:Plan
def r9.enc (x:r9):List D:= [D.int .i64 x.Ballot,D.int .i64 x.Plan.Epoch,D.int .i64 x.Plan.Target,D.int .i64 x.Plan.Prev,D.int .i64 x.Plan.Spill,D.int .i64 x.Plan.Percent,D.int .i64 x.Plan.Stamp,D.int .i64 x.Plan.Since,D.int .i64 x.Plan.Ramped,D.int .u64 x.Plan.Up,D.int .u64 x.Plan.Sup,D.sl false 1 (List.map (d7 .i64) x.Plan.Pen),D.sl false 1 (List.map (d7 .i64) x.Plan.Changes)]
def r9.l (x:r9) (r:List D):List D:=D.int .i64 x.Ballot::D.int .i64 x.Plan.Epoch::D.int .i64 x.Plan.Target::D.int .i64 x.Plan.Prev::D.int .i64 x.Plan.Spill::D.int .i64 x.Plan.Percent::D.int .i64 x.Plan.Stamp::D.int .i64 x.Plan.Since::D.int .i64 x.Plan.Ramped::D.int .u64 x.Plan.Up::D.int .u64 x.Plan.Sup::D.sl false 1 (List.map (d7 .i64) x.Plan.Pen)::D.sl false 1 (List.map (d7 .i64) x.Plan.Changes)::r
def r9.Ok (x:r9):Prop:=n8 .i64 x.Ballot∧x.Plan.Ok
end Go.RX.L

set_option maxHeartbeats 4000000
namespace Go.RX.L
open Go Go.RX Go.Proofs
attribute [local irreducible] f6
noncomputable def cb6 (y:List i8):D×f4:=((f5 0 (List.map i8.enc y)),[some ⟨3,false,(List.map i8.enc y)⟩])
noncomputable def aB5 (s_:List i8):Option (List i8):=(bif (decide ((0+(List.map i8.enc s_).length)*24≤i6)) then (some s_) else none)
theorem bU4 {s_ r:List i8} (h:aB5 s_=some r):i0 E 37 [.sl false 3 (List.map i8.enc s_)] [] (Rs cb6 r):=so (fn:=Tryz.f37) (k:=true) (m:=0) h<| by
 intro r h;unfold aB5 at h
 refine l8 hm 9 _ ?_
 refine cr1 (List.isEmpty (List.map i8.enc s_)) (by kernel_rfl) ?_ (fun h1=> ?_)
 ·--it is not nil
  refine zn 9 h fun h=> ?_
  refine zw 1 (a:=(List.map i8.enc s_)) (b:=(List.map i8.enc s_)) (rfl) ?_
  exact zu 3 h
 ·--nil
  obtain rfl:s_= []:=by simpa using h1
  simp [i6] at h
  subst h
  refine l8 hm 8 _ ?_
  exact aL1 [.mat 0 3] (d:= .msl 0 0 0 0 false) (s:= [some ⟨3,false,[]⟩]) (by kernel_rfl) Cx.fin_of ⟨rfl,rfl⟩
end Go.RX.L

namespace Go.RX.L
open Go Go.RX Go.Proofs
attribute [local irreducible] f6
noncomputable def cZ4 (y:Bool):D×f4:=(.bool y,[])
noncomputable def aR6 (v:i8) (t:Int):Option Bool:=(some ((v.Observer:Int)==t))
theorem cO7 {v:i8}{t:Int}{r:Bool} (h:aR6 v t=some r):i0 E 134 [.agg (i8.enc v),.iptr 1 [[.int .i64 t]] 0 0] [] (Rs cZ4 r):=so (fn:=Tryz.f134) (k:=false) (m:=0) h<| by
 intro r h;unfold aR6 at h
 exact zu 16 h
end Go.RX.L

namespace Go.RX.L
open Go Go.RX Go.Proofs
attribute [local irreducible] f6
noncomputable def aG2:=p8 (q0 Tryz.f101)
noncomputable def aG1 (y:Int):D×f4:=(.int .i64 y,[])
inductive M4 where
 | s0 (s_:List i8) (f:Int)
 | s1 (s_:List i8) (f t7 t8:Int)
noncomputable def aF1:M4→M
 | .s0 s_ f=>A5 Tryz.f101 [.sl false 3 (List.map i8.enc s_),.fn 134 [] [.iptr 1 [[.int .i64 f]] 0 0]] []
 | .s1 s_ f t7 t8=>⟨[.lpc (aG2 [1,0,1,0,0]) 387,.blk 0,.code (aG2 [1,1])],[(0,.sl false 3 (List.map i8.enc s_)),(1,.fn 134 [] [.iptr 1 [[.int .i64 f]] 0 0]),(7,.int .i64 t7),(8,.int .i64 t8)],[]⟩
abbrev aF3:=SOk E (Cx.of Tryz.f101 false 0) aG1 aF1
noncomputable def U0 (s_:List i8) (f:Int):Option (M4⊕Int):=(some (.inl (.s1 s_ f (((List.map i8.enc s_).length:Nat):Int) 0)))
noncomputable def H5 (s_:List i8) (f t7 t8:Int):Option (M4⊕Int):=(bif (decide ((t8:Int)<t7)) then (bif ((decide ((0:Int)≤t8))&&(decide ((t8:Int)<(((List.map i8.enc s_).length:Nat):Int)))) then (((s_)[t8.toNat]?).bind fun y3=>((aR6 y3 f).bind fun y5=>(bif y5 then (some (.inr t8)) else (some (.inl (.s1 s_ f t7 (IntKind.i64.wrap (t8+1)))))))) else none) else (some (.inr (-1))))
noncomputable def E8:M4→Option (M4⊕Int)
 | .s0 s_ f=>U0 s_ f
 | .s1 s_ f t7 t8=>H5 s_ f t7 t8
theorem be3 {s_ f}:aF3 (.s0 s_ f) (U0 s_ f):=by
 intro r x h ha;unfold U0 at h
 exact zj 14 h ha
theorem bf4 {s_ f t7 t8}:aF3 (.s1 s_ f t7 t8) (H5 s_ f t7 t8):=by
 intro r x h ha;unfold H5 at h
 refine zs 7 h (fun h=> ?_) fun h=> ?_
 ·
  refine zn 14 h fun h=> ?_
  refine zr 1 i8.enc h fun y3 h=> ?_
  refine zc 1 [] h (fun _=>cO7) fun y5 h=> ?_
  refine zs 2 h (fun h=> ?_) fun h=> ?_
  ·
   exact zt 6 h ha
  exact zj 7 h ha
 exact zt 6 h ha
noncomputable def Z0 (s_:List i8) (f:Int):Option Int:=V6 E8 (.s0 s_ f)
theorem aB4 {s_:List i8}{f r:Int} (h:Z0 s_ f=some r):i0 E 101 [.sl false 3 (List.map i8.enc s_),.fn 134 [] [.iptr 1 [[.int .i64 f]] 0 0]] [] (Rs aG1 r):=sc (fn:=Tryz.f101) (k:=false) (m:=0) (stM:=aF1) h fun s=>by
 cases s with
 | s0=>exact be3
 | s1=>exact bf4
end Go.RX.L

namespace Go.RX.L
open Go Go.RX Go.Proofs
attribute [local irreducible] f6
noncomputable def do2 (observer:Int) (y:Unit):D×f4:=(.fn 134 [] [.iptr 1 [[.int .i64 observer]] 0 0],[])
noncomputable def aZ1 (observer:Int):Option Unit:=(some ())
theorem cg8 {observer:Int}{r:Unit} (h:aZ1 observer=some r):i0 E 102 [.int .i64 observer] [] (Rs (do2 observer) r):=so (fn:=Tryz.f102) (k:=false) (m:=0) h<| by
 intro r h;unfold aZ1 at h
 exact zu 11 h
end Go.RX.L

namespace Go.RX.L
open Go Go.RX Go.Proofs
attribute [local irreducible] f6
noncomputable def de1 (y:List i8):D×f4:=(.sl false 3 (List.map i8.enc y),[])
noncomputable def bf2 (l_:List i8) (v:i8):Option (List i8):=((aB5 l_).bind fun y1=>((aZ1 v.Observer).bind fun y2=>((Z0 y1 v.Observer).bind fun y3=>(bif (decide ((y3:Int)≥0)) then (bif ((decide ((0:Int)≤y3))&&(decide ((y3:Int)<(((List.map i8.enc y1).length:Nat):Int)))) then (((y1)[(0+y3.toNat)]?).bind fun y6=>(some (List.set y1 (0+y3.toNat) v))) else none) else (bif (decide (((List.map i8.enc y1).length+1)*24≤i6)) then (some (y1++ [v])) else none)))))
theorem cS6 {l_:List i8}{v:i8}{r:List i8} (h:bf2 l_ v=some r):i0 E 60 [.sl false 3 (List.map i8.enc l_),.agg (i8.enc v)] [] (Rs de1 r):=so (fn:=Tryz.f60) (k:=false) (m:=0) h<| by
 intro r h;unfold bf2 at h
 refine zc 9 [] h (fun _=>bU4) fun y1 h=> ?_
 refine zc 10 [] h (fun _=>cg8) fun y2 h=> ?_
 refine zm 1 (v6 ((List.map i8.enc y1).length)) ?_
 refine zcE 0 [] (args1:= [.sl false 3 (List.take ((List.map i8.enc y1).length) (List.drop 0 (List.map i8.enc y1))),.fn 134 [] [.iptr 1 [[.int .i64 v.Observer]] 0 0]]) h (fun _=>aB4) ⟨by simp [d8.enc,d8.l,i7.enc,i7.l,p5.enc,p5.l,r6.enc,r6.l,e9.enc,e9.l,Op.enc,Op.l,Plan.enc,Plan.l,r9.enc,r9.l,i8.enc,i8.l,p7.enc,p7.l,m8.enc,m8.l,d9.enc,d9.l,List.take_of_length_le,List.map_take,List.map_drop],rfl⟩ fun y3 h=> ?_
 refine zs 8 h (fun h=> ?_) fun h=> ?_
 ·
  refine zn 7 h fun h=> ?_
  refine zr 1 i8.enc h fun y6 h=> ?_
  refine zw 0 (a:=(List.set (List.map i8.enc y1) (0+y3.toNat) (i8.enc v))) (b:=(List.map i8.enc (List.set y1 (0+y3.toNat) v))) (bt1 _ _ _ _) ?_
  refine zm 7 (b:=(Nat.ble (0+(List.map i8.enc y1).length) ((List.map i8.enc (List.set y1 (0+y3.toNat) v)).length))) (by simp) ?_
  obtain rfl:=Option.some.inj h
  exact au1 [] (d1:= .sl false 3 (List.take ((List.map i8.enc y1).length) (List.drop 0 (List.map i8.enc (List.set y1 (0+y3.toNat) v))))) (d:= .sl false 3 (List.map i8.enc (List.set y1 (0+y3.toNat) v))) (s1:= []) (s:= []) (by kernel_rfl) ⟨by simp [d8.enc,d8.l,i7.enc,i7.l,p5.enc,p5.l,r6.enc,r6.l,e9.enc,e9.l,Op.enc,Op.l,Plan.enc,Plan.l,r9.enc,r9.l,i8.enc,i8.l,p7.enc,p7.l,m8.enc,m8.l,d9.enc,d9.l,List.take_of_length_le,List.map_take,List.map_drop],rfl⟩ ⟨rfl,rfl⟩ Cx.fin_of
 refine zn 9 h fun h=> ?_
 refine za 0 i8.enc y1 ([v]) ?_
 refine zm 3 (v6 ((List.map i8.enc (y1++ [v])).length)) ?_
 obtain rfl:=Option.some.inj h
 exact au1 [] (d1:= .sl false 3 (List.take ((List.map i8.enc (y1++ [v])).length) (List.drop 0 (List.map i8.enc (y1++ [v]))))) (d:= .sl false 3 (List.map i8.enc (y1++ [v]))) (s1:= []) (s:= []) (by kernel_rfl) ⟨by simp [d8.enc,d8.l,i7.enc,i7.l,p5.enc,p5.l,r6.enc,r6.l,e9.enc,e9.l,Op.enc,Op.l,Plan.enc,Plan.l,r9.enc,r9.l,i8.enc,i8.l,p7.enc,p7.l,m8.enc,m8.l,d9.enc,d9.l,List.take_of_length_le,List.map_take,List.map_drop],rfl⟩ ⟨rfl,rfl⟩ Cx.fin_of
end Go.RX.L

namespace Go.RX.L
open Go Go.RX Go.Proofs
attribute [local irreducible] f6
noncomputable def cS8 (y:Bool):D×f4:=(.bool y,[])
noncomputable def aw4 (n:Int):Option Bool:=(bif (decide ((n:Int)≥0)) then (some (decide ((n:Int)≤1099511627776))) else (some false))
theorem bh7 {n:Int}{r:Bool} (h:aw4 n=some r):i0 E 114 [.int .i64 n] [] (Rs cS8 r):=so (fn:=Tryz.f114) (k:=false) (m:=0) h<| by
 intro r h;unfold aw4 at h
 refine zs 10 h (fun h=> ?_) fun h=> ?_
 ·
  exact zu 7 h
 exact zu 7 h
end Go.RX.L

namespace Go.RX.L
open Go Go.RX Go.Proofs
attribute [local irreducible] f6
noncomputable def B9:=p8 (q0 Tryz.f80)
noncomputable def bN2 (y:Int):D×f4:=(.int .u64 y,[])
inductive N1 where
 | s0
 | s1 (t27:Bool)
 | s2 (t29 t30:Int) (count:List Int)
 | s3 (t29 t30:Int) (t72:Bool) (count:List Int) (v:i8)
 | s4 (up:Int) (t89:List Int) (t90:Int)
 | s5 (t29 t30 t73:Int) (count:List Int) (v:i8)
noncomputable def bO2 (l_:List i8) (observers now fresh:Int):N1→M
 | .s0=>A5 Tryz.f80 [.sl false 3 (List.map i8.enc l_),.int .i64 observers,.int .i64 now,.int .i64 fresh] []
 | .s1 t27=>⟨[.code (B9 [1,1,0,1]),.code (B9 [1,1,1])],[(0,.sl false 3 (List.map i8.enc l_)),(1,.int .i64 observers),(2,.int .i64 now),(3,.int .i64 fresh),(9,.ptr 0 0 0),(27,.bool t27)],[some ⟨1,false,[[.int .i64 0],[.int .i64 0],[.int .i64 0],[.int .i64 0],[.int .i64 0],[.int .i64 0],[.int .i64 0],[.int .i64 0],[.int .i64 0],[.int .i64 0],[.int .i64 0],[.int .i64 0],[.int .i64 0],[.int .i64 0],[.int .i64 0],[.int .i64 0],[.int .i64 0],[.int .i64 0],[.int .i64 0],[.int .i64 0],[.int .i64 0],[.int .i64 0],[.int .i64 0],[.int .i64 0],[.int .i64 0],[.int .i64 0],[.int .i64 0],[.int .i64 0],[.int .i64 0],[.int .i64 0],[.int .i64 0],[.int .i64 0],[.int .i64 0],[.int .i64 0],[.int .i64 0],[.int .i64 0],[.int .i64 0],[.int .i64 0],[.int .i64 0],[.int .i64 0],[.int .i64 0],[.int .i64 0],[.int .i64 0],[.int .i64 0],[.int .i64 0],[.int .i64 0],[.int .i64 0],[.int .i64 0],[.int .i64 0],[.int .i64 0],[.int .i64 0],[.int .i64 0],[.int .i64 0],[.int .i64 0],[.int .i64 0],[.int .i64 0],[.int .i64 0],[.int .i64 0],[.int .i64 0],[.int .i64 0],[.int .i64 0],[.int .i64 0],[.int .i64 0],[.int .i64 0]]⟩]⟩
 | .s2 t29 t30 count=>⟨[.lpc (B9 [1,1,1,0,1,0,0]) 1879048719,.blk 0,.code (B9 [1,1,1,1])],[(0,.sl false 3 (List.map i8.enc l_)),(1,.int .i64 observers),(2,.int .i64 now),(3,.int .i64 fresh),(9,.ptr 0 0 0),(28,.sl false 3 (List.map i8.enc l_)),(29,.int .i64 t29),(30,.int .i64 t30)],[some ⟨1,false,(List.map (d7 .i64) count)⟩]⟩
 | .s3 t29 t30 t72 count v=>⟨[.code (B9 [1,1,1,0,1,0,0,1,1,0,0,1,0,1]),.code (B9 [1,1,1,0,1,0,0,1,1,0,0,1,1]),.blk 1,.code (B9 [1,1,1,0,1,0,0,1,1,1]),.lp (B9 [1,1,1,0,1,0,0]) 1879048719,.blk 0,.code (B9 [1,1,1,1])],[(0,.sl false 3 (List.map i8.enc l_)),(1,.int .i64 observers),(2,.int .i64 now),(3,.int .i64 fresh),(9,.ptr 0 0 0),(11,.ptr 1 0 0),(28,.sl false 3 (List.map i8.enc l_)),(29,.int .i64 t29),(30,.int .i64 t30),(72,.bool t72)],[some ⟨1,false,(List.map (d7 .i64) count)⟩,some ⟨3,false,[(i8.enc v)]⟩]⟩
 | .s4 up t89 t90=>⟨[.lpc (B9 [1,1,1,1,1,0,1,0,0]) 1856910058928070412348694530,.blk 4,.code (B9 [1,1,1,1,1,1])],[(1,.int .i64 observers),(13,.int .u64 up),(89,.arr (List.flatten (List.map (d7 .i64) t89))),(90,.int .i64 t90)],[]⟩
 | .s5 t29 t30 t73 count v=>⟨[.lpc (B9 [1,1,1,0,1,0,0,1,1,0,0,1,1,1,0,0]) 9444732965741169478159,.blk 2,.blk 1,.code (B9 [1,1,1,0,1,0,0,1,1,1]),.lp (B9 [1,1,1,0,1,0,0]) 1879048719,.blk 0,.code (B9 [1,1,1,1])],[(0,.sl false 3 (List.map i8.enc l_)),(1,.int .i64 observers),(2,.int .i64 now),(3,.int .i64 fresh),(9,.ptr 0 0 0),(11,.ptr 1 0 0),(28,.sl false 3 (List.map i8.enc l_)),(29,.int .i64 t29),(30,.int .i64 t30),(73,.int .i64 t73)],[some ⟨1,false,(List.map (d7 .i64) count)⟩,some ⟨3,false,[(i8.enc v)]⟩]⟩
abbrev al4 (l_:List i8) (observers now fresh:Int):=SOk E (Cx.of Tryz.f80 false 0) bN2 (bO2 l_ observers now fresh)
noncomputable def ad1 (l_:List i8) (observers now fresh:Int):Option (N1⊕Int):=((aw4 now).bind fun y1=>(bif (!y1) then (some (.inl (.s1 true))) else ((aw4 fresh).bind fun y3=>(bif (!y3) then (some (.inl (.s1 true))) else (some (.inl (.s1 (decide ((observers:Int)<1)))))))))
noncomputable def aN4 (l_:List i8) (observers now fresh:Int) (t27:Bool):Option (N1⊕Int):=(bif t27 then (some (.inr 0)) else (some (.inl (.s2 (((List.map i8.enc l_).length:Nat):Int) 0 ([0,0,0,0,0,0,0,0,0,0,0,0,0,0,0,0,0,0,0,0,0,0,0,0,0,0,0,0,0,0,0,0,0,0,0,0,0,0,0,0,0,0,0,0,0,0,0,0,0,0,0,0,0,0,0,0,0,0,0,0,0,0,0,0])))))
noncomputable def ax6 (l_:List i8) (observers now:Int) (fresh t29 t30:Int) (count:List Int):Option (N1⊕Int):=(bif (decide ((t30:Int)<t29)) then (bif ((decide ((0:Int)≤t30))&&(decide ((t30:Int)<(((List.map i8.enc l_).length:Nat):Int)))) then (((l_)[t30.toNat]?).bind fun y3=>(bif (decide ((y3.Observer:Int)<0)) then (some (.inl (.s3 t29 t30 true count y3))) else (bif (decide ((y3.Observer:Int)≥observers)) then (some (.inl (.s3 t29 t30 true count y3))) else ((aw4 y3.At).bind fun y7=>(bif (!y7) then (some (.inl (.s3 t29 t30 true count y3))) else (bif (decide ((y3.At:Int)>now)) then (some (.inl (.s3 t29 t30 true count y3))) else (bif (decide ((y3.At:Int)<(IntKind.i64.wrap (now-fresh)))) then (some (.inl (.s3 t29 t30 true count y3))) else ((aZ1 y3.Observer).bind fun y11=>((Z0 l_ y3.Observer).bind fun y12=>(some (.inl (.s3 t29 t30 (decide ((y12:Int)<t30)) count y3)))))))))))) else none) else (bif (Nat.ble (0+64) ((List.map (d7 .i64) count).length)) then (some (.inl (.s4 0 (List.take 64 (List.drop 0 count)) 0))) else none))
noncomputable def ax4 (l_:List i8) (observers now:Int) (fresh t29 t30:Int) (t72:Bool) (count:List Int) (v:i8):Option (N1⊕Int):=(bif t72 then (some (.inl (.s2 t29 (IntKind.i64.wrap (t30+1)) count))) else (some (.inl (.s5 t29 t30 0 count v))))
noncomputable def aM8 (l_:List i8) (observers now:Int) (fresh up:Int) (t89:List Int) (t90:Int):Option (N1⊕Int):=(bif (decide ((t90:Int)<64)) then (bif ((decide ((0:Int)≤t90))&&(decide ((t90:Int)<((64:Nat):Int)))) then (((t89)[t90.toNat]?).bind fun y3=>(bif (decide ((y3:Int)>(IntKind.i64.wrap (observers-y3)))) then (bif (!decide ((t90:Int)<0)) then (some (.inl (.s4 (orI .u64 up (F0 .u64 1 t90)) t89 (IntKind.i64.wrap (t90+1))))) else none) else (some (.inl (.s4 up t89 (IntKind.i64.wrap (t90+1))))))) else none) else (some (.inr up)))
noncomputable def ax2 (l_:List i8) (observers now:Int) (fresh t29:Int) (t30 t73:Int) (count:List Int) (v:i8):Option (N1⊕Int):=(bif (decide ((t73:Int)<64)) then (bif ((decide ((0:Int)≤t73))&&(decide ((t73:Int)<((64:Nat):Int)))) then (((count)[(0+t73.toNat)]?).bind fun y3=>(bif (!decide ((t73:Int)<0)) then (bif ((decide ((0:Int)≤t73))&&(decide ((t73:Int)<((64:Nat):Int)))) then (((count)[(0+t73.toNat)]?).bind fun y7=>(some (.inl (.s5 t29 t30 (IntKind.i64.wrap (t73+1)) (List.set count (0+t73.toNat) (IntKind.i64.wrap (y3+(IntKind.i64.wrap ((l6 .u64 (n4 .u64 v.Up t73) 1)))))) v)))) else none) else none)) else none) else (some (.inl (.s2 t29 (IntKind.i64.wrap (t30+1)) count))))
noncomputable def r8 (l_:List i8) (observers now fresh:Int):N1→Option (N1⊕Int)
 | .s0=>ad1 l_ observers now fresh
 | .s1 t27=>aN4 l_ observers now fresh t27
 | .s2 t29 t30 count=>ax6 l_ observers now fresh t29 t30 count
 | .s3 t29 t30 t72 count v=>ax4 l_ observers now fresh t29 t30 t72 count v
 | .s4 up t89 t90=>aM8 l_ observers now fresh up t89 t90
 | .s5 t29 t30 t73 count v=>ax2 l_ observers now fresh t29 t30 t73 count v
theorem ci9 {l_ observers now fresh}:al4 l_ observers now fresh .s0 (ad1 l_ observers now fresh):=by
 intro r x h ha;unfold ad1 at h
 refine zc 13 [] h (fun _=>bh7) fun y1 h=> ?_
 refine zs 3 h (fun h=> ?_) fun h=> ?_
 ·
  exact zk 14 h ha
 refine zc 2 [] h (fun _=>bh7) fun y3 h=> ?_
 refine zs 6 h (fun h=> ?_) fun h=> ?_
 ·
  exact zk 5 h ha
 exact zk 5 h ha
theorem cj7 {l_ observers now fresh t27}:al4 l_ observers now fresh (.s1 t27) (aN4 l_ observers now fresh t27):=by
 intro r x h ha;unfold aN4 at h
 refine zs 1 h (fun h=> ?_) fun h=> ?_
 ·
  exact zt 5 h ha
 exact zj 11 h ha
theorem ci2 {l_ observers now fresh t29 t30 count}:al4 l_ observers now fresh (.s2 t29 t30 count) (ax6 l_ observers now fresh t29 t30 count):=by
 intro r x h ha;unfold ax6 at h
 refine zs 7 h (fun h=> ?_) fun h=> ?_
 ·
  refine zn 7 h fun h=> ?_
  refine zr 1 i8.enc h fun y3 h=> ?_
  refine zs 15 h (fun h=> ?_) fun h=> ?_
  ·
   exact zk 63 h ha
  refine zs 11 h (fun h=> ?_) fun h=> ?_
  ·
   exact zk 52 h ha
  refine zc 5 [] h (fun _=>bh7) fun y7 h=> ?_
  refine zs 6 h (fun h=> ?_) fun h=> ?_
  ·
   exact zk 41 h ha
  refine zs 11 h (fun h=> ?_) fun h=> ?_
  ·
   exact zk 30 h ha
  refine zs 15 h (fun h=> ?_) fun h=> ?_
  ·
   exact zk 15 h ha
  refine zc 7 [] h (fun _=>cg8) fun y11 h=> ?_
  refine zc 2 [] h (fun _=>aB4) fun y12 h=> ?_
  exact zk 7 h ha
 refine zn 9 h fun h=> ?_
 refine zw 0 (a:=(List.take 64 (List.drop 0 (List.map (d7 .i64) count)))) (b:=(List.map (d7 .i64) (List.take 64 (List.drop 0 count)))) (dH0 _ _ _ _) ?_
 refine ec3 89 (cs:=List.flatten (List.map (d7 .i64) (List.take 64 (List.drop 0 count)))) (by kernel_rfl) (dZ8 dR1 _) ?_
 exact zj 5 h ha
theorem cl6 {l_ observers now fresh t29 t30 t72 count v}:al4 l_ observers now fresh (.s3 t29 t30 t72 count v) (ax4 l_ observers now fresh t29 t30 t72 count v):=by
 intro r x h ha;unfold ax4 at h
 refine zs 1 h (fun h=> ?_) fun h=> ?_
 ·
  exact zj 6 h ha
 exact zj 8 h ha
theorem cm8 {l_ observers now fresh up t89 t90}:al4 l_ observers now fresh (.s4 up t89 t90) (aM8 l_ observers now fresh up t89 t90):=by
 intro r x h ha;unfold aM8 at h
 refine zs 7 h (fun h=> ?_) fun h=> ?_
 ·
  refine zn 7 h fun h=> ?_
  refine dk1 (Option.map (fun d=> [d]) (List.flatten (List.map (d7 .i64) t89))[t90.toNat*1]?) (d7 .i64) h (by kernel_rfl) (dE7 _ _ (fun _=>rfl) _ _) (fun y3 h4 h=> ?_)
  refine zs 12 h (fun h=> ?_) fun h=> ?_
  ·
   refine zn 4 h fun h=> ?_
   exact zj 9 h ha
  exact zj 7 h ha
 exact zt 7 h ha
theorem cm7 {l_ observers now fresh t29 t30 t73 count v}:al4 l_ observers now fresh (.s5 t29 t30 t73 count v) (ax2 l_ observers now fresh t29 t30 t73 count v):=by
 intro r x h ha;unfold ax2 at h
 refine zs 7 h (fun h=> ?_) fun h=> ?_
 ·
  refine zn 9 h fun h=> ?_
  refine zr 0 (d7 .i64) h fun y3 h=> ?_
  refine zn 1 h fun h=> ?_
  refine zn 0 h fun h=> ?_
  refine zr 0 (d7 .i64) h fun y7 h=> ?_
  refine zw 0 (a:=(List.set (List.map (d7 .i64) count) (0+t73.toNat) ((d7 .i64) (IntKind.i64.wrap (y3+(IntKind.i64.wrap ((l6 .u64 (n4 .u64 v.Up t73) 1)))))))) (b:=(List.map (d7 .i64) (List.set count (0+t73.toNat) (IntKind.i64.wrap (y3+(IntKind.i64.wrap ((l6 .u64 (n4 .u64 v.Up t73) 1)))))))) (bt1 _ _ _ _) ?_
  exact zj 6 h ha
 exact zj 7 h ha
noncomputable def bb4 (l_:List i8) (observers now fresh:Int):Option Int:=V6 (r8 l_ observers now fresh) (.s0)
theorem cz5 {l_:List i8}{observers now:Int}{fresh r:Int} (h:bb4 l_ observers now fresh=some r):i0 E 80 [.sl false 3 (List.map i8.enc l_),.int .i64 observers,.int .i64 now,.int .i64 fresh] [] (Rs bN2 r):=sc (fn:=Tryz.f80) (k:=false) (m:=0) (stM:=(bO2 l_ observers now fresh)) h fun s=>by
 cases s with
 | s0=>exact ci9
 | s1=>exact cj7
 | s2=>exact ci2
 | s3=>exact cl6
 | s4=>exact cm8
 | s5=>exact cm7
end Go.RX.L

namespace Go.RX.L
open Go Go.RX
def aH2 (n:Int):Bool:=decide (n≥0)&&decide (n≤1099511627776)
theorem bF4 (n:Int):aw4 n=some (aH2 n):=by
 unfold aw4 aH2
 cases decide (n≥0)<;>rfl
def bi4:List i8→Int→Int→Int
 | [],_,_=> -1
 | v::r,n,i=>if v.Observer=n then i else bi4 r n (i+1)
def bh2 (u:Int) (b:Nat):Int:=if u.toNat.testBit b then 1 else 0
theorem dj9 (u:Int) (b:Nat):0≤bh2 u b∧bh2 u b≤1:=by unfold bh2;split<;>omega
def V9 (p:Nat→Bool):Nat→Nat
 | 0=>0
 | b+1=>if p b then V9 p b ||| 2^b else V9 p b
theorem bp6 (p:Nat→Bool):∀n,V9 p n<2^n
 | 0=>by simp [V9]
 | n+1=>by
  have ih:=bp6 p n
  have h2:2^n<2^(n+1):=Nat.pow_lt_pow_right (by decide) (by omega)
  simp only [V9]
  split
  ·exact Nat.or_lt_two_pow (by omega) h2
  ·omega
def bD9 (l:List i8) (o n f:Int) (i:Nat) (v:i8):Bool:=
 !(decide (v.Observer<0))&&(!(decide (v.Observer≥o))&&(aH2 v.At&&(!(decide (v.At>n))&&(!(decide (v.At<n-f))&& !(decide (bi4 l v.Observer 0<i))))))
def X1 (l:List i8) (o n f:Int) (b:Nat):Nat→Int
 | 0=>0
 | i+1=>X1 l o n f b i+(match l[i]? with | some v=>if bD9 l o n f i v then bh2 v.Up b else 0 | none=>0)
theorem cA6 (l:List i8) (o n f:Int) (b:Nat):∀i,0≤X1 l o n f b i∧X1 l o n f b i≤i
 | 0=>by simp [X1]
 | i+1=>by
  have ih:=cA6 l o n f b i
  simp only [X1]
  split
  ·rename_i v _
   have:=dj9 v.Up b
   split<;>omega
  ·omega
def bs3 (l:List i8) (o n f:Int):Nat:=
 if aH2 n&&(aH2 f&& !(decide (o<1))) then V9 (fun b=>decide (X1 l o n f b l.length>o-X1 l o n f b l.length)) 64 else 0
theorem dA2 (l:List i8) (o n f:Int):bs3 l o n f<18446744073709551616:=by
 unfold bs3
 split
 ·exact bp6 _ 64
 ·decide
structure VOk (v:i8):Prop where
 who: -9223372036854775808≤v.Observer∧v.Observer≤9223372036854775807
 up:0≤v.Up∧v.Up≤18446744073709551615
 at_: -9223372036854775808≤v.At∧v.At≤9223372036854775807
theorem wSV {k:Nat} (h:k≤3000000):IntKind.i64.wrap ((k:Int)+1)=((k+1:Nat):Int):=by rw [u7 (by omega) (by omega)];norm_cast
theorem dC3 (l:List i8) (n:Int) (hl:l.length≤300000):∀(j k:Nat),k+j=l.length→Ev E8 (.s1 l n (l.length:Nat) (k:Nat)) (bi4 (l.drop k) n k):=by
 intro j
 induction j with
 | zero=>
  intro k hk
  rw [List.drop_eq_nil_of_le (by omega)]
  refine .done ?_
  simp only [E8,H5,geB (show l.length≤k by omega),cond_false,bi4]
 | succ j ih=>
  intro k hk
  have hkl:k<l.length:=by omega
  rw [List.drop_eq_getElem_cons hkl,bi4]
  by_cases h:l[k].Observer=n
  ·rw [if_pos h]
   refine .done ?_
   simp only [E8,H5,List.length_map,E7 hkl,L8,Bool.and_self,cond_true,Int.toNat_natCast,List.getE hkl,Option.bind_some,aR6,beq_iff_eq.2 h]
  ·rw [if_neg h]
   refine .next (s' := .s1 l n l.length ((k+1:Nat):Int)) ?_ (by have:=ih (k+1) (by omega);simpa using this)
   simp only [E8,H5,List.length_map,E7 hkl,L8,Bool.and_self,cond_true,Int.toNat_natCast,List.getE hkl,Option.bind_some,aR6,beq_eq_false_iff_ne.2 h,cond_false,wSV (show k≤3000000 by omega)]
theorem ixf (l:List i8) (n:Int) (hl:l.length≤300000):Z0 l n=some (bi4 l n 0):=
 u6 (.next (s' := .s1 l n l.length 0) (by simp [E8,U0]) (by have:=dC3 l n hl l.length 0 (by omega);simpa using this))
theorem dU7 (l:List i8) (n:Int):∀(i:Int),bi4 l n i= -1∨∃j:Nat,j<l.length∧bi4 l n i=i+j:=by
 induction l with
 | nil=>intro i;exact .inl rfl
 | cons v l ih=>
  intro i
  by_cases h:v.Observer=n
  ·exact .inr ⟨0,by simp,by rw [bi4,if_pos h];simp⟩
  ·rw [bi4,if_neg h]
   rcases ih (i+1) with h1 | ⟨j,h1,h2⟩
   ·exact .inl h1
   ·exact .inr ⟨j+1,by simp;omega,by rw [h2];push_cast;omega⟩
def bI4 (l:List i8) (v:i8):List i8:=if bi4 l v.Observer 0= -1 then l++ [v] else l.set (bi4 l v.Observer 0).toNat v
theorem dH3 (l:List i8) (v:i8):(bI4 l v).length≤l.length+1:=by
 unfold bI4;split<;>simp
theorem dH8 {l:List i8}{v x:i8} (h:x∈bI4 l v):x∈l∨x=v:=by
 unfold bI4 at h
 split at h
 ·rcases List.mem_append.1 h with h | h
  ·exact .inl h
  ·exact .inr (List.mem_singleton.1 h)
 ·exact List.mem_or_eq_of_mem_set h
theorem dM6 (l:List i8) (v:i8) (hl:l.length≤300000):bf2 l v=some (bI4 l v):=by
 have e0:decide ((0+l.length)*24≤i6)=true:=C7 (by omega)
 have e1:decide ((l.length+1)*24≤i6)=true:=C7 (by omega)
 have e2:aZ1 v.Observer=some ():=rfl
 simp only [bf2,aB5,List.length_map,e0,cond_true,Option.bind_some,e2,ixf l v.Observer hl,e1,bI4]
 rcases dU7 l v.Observer 0 with h | ⟨j,h1,h2⟩
 ·rw [h]
  rfl
 ·rw [h2]
  have a:decide ((0:Int)+(j:Int)≥0)=true:=by simp
  have b:(decide ((0:Int)≤0+(j:Int))&&decide ((0:Int)+(j:Int)<((l.length:Nat):Int)))=true:=by simp;omega
  have c:¬((0:Int)+(j:Int)= -1):=by omega
  have d:((0:Int)+(j:Int)).toNat=j:=by omega
  have b2:decide ((0:Int)+(j:Int)<((l.length:Nat):Int))=true:=by simp;omega
  simp only [a,cond_true,b2,Bool.and_self,d,Nat.zero_add,List.getE h1,Option.bind_some,if_neg c]
/-! ### counts -/
def aa8 (g:Nat→Int):List Int:=(List.range 64).map g
theorem bK4 {g:Nat→Int}{b:Nat} (h:b<64):(aa8 g)[b]? =some (g b):=by simp [aa8,h]
theorem bu5 (g:Nat→Int):(aa8 g).length=64:=by simp [aa8]
theorem bG7 {g g' :Nat→Int} (h:∀b,b<64→g b=g' b):aa8 g=aa8 g' :=List.map_congr_left fun b hb=>h b (List.mem_range.1 hb)
theorem dC8 {g:Nat→Int}{b:Nat} (h:b<64) (c:Int):(aa8 g).set b c=aa8 fun j=>if j=b then c else g j:=by
 refine List.ext_getElem? fun j=> ?_
 by_cases hj:j<64
 ·rw [bK4 hj]
  by_cases hjb:b=j
  ·subst hjb
   rw [List.getElem?_set_self (by rw [bu5];exact h)];simp
  ·rw [List.getElem?_set_ne hjb,bK4 hj,if_neg fun e=>hjb e.symm]
 ·rw [List.getElem?_eq_none (by rw [List.length_set,bu5];omega),List.getElem?_eq_none (by rw [bu5];omega)]
section
variable {l : List i8} {o n f : Int}
theorem dv3 {r:Int}{v:i8} (hv:VOk v) {i:Nat} (hi:i≤300000):∀(j b:Nat) (g:Nat→Int),b+j=64→(∀x,0≤g x∧g x≤300001∧(b≤x→g x≤300000))→
  Ev (r8 l o n f) (.s2 (l.length:Nat) ((i+1:Nat):Int) (aa8 fun x=>if b≤x then g x+bh2 v.Up x else g x)) r→Ev (r8 l o n f) (.s5 (l.length:Nat) (i:Nat) (b:Nat) (aa8 g) v) r:=by
 intro j
 induction j with
 | zero=>
  intro b g hb hg hk
  refine .next (s' := .s2 (l.length:Nat) ((i+1:Nat):Int) (aa8 g)) ?_ ?_
  ·have:decide ((b:Int)<64)=false:=by simp;omega
   simp only [r8,ax2,this,cond_false,wSV (show i≤3000000 by omega)]
  ·rw [bG7 (g' :=g) fun x hx=>if_neg (by omega)] at hk
   exact hk
 | succ j ih=>
  intro b g hb hg hk
  have hlt:b<64:=by omega
  have h1:decide ((b:Int)<64)=true:=by simp;omega
  have h2:decide ((b:Int)<((64:Nat):Int))=true:=by simp;omega
  have h3:(!decide ((b:Int)<0))=true:=nn0 b
  have g1:=hg b
  have hbit:IntKind.i64.wrap (l6 .u64 (n4 .u64 v.Up (b:Int)) 1)=bh2 v.Up b:=by
   obtain ⟨m,hm⟩:=Int.eq_ofNat_of_zero_le hv.up.1
   have:=hv.up.2
   rw [hm,ea0 (by omega) (by omega)]
   unfold bh2
   rw [Int.toNat_natCast]
   split<;>rfl
  have b01:=dj9 v.Up b
  have hw:IntKind.i64.wrap (g b+bh2 v.Up b)=g b+bh2 v.Up b:=u7 (by omega) (by omega)
  refine .next (s' := .s5 (l.length:Nat) (i:Nat) ((b+1:Nat):Int) (aa8 fun x=>if x=b then g b+bh2 v.Up b else g x) v) ?_ (ih (b+1) _ (by omega) ?_ ?_)
  ·simp only [r8,ax2,h1,cond_true,L8,h2,Bool.and_self,Int.toNat_natCast,Nat.zero_add,bK4 hlt,Option.bind_some,h3,hbit,hw,dC8 hlt,wSV (show b≤3000000 by omega)]
  ·intro x
   have g2:=hg x
   by_cases h:x=b
   ·simp only [if_pos h];omega
   ·simp only [if_neg h];omega
  ·rw [bG7 (g' :=fun x=>if b≤x then g x+bh2 v.Up x else g x)]
   ·exact hk
   ·intro x hx
    by_cases h:x=b
    ·subst h;rw [if_neg (by omega),if_pos rfl,if_pos (Nat.le_refl _)]
    ·by_cases h4:b≤x
     ·simp only [if_neg h,if_pos h4,if_pos (show b+1≤x by omega)]
     ·simp only [if_neg h,if_neg h4,if_neg (show ¬b+1≤x by omega)]
theorem dw5 {r:Int} (hl:l.length≤300000) (hv:∀v∈l,VOk v) (tn:aH2 n=true) (tf:aH2 f=true):∀(j i:Nat),i+j=l.length→
  Ev (r8 l o n f) (.s2 (l.length:Nat) (l.length:Nat) (aa8 fun b=>X1 l o n f b l.length)) r→Ev (r8 l o n f) (.s2 (l.length:Nat) (i:Nat) (aa8 fun b=>X1 l o n f b i)) r:=by
 intro j
 induction j with
 | zero=>
  intro i hi hk
  obtain rfl:i=l.length:=by omega
  exact hk
 | succ j ih=>
  intro i hi hk
  have hlt:i<l.length:=by omega
  have hvi:=hv _ (List.getElem_mem hlt)
  have hnf:IntKind.i64.wrap (n-f)=n-f:=by
   simp only [aH2,Bool.and_eq_true,decide_eq_true_eq] at tn tf
   exact u7 (by omega) (by omega)
  have s3:Ev (r8 l o n f) (.s3 (l.length:Nat) (i:Nat) (!(bD9 l o n f i l[i])) (aa8 fun b=>X1 l o n f b i) l[i]) r:=by
   have nx:=ih (i+1) (by omega) hk
   have hc:∀b,X1 l o n f b (i+1)=X1 l o n f b i+if bD9 l o n f i l[i] then bh2 l[i].Up b else 0:=fun b=>by
    simp only [X1,List.getE hlt]
   cases hb:bD9 l o n f i l[i] with
   | false=>
    refine .next (s' := .s2 (l.length:Nat) ((i+1:Nat):Int) (aa8 fun b=>X1 l o n f b i)) ?_ ?_
    ·simp only [r8,ax4,Bool.not_false,cond_true,wSV (show i≤3000000 by omega)]
    ·rw [bG7 (g' :=fun b=>X1 l o n f b (i+1)) fun b _=>by rw [hc,hb];simp]
     exact nx
   | true=>
    refine .next (s' := .s5 (l.length:Nat) (i:Nat) ((0:Nat):Int) (aa8 fun b=>X1 l o n f b i) l[i]) ?_ (dv3 hvi (by omega) 64 0 _ rfl (fun x=> ?_) ?_)
    ·simp only [r8,ax4,Bool.not_true,cond_false];rfl
    ·have:=cA6 l o n f x i
     omega
    ·rw [bG7 (g' :=fun b=>X1 l o n f b (i+1)) fun b _=>by rw [hc,hb];simp]
     exact nx
  have hbr:∀{b:Bool}{A:Option (N1⊕Int)},(bif b then some (.inl (.s3 (l.length:Nat) (i:Nat) true (aa8 fun b=>X1 l o n f b i) l[i])) else A)=(if b=true then some (.inl (.s3 (l.length:Nat) (i:Nat) true (aa8 fun b=>X1 l o n f b i) l[i])) else A):=fun {b A}=>by cases b<;>rfl
  refine .next (s' := .s3 (l.length:Nat) (i:Nat) (!(bD9 l o n f i l[i])) (aa8 fun b=>X1 l o n f b i) l[i]) ?_ s3
  have e0:aZ1 l[i].Observer=some ():=rfl
  simp only [r8,ax6,E7 hlt,cond_true,List.length_map,L8,Bool.and_self,Int.toNat_natCast,List.getE hlt,Option.bind_some,bF4,hnf,e0,ixf l _ hl,bD9]
  cases decide (l[i].Observer<0) with
  | true=>rfl
  | false=>
   cases decide (l[i].Observer≥o) with
   | true=>rfl
   | false=>
    cases aH2 l[i].At with
    | false=>rfl
    | true=>
     cases decide (l[i].At>n) with
     | true=>rfl
     | false=>
      cases decide (l[i].At<n-f) with
      | true=>rfl
      | false=>simp
theorem dG1 (g:Nat→Int) (hg:∀b,0≤g b∧g b≤300000) (ho:1≤o∧o≤9223372036854775807):∀(j b:Nat),b+j=64→
  Ev (r8 l o n f) (.s4 (V9 (fun b=>decide (g b>o-g b)) b:Nat) (aa8 g) (b:Nat)) ((V9 (fun b=>decide (g b>o-g b)) 64:Nat):Int):=by
 intro j
 induction j with
 | zero=>
  intro b hb
  obtain rfl:b=64:=by omega
  exact .done rfl
 | succ j ih=>
  intro b hb
  have hlt:b<64:=by omega
  have h1:decide ((b:Int)<64)=true:=by simp;omega
  have h2:decide ((b:Int)<((64:Nat):Int))=true:=by simp;omega
  have g1:=hg b
  have hw:IntKind.i64.wrap (o-g b)=o-g b:=u7 (by omega) (by omega)
  refine .next (s' := .s4 (V9 (fun b=>decide (g b>o-g b)) (b+1):Nat) (aa8 g) ((b+1:Nat):Int)) ?_ (ih (b+1) (by omega))
  simp only [r8,aM8,h1,cond_true,L8,h2,Bool.and_self,Int.toNat_natCast,bK4 hlt,Option.bind_some,hw,nn0,wSV (show b≤3000000 by omega),V9]
  have hu:=bp6 (fun b=>decide (g b>o-g b)) b
  have hp:(2:Nat)^b≤2^63:=Nat.pow_le_pow_right (by decide) (by omega)
  by_cases h:g b>o-g b
  ·simp only [decide_eq_true h,cond_true,if_true]
   rw [bf3 hlt,bY8 (by omega) (by omega)]
  ·simp only [decide_eq_false h,cond_false,if_false,Bool.false_eq_true]
theorem dV1 (hl:l.length≤300000) (hv:∀v∈l,VOk v) (ho:o≤9223372036854775807):bb4 l o n f=some ((bs3 l o n f:Nat):Int):=by
 have out:∀{s},Ev (r8 l o n f) s 0→r8 l o n f .s0=some (.inl s)→¬((aH2 n&&(aH2 f&& !(decide (o<1))))=true)→bb4 l o n f=some ((bs3 l o n f:Nat):Int):=fun {s} h1 h2 h3=>by
  unfold bs3
  rw [if_neg h3]
  exact u6 (.next h2 h1)
 have t1:Ev (r8 l o n f) (.s1 true) 0:= .done rfl
 cases tn:aH2 n with
 | false=>exact out t1 (by simp only [r8,ad1,bF4,tn,Option.bind_some,Bool.not_false,cond_true]) (by rw [tn];simp)
 | true=>
  cases tf:aH2 f with
  | false=>exact out t1 (by simp only [r8,ad1,bF4,tn,tf,Option.bind_some,Bool.not_false,Bool.not_true,cond_false,cond_true]) (by rw [tn,tf];simp)
  | true=>
   by_cases h1:o<1
   ·exact out t1 (by simp only [r8,ad1,bF4,tn,tf,Option.bind_some,Bool.not_true,cond_false,decide_eq_true h1]) (by rw [tn,tf,decide_eq_true h1];simp)
   ·unfold bs3
    rw [if_pos (by rw [tn,tf,decide_eq_false h1];rfl)]
    refine u6 (.next (s' := .s1 false) (by simp only [r8,ad1,bF4,tn,tf,Option.bind_some,Bool.not_true,cond_false,decide_eq_false h1]) (.next (s' := .s2 (l.length:Nat) ((0:Nat):Int) (aa8 fun b=>X1 l o n f b 0)) ?_ (dw5 hl hv tn tf l.length 0 (by omega) (.next (s' := .s4 ((V9 (fun b=>decide (X1 l o n f b l.length>o-X1 l o n f b l.length)) 0:Nat):Int) (aa8 fun b=>X1 l o n f b l.length) ((0:Nat):Int)) ?_ (dG1 (fun b=>X1 l o n f b l.length) (fun b=> ?_) ⟨by omega,ho⟩ 64 0 rfl)))))
    ·simp only [r8,aN4,cond_false,List.length_map]
     rfl
    ·simp only [r8,ax6,geB (Nat.le_refl _),cond_false,List.length_map,bu5]
     have:List.take 64 (List.drop 0 (aa8 fun b=>X1 l o n f b l.length))=aa8 fun b=>X1 l o n f b l.length:=by
      rw [List.drop_zero,List.take_of_length_le (by rw [bu5];decide)]
     rw [this]
     rfl
    ·have:=cA6 l o n f b l.length
     omega
end
end Go.RX.L

namespace Go.RX.L
open Go Go.RX Go.Proofs
attribute [local irreducible] f6
noncomputable def aJ9:=p8 (q0 Tryz.f139)
noncomputable def bk5 (y:Int):D×f4:=(.int .i64 y,[])
abbrev aJ3:=AOk E (Cx.of Tryz.f139 false 0) bk5
noncomputable def bW5 (x_2 n:Int):M:=⟨[.code (aJ9 [1,1,1,1])],[(0,.int .u64 x_2),(2,.int .i64 n)],[]⟩
noncomputable def U6 (x_2 n:Int):Option Int:=(bif ((decide ((0:Int)≤(IntKind.u8.wrap (x_2))))&&(decide (((IntKind.u8.wrap (x_2)):Int)<((256:Nat):Int)))) then (((bg4)[(IntKind.u8.wrap (x_2)).toNat]?).bind fun y2=>(some (IntKind.i64.wrap (n+(IntKind.i64.wrap (((UInt8.toNat y2:Nat):Int))))))) else none)
theorem aV6 {x_2 n}:aJ3 (bW5 x_2 n) (U6 x_2 n):=by
 intro r h;unfold U6 at h
 refine zn 6 h fun h=> ?_
 refine dk1 (Option.map s8 (bg4)[(IntKind.u8.wrap (x_2)).toNat]?) s8 h (by kernel_rfl) rfl (fun y2 h3 h=> ?_)
 exact zu 5 h
noncomputable def bX3 (x_2 n:Int):M:=⟨[.code (aJ9 [1,1,1])],[(0,.int .u64 x_2),(2,.int .i64 n)],[]⟩
noncomputable def ae5 (x_2 n:Int):Option Int:=(bif (decide ((x_2:Int)≥256)) then (U6 (n4 .u64 x_2 8) (IntKind.i64.wrap (n+8))) else (U6 x_2 n))
theorem aT7 {x_2 n}:aJ3 (bX3 x_2 n) (ae5 x_2 n):=by
 intro r h;unfold ae5 at h
 refine zs 7 h (fun h=> ?_) fun h=> ?_
 ·
  exact zg 12 (aV6 h)
 exact zg 1 (aV6 h)
noncomputable def bW4 (x_2 n:Int):M:=⟨[.code (aJ9 [1,1])],[(0,.int .u64 x_2),(2,.int .i64 n)],[]⟩
noncomputable def af0 (x_2 n:Int):Option Int:=(bif (decide ((x_2:Int)≥65536)) then (ae5 (n4 .u64 x_2 16) (IntKind.i64.wrap (n+16))) else (ae5 x_2 n))
theorem aT4 {x_2 n}:aJ3 (bW4 x_2 n) (af0 x_2 n):=by
 intro r h;unfold af0 at h
 refine zs 7 h (fun h=> ?_) fun h=> ?_
 ·
  exact zg 12 (aT7 h)
 exact zg 1 (aT7 h)
noncomputable def an7 (x_:Int):Option Int:=(bif (decide ((x_:Int)≥4294967296)) then (af0 (n4 .u64 x_ 32) 32) else (af0 x_ 0))
theorem bS2 {x_ r:Int} (h:an7 x_=some r):i0 E 139 [.int .u64 x_] [] (Rs bk5 r):=so (fn:=Tryz.f139) (k:=false) (m:=0) h<| by
 intro r h;unfold an7 at h
 refine zs 11 h (fun h=> ?_) fun h=> ?_
 ·
  exact zg 10 (aT4 h)
 exact zg 1 (aT4 h)
end Go.RX.L

namespace Go.RX.L
open Go Go.RX Go.Proofs
attribute [local irreducible] f6
noncomputable def be7 (y:Int):D×f4:=(.int .i64 y,[])
noncomputable def L3 (x_:Int):Option Int:=(bif ((x_:Int)==0) then (some 64) else (bif ((decide ((0:Int)≤(n4 .u64 (IntKind.u64.wrap ((l6 .u64 x_ (IntKind.u64.wrap ((0:Int)-x_)))*285870213051353865)) 58)))&&(decide (((n4 .u64 (IntKind.u64.wrap ((l6 .u64 x_ (IntKind.u64.wrap ((0:Int)-x_)))*285870213051353865)) 58):Int)<((64:Nat):Int)))) then (((gl_deBruijn64tab)[(0+(n4 .u64 (IntKind.u64.wrap ((l6 .u64 x_ (IntKind.u64.wrap ((0:Int)-x_)))*285870213051353865)) 58).toNat)]?).bind fun y3=>(some (IntKind.i64.wrap (y3)))) else none))
theorem aX8 {x_ r:Int} (h:L3 x_=some r):i0 E 158 [.int .u64 x_] [] (Rs be7 r):=so (fn:=Tryz.f158) (k:=false) (m:=0) h<| by
 intro r h;unfold L3 at h
 refine zs 11 h (fun h=> ?_) fun h=> ?_
 ·
  exact zu 5 h
 refine zn 11 h fun h=> ?_
 refine zr 1 (d7 .u8) h fun y3 h=> ?_
 exact zu 4 h
end Go.RX.L

namespace Go.RX.L
open Go Go.RX Go.Proofs
attribute [local irreducible] f6
noncomputable def bS4:=p8 (q0 Tryz.f157)
def H1 (y:Int):List D:= [D.int .i64 y]
inductive J2 where
 | s0 (b0:Int)
 | s1 (b02:Int)
noncomputable def M5 (l:Nat):J2→M
 | .s0 b0=>⟨[.code (q0 Tryz.f157)],[(0,D.yld l),(1,D.ptr 0 0 0)],[some ⟨1,false,[[D.int .u64 b0]]⟩]⟩
 | .s1 b02=>⟨[.lpc (bS4 [0,0]) 3,.blk 0],[(0,D.yld l),(1,D.ptr 0 0 0)],[some ⟨1,false,[[D.int .u64 b02]]⟩]⟩
noncomputable def aF9 (b0:Int):Option (List Int×Option J2):=(some ([],some (.s1 b0)))
noncomputable def am5 (b02:Int):Option (List Int×Option J2):=(bif ((b02:Int) !=0) then ((L3 b02).bind fun y2=>(Option.map (fun p=>(y2::p.1,p.2)) (some ([],some (.s1 (l6 .u64 b02 (IntKind.u64.wrap (b02-1)))))))) else (some ([],none)))
noncomputable def W8:J2→f4
 | .s0 b0=> []
 | .s1 b02=> []
noncomputable def S8:J2→Option (List Int×Option J2)
 | .s0 b0=>aF9 b0
 | .s1 b02=>am5 b02
theorem bB6 {l:Nat}{ln:f4}{φ0:q9}{J:Option (List (List D))→World→(Nat→Prop)→(Nat→Prop)→Prop}{b0:Int}{x:List Int×Option J2}{Y:List (List D)} (hl:W8 (.s0 b0)=ln) (h:aF9 b0=some x) (ha:Z8 E ln (Cx.seq Tryz.f157 1 ln l φ0 J) H1 (M5 l) W8 x Y):f6 E (Cx.seq Tryz.f157 1 ln l φ0 J (some Y)) (fun _ s=>P3 ln s) (.go (M5 l (.s0 b0))):=by
 subst hl
 unfold aF9 at h
 refine l8 hm 3 _ ?_
 obtain rfl:=Option.some.inj h
 exact aU5 (q' := .go (M5 l (.s1 b0))) (by kernel_rfl) (K7 (by kernel_rfl) ha)
theorem bD6 {l:Nat}{ln:f4}{φ0:q9}{J:Option (List (List D))→World→(Nat→Prop)→(Nat→Prop)→Prop}{b02:Int}{x:List Int×Option J2}{Y:List (List D)} (hl:W8 (.s1 b02)=ln) (h:am5 b02=some x) (ha:Z8 E ln (Cx.seq Tryz.f157 1 ln l φ0 J) H1 (M5 l) W8 x Y):f6 E (Cx.seq Tryz.f157 1 ln l φ0 J (some Y)) (fun _ s=>P3 ln s) (.go (M5 l (.s1 b02))):=by
 subst hl
 unfold am5 at h
 refine zs 9 h (fun h=> ?_) fun h=> ?_
 ·
  refine zc 9 [] h (fun _=>aX8) fun y2 h=> ?_
  refine l8 hm 1 _ ?_
  refine bG1 (x:=y2) (s:= [some ⟨1,false,[[D.int .u64 b02]]⟩]) h ha (by kernel_rfl) (by kernel_rfl) ?_ (fun p Y h ha=> ?_)
  ·--it is stopped
   refine l8 hm 5 _ ?_
   exact bs1 (d:=D.tup []) (s:= [some ⟨1,false,[[D.int .u64 b02]]⟩]) (by kernel_rfl) (by kernel_rfl)
  ·--it goes on
   refine l8 hm 18 _ ?_
   obtain rfl:=Option.some.inj h
   exact aU5 (q' := .go (M5 l (.s1 (l6 .u64 b02 (IntKind.u64.wrap (b02-1)))))) (by kernel_rfl) (K7 (by kernel_rfl) ha)
 refine l8 hm 2 _ ?_
 obtain rfl:=Option.some.inj h
 exact bA1 (d:=D.tup []) (s:= [some ⟨1,false,[[D.int .u64 b02]]⟩]) (by kernel_rfl) (by kernel_rfl) ha
noncomputable def av6 (b0:Int):Option (List Int):=evl S8 (.s0 b0)
theorem bP3 {b0:Int}{r:List Int} (h:av6 b0=some r):ah7 E 157 [D.ptr 0 0 0] [some ⟨1,false,[[D.int .u64 b0]]⟩] [] (List.map H1 r):=
 bB7 (m:=fun l=>M5 l (.s0 b0)) (fn:=Tryz.f157) (by kernel_rfl) (fun l=>by kernel_rfl) (show List.take _ _=_ by kernel_rfl) (show B7 _ _=_ by kernel_rfl) (fun l φ0 J=>bp0 (step:=S8) (lnS:=W8) (fun s x Y hl hs ha=>by
  cases s with
  | s0=>exact bB6 hl hs ha
  | s1=>exact bD6 hl hs ha) (by kernel_rfl) (bD7 h))
end Go.RX.L

namespace Go.RX.L
open Go Go.RX Go.Proofs
attribute [local irreducible] f6
noncomputable def df9 (y:Bool):D×f4:=(.bool y,[])
noncomputable def ag8 (mask_ i:Int):Option Bool:=(bif (decide ((i:Int)≥0)) then (bif (!decide ((i:Int)<0)) then (some (((l6 .u64 mask_ (F0 .u64 1 i)):Int) !=0)) else none) else (some false))
theorem bs7 {mask_ i:Int}{r:Bool} (h:ag8 mask_ i=some r):i0 E 112 [.int .u64 mask_,.int .i64 i] [] (Rs df9 r):=so (fn:=Tryz.f112) (k:=false) (m:=0) h<| by
 intro r h;unfold ag8 at h
 refine zs 10 h (fun h=> ?_) fun h=> ?_
 ·
  refine zn 4 h fun h=> ?_
  exact zu 9 h
 exact zu 13 h
end Go.RX.L

namespace Go.RX.L
open Go Go.RX
/-! ### how long -/
def bU0 (x:Nat):Nat:=match bg4[x]? with | some y=>y.toNat | none=>0
noncomputable def dr3:Bool:=decide (bg4.length=256)&&bg4.zipIdx.all fun p=>(List.range 9).all fun t=>Nat.ble p.1.toNat t==Nat.blt p.2 (2^t)
theorem dz0:dr3=true:=by kernel_rfl
theorem di7 {x:Nat} (h:x<256):(∃y,bg4[x]? =some y∧y.toNat=bU0 x)∧∀t,t≤8→(bU0 x≤t↔x<2^t):=by
 have h0:=dz0
 simp only [dr3,Bool.and_eq_true,decide_eq_true_eq] at h0
 obtain ⟨h1,h2⟩:=h0
 have hx:x<bg4.length:=by omega
 have he:bg4[x]? =some bg4[x]:=List.getE hx
 have hl:bU0 x=(bg4[x]).toNat:=by simp only [bU0,he]
 refine ⟨⟨_,he,hl.symm⟩,fun t ht=> ?_⟩
 have h3:=List.all_eq_true.1 h2 (bg4[x],x) (by rw [List.mem_zipIdx_iff_getElem?];exact he)
 have h4:=List.all_eq_true.1 h3 t (List.mem_range.2 (by omega))
 simp only [beq_iff_eq] at h4
 rw [hl]
 constructor
 ·intro h5
  have:Nat.blt x (2^t)=true:=by rw [←h4];exact Nat.ble_eq_true_of_le h5
  exact Nat.le_of_ble_eq_true this
 ·intro h5
  have:Nat.ble (bg4[x]).toNat t=true:=by rw [h4];exact Nat.ble_eq_true_of_le h5
  exact Nat.le_of_ble_eq_true this
theorem dI2 {x:Nat} (h:x<65536):∃n:Nat,an7 x=some (n:Int)∧∀t,t≤16→(n≤t↔x<2^t):=by
 have a1:decide ((x:Int)≥4294967296)=false:=by simp;omega
 have a2:decide ((x:Int)≥65536)=false:=by simp;omega
 unfold an7
 simp only [a1,cond_false,af0,a2,ae5]
 by_cases h2:x<256
 ·have a3:decide ((x:Int)≥256)=false:=by simp;omega
  obtain ⟨⟨y,y1,y2⟩,hl⟩:=di7 h2
  have hw:IntKind.u8.wrap (x:Int)=x:=wU8 (by omega) (by omega)
  have hy:y.toNat<256:=y.toNat_lt
  have a4:(decide ((0:Int)≤x)&&decide ((x:Int)<((256:Nat):Int)))=true:=by simp;omega
  refine ⟨bU0 x,?_,fun t ht=> ?_⟩
  ·simp only [a3,cond_false,U6,hw,a4,cond_true,Int.toNat_natCast,y1,Option.bind_some,y2]
   rw [u7 (n:=((bU0 x:Nat):Int)) (by omega) (by omega),u7 (by omega) (by omega)];simp
  ·by_cases h8:t≤8
   ·exact hl t h8
   ·have:x<2^t:=Nat.lt_of_lt_of_le h2 (by have:(2:Nat)^8≤2^t:=Nat.pow_le_pow_right (by decide) (by omega);exact this)
    have:=(hl 8 (by omega)).2 h2
    omega
 ·have a3:decide ((x:Int)≥256)=true:=by simp;omega
  have e1:n4 .u64 (x:Int) 8=((x/2^8:Nat):Int):=bR9 (by decide)
  have hq:x/2^8<256:=by omega
  obtain ⟨⟨y,y1,y2⟩,hl⟩:=di7 hq
  have hw:IntKind.u8.wrap ((x/2^8:Nat):Int)=((x/2^8:Nat):Int):=wU8 (by omega) (by omega)
  have hy:y.toNat<256:=y.toNat_lt
  have a4:(decide ((0:Int)≤((x/2^8:Nat):Int))&&decide (((x/2^8:Nat):Int)<((256:Nat):Int)))=true:=by simp;omega
  refine ⟨bU0 (x/2^8)+8,?_,fun t ht=> ?_⟩
  ·simp only [a3,cond_true,U6,e1,hw,a4,Int.toNat_natCast,y1,Option.bind_some,y2]
   rw [u7 (n:=((bU0 (x/2^8):Nat):Int)) (by omega) (by omega),u7 (n:=(0:Int)+8) (by omega) (by omega),u7 (by omega) (by omega)]
   congr 1;push_cast;omega
  ·by_cases h8:t<8
   ·have p:(2:Nat)^t≤2^8:=Nat.pow_le_pow_right (by decide) (by omega)
    omega
   ·have:=hl (t-8) (by omega)
    have e:(2:Nat)^t=2^(t-8)*2^8:=by rw [←Nat.pow_add];congr 1;omega
    rw [e,←Nat.div_lt_iff_lt_mul (by decide)]
    omega
/-! ### the lowest -/
theorem dU8:∀(m:Nat),m≠0→∃k a,m=2^k*(2*a+1):=by
 intro m
 induction m using Nat.strongRecOn with
 | _ m ih=>
  intro h
  rcases Nat.mod_two_eq_zero_or_one m with h2 | h2
  ·obtain ⟨k,a,e⟩:=ih (m/2) (by omega) (by omega)
   refine ⟨k+1,a,?_⟩
   have:m=2*(m/2):=by omega
   rw [this,e,Nat.pow_succ,←Nat.mul_assoc,Nat.mul_comm 2]
  ·exact ⟨0,m/2,by omega⟩
theorem bp8 {k a j:Nat}:(2^k*(2*a+1)).testBit j=(if j<k then false else if j=k then true else a.testBit (j-k-1)):=by
 rw [Nat.testBit_two_pow_mul]
 by_cases h:j<k
 ·have:¬j≥k:=by omega
  rw [if_pos h,decide_eq_false this,Bool.false_and]
 ·rw [if_neg h,decide_eq_true (by omega:j≥k),Bool.true_and]
  by_cases h2:j=k
  ·subst h2;simp
  ·rw [if_neg h2,show j-k=(j-k-1)+1 by omega,Nat.testBit_succ]
   congr 1
   omega
theorem dH5 {k a:Nat}:(2^k*(2*a+1))&&&(2^k*(2*a+1)-1)=2^k*(2*a+1)-2^k:=by
 have e1:2^k*(2*a+1)-1=2^k*(2*a)+(2^k-1):=by
  have:0<2^k:=Nat.pow_pos (by decide)
  rw [Nat.mul_add];omega
 have e2:2^k*(2*a+1)-2^k=2^k*(2*a):=by rw [Nat.mul_add];omega
 rw [e1,e2]
 refine Nat.eq_of_testBit_eq fun j=> ?_
 have hp:2^k-1<2^k:=Nat.sub_lt (Nat.pow_pos (by decide)) (by decide)
 rw [Nat.testBit_and,bp8,Nat.testBit_two_pow_mul_add _ hp,Nat.testBit_two_pow_mul]
 by_cases h:j<k
 ·have:¬j≥k:=by omega
  rw [if_pos h,decide_eq_false this];rfl
 ·rw [if_neg h,if_neg h,decide_eq_true (by omega:j≥k),Bool.true_and]
  by_cases h2:j=k
  ·subst h2;simp
  ·rw [if_neg h2,show j-k=(j-k-1)+1 by omega,Nat.testBit_succ]
   have:2*a/2=a:=by omega
   rw [this,Nat.add_sub_cancel,Bool.and_self]
theorem dQ9 {k a n:Nat} (hk:k+n+1=64) (ha:a<2^n):(2^k*(2*a+1))&&&(18446744073709551616-2^k*(2*a+1))=2^k:=by
 have e1:18446744073709551616-2^k*(2*a+1)=2^k*(2*(2^n-(a+1))+1):=by
  have p:(18446744073709551616:Nat)=2^k*(2*2^n):=by
   rw [show (2:Nat)*2^n=2^(n+1) by rw [Nat.pow_succ,Nat.mul_comm],←Nat.pow_add,show k+(n+1)=64 by omega]
  rw [p,←Nat.mul_sub]
  congr 1
  omega
 rw [e1]
 refine Nat.eq_of_testBit_eq fun j=> ?_
 rw [Nat.testBit_and,bp8,bp8,Nat.testBit_two_pow]
 by_cases h:j<k
 ·rw [if_pos h]
  simp;omega
 ·rw [if_neg h,if_neg h]
  by_cases h2:j=k
  ·subst h2;simp
  ·rw [if_neg h2,if_neg h2,Nat.testBit_two_pow_sub_succ ha]
   have:¬k=j:=fun e=>h2 e.symm
   rw [decide_eq_false this]
   cases a.testBit (j-k-1)<;>simp
noncomputable def eb6:Bool:=(List.range 64).all fun k=>match (gl_deBruijn64tab)[(2^k*285870213051353865%18446744073709551616)/2^58]? with | some y=>decide (y=(k:Int)) | none=>false
theorem dI0:eb6=true:=by kernel_rfl
theorem ed9 {m:Nat} (h0:0<m) (h:m<18446744073709551616):IntKind.u64.wrap ((0:Int)-m)=((18446744073709551616-m:Nat):Int):=by
 simp only [IntKind.wrap,IntKind.signed,IntKind.bits]
 simp
 omega
theorem ee8 (n:Nat):IntKind.u64.wrap (n:Int)=((n%18446744073709551616:Nat):Int):=by
 simp only [IntKind.wrap,IntKind.signed,IntKind.bits]
 simp
theorem ec2 {k a n:Nat} (hk:k+n+1=64) (ha:a<2^n):2^k*(2*a+1)<18446744073709551616:=by
 have p:2^k*(2*2^n)=2^64:=by
  rw [show (2:Nat)*2^n=2^(n+1) by rw [Nat.pow_succ,Nat.mul_comm],←Nat.pow_add,show k+(n+1)=64 by omega]
 have:2^k*(2*a+1)<2^k*(2*2^n):=Nat.mul_lt_mul_of_pos_left (by omega) (Nat.pow_pos (by decide))
 omega
theorem dU0 {k:Nat} (hk:k<64):∃x:Nat,x<18446744073709551616∧x=2^k*285870213051353865%18446744073709551616∧(gl_deBruijn64tab)[x/2^58]? =some (k:Int):=by
 have ht:=List.all_eq_true.1 dI0 k (List.mem_range.2 hk)
 refine ⟨_,Nat.mod_lt _ (by omega),rfl,?_⟩
 revert ht
 generalize 2^k*285870213051353865%18446744073709551616=x
 intro ht
 cases hy:(gl_deBruijn64tab)[x/2^58]? with
 | none=>simp only [hy] at ht;cases ht
 | some y=>
  simp only [hy] at ht
  rw [of_decide_eq_true ht]
theorem ec6 {k a n:Nat} (hk:k+n+1=64) (ha:a<2^n):L3 ((2^k*(2*a+1):Nat):Int)=some (k:Int):=by
 have hlt:=ec2 hk ha
 have hpos:0<2^k*(2*a+1):=Nat.mul_pos (Nat.pow_pos (by decide)) (by omega)
 have hand:=dQ9 hk ha
 revert hlt hpos hand
 generalize 2^k*(2*a+1)=m
 intro hlt hpos hand
 have e0:((m:Int)==0)=false:=beq_eq_false_iff_ne.2 (by omega)
 have e2:l6 .u64 (m:Int) ((18446744073709551616-m:Nat):Int)=((2^k:Nat):Int):=by
  rw [bs6 hlt (by omega),hand]
 have hk64:k<64:=by omega
 obtain ⟨x,hx,hxe,ht⟩:=dU0 hk64
 have e3:IntKind.u64.wrap (((2^k:Nat):Int)*285870213051353865)=(x:Int):=by
  have hc:((2^k:Nat):Int)*285870213051353865=((2^k*285870213051353865:Nat):Int):=(Int.natCast_mul _ _).symm
  rw [hc,ee8,←hxe]
 have e4:n4 .u64 (x:Int) 58=((x/2^58:Nat):Int):=bR9 (by decide)
 have hq:x/2^58<64:=by omega
 revert e4 ht hq
 generalize x/2^58=z
 intro ht e4 hq
 have a4:(decide ((0:Int)≤(z:Int))&&decide ((z:Int)<((64:Nat):Int)))=true:=by simp;omega
 unfold L3
 simp only [e0,cond_false,ed9 hpos hlt,e2,e3,e4,a4,cond_true,Int.toNat_natCast,Nat.zero_add,ht,Option.bind_some]
 rw [u7 (by omega) (by omega)]
/-! ### members -/
def aN2 (m:Nat):List Int:=((List.range 16).filter fun i=>m.testBit i).map fun (i:Nat)=>(i:Int)
theorem dk0 {k a:Nat} (hk:k<16):(List.range 16).filter (fun i=>(2^k*(2*a+1)).testBit i)=k::(List.range 16).filter (fun i=>(2^k*(2*a+1)-2^k).testBit i):=by
 have e2:2^k*(2*a+1)-2^k=2^k*(2*a):=by rw [Nat.mul_add];omega
 rw [e2]
 have sp:List.range 16=List.range k++k::(List.range' (k+1) (15-k)):=by
  rw [List.range_eq_range',List.range_eq_range']
  have h1:=List.range'_append_1 (s:=0) (m:=k) (n:=16-k)
  rw [show k+(16-k)=16 by omega] at h1
  rw [←h1,Nat.zero_add,show 16-k=(15-k)+1 by omega,List.range'_succ]
 have b1:∀i,(2^k*(2*a)).testBit i=(decide (k<i)&&a.testBit (i-k-1)):=fun i=>by
  rw [Nat.testBit_two_pow_mul]
  by_cases h:i≤k
  ·rw [decide_eq_false (by omega:¬k<i),Bool.false_and]
   by_cases h2:i=k
   ·subst h2;simp
   ·rw [decide_eq_false (by omega:¬i≥k),Bool.false_and]
  ·rw [decide_eq_true (by omega:i≥k),decide_eq_true (by omega:k<i),Bool.true_and,Bool.true_and,show i-k=(i-k-1)+1 by omega,Nat.testBit_succ]
   congr 1
   omega
 rw [sp,List.filter_append,List.filter_append]
 have z1:(List.range k).filter (fun i=>(2^k*(2*a+1)).testBit i)= []:=List.filter_eq_nil_iff.2 fun i hi=>by
  rw [bp8,if_pos (List.mem_range.1 hi)];simp
 have z2:(List.range k).filter (fun i=>(2^k*(2*a)).testBit i)= []:=List.filter_eq_nil_iff.2 fun i hi=>by
  rw [b1,decide_eq_false (by have:=List.mem_range.1 hi;omega)];simp
 rw [z1,z2,List.nil_append,List.nil_append,List.filter_cons,List.filter_cons]
 have c1:(2^k*(2*a+1)).testBit k=true:=by rw [bp8];simp
 have c2:(2^k*(2*a)).testBit k=false:=by rw [b1];simp
 rw [c1,c2]
 simp only [if_true,Bool.false_eq_true,if_false]
 congr 1
 refine List.filter_congr fun i hi=> ?_
 have:=(List.mem_range'_1.1 hi).1
 rw [bp8,b1,if_neg (by omega),if_neg (by omega),decide_eq_true (by omega:k<i),Bool.true_and]
theorem dn9 {m:Nat} (hm:m<65536):av6 (m:Int)=some (aN2 m):=by
 have key:∀(m:Nat),m<65536→EvL S8 (.s1 (m:Int)) (aN2 m):=by
  intro m
  induction m using Nat.strongRecOn with
  | _ m ih=>
   intro hm
   by_cases h0:m=0
   ·subst h0
    exact .done (l:= []) rfl
   ·obtain ⟨k,a,e⟩:=dU8 m h0
    have hk:k<16:=by
     rcases Nat.lt_or_ge k 16 with h | h
     ·exact h
     ·have h1:(2:Nat)^16≤2^k:=Nat.pow_le_pow_right (by decide) h
      have h2:2^k*1≤2^k*(2*a+1):=Nat.mul_le_mul_left _ (by omega)
      omega
    have ha:a<2^(63-k):=by
     have h1:(2:Nat)^16≤2^(63-k):=Nat.pow_le_pow_right (by decide) (by omega)
     have h2:1*(2*a+1)≤2^k*(2*a+1):=Nat.mul_le_mul_right _ (Nat.pow_pos (by decide))
     omega
    have htz:=ec6 (k:=k) (a:=a) (n:=63-k) (by omega) ha
    have hf:=dk0 (a:=a) hk
    have hap:=dH5 (k:=k) (a:=a)
    have hp:0<2^k:=Nat.pow_pos (by decide)
    rw [←e] at htz hf hap
    have e0:((m:Int) !=0)=true:=by
     rw [bne_iff_ne];omega
    have e1:IntKind.u64.wrap ((m:Int)-1)=((m-1:Nat):Int):=by
     rw [cx8 (by omega) (by omega)];omega
    have e2:l6 .u64 (m:Int) ((m-1:Nat):Int)=((m-2^k:Nat):Int):=by
     rw [bs6 (by omega) (by omega),hap]
    have hb:aN2 m= [(k:Int)]++aN2 (m-2^k):=by
     unfold aN2
     rw [hf];rfl
    rw [hb]
    refine .next (s' := .s1 ((m-2^k:Nat):Int)) ?_ (ih (m-2^k) (by omega) (by omega))
    simp only [S8,am5,e0,cond_true,htz,Option.bind_some,e1,e2,Option.map_some]
 have:=EvL.next (step:=S8) (s:= .s0 (m:Int)) (s' := .s1 (m:Int)) (l:= []) rfl (key m hm)
 exact bz9 this
theorem cI0 {m:Nat}{x:Int}:x∈aN2 m↔∃i:Nat,i<16∧m.testBit i=true∧x=i:=by
 simp only [aN2,List.mem_map,List.mem_filter,List.mem_range]
 constructor
 ·rintro ⟨i,⟨h1,h2⟩,rfl⟩;exact ⟨i,h1,h2,rfl⟩
 ·rintro ⟨i,h1,h2,rfl⟩;exact ⟨i,⟨h1,h2⟩,rfl⟩
def bq8 (m:Nat) (i:Int):Bool:=decide (0≤i)&&m.testBit i.toNat
theorem cU9 {m:Nat}{i:Int} (hm:m<18446744073709551616) (hi:i<64):ag8 (m:Int) i=some (bq8 m i):=by
 unfold ag8 bq8
 by_cases h:i≥0
 ·obtain ⟨k,rfl⟩:=Int.eq_ofNat_of_zero_le h
  have hp:(2:Nat)^k<2^64:=Nat.pow_lt_pow_right (by decide) (by omega)
  rw [decide_eq_true h,nn0]
  simp only [cond_true,Bool.true_and,Int.toNat_natCast]
  rw [bf3 (by omega),bs6 hm (by omega)]
  congr 1
  cases hb:m.testBit k with
  | false=>
   rw [cq0.2 hb];rfl
  | true=>
   rw [bne_iff_ne]
   intro he
   have:m&&&2^k=0:=by exact_mod_cast he
   rw [cq0.1 this] at hb;cases hb
 ·rw [decide_eq_false h]
  rfl
end Go.RX.L

namespace Go.RX.L
open Go Go.RX Go.Proofs
attribute [local irreducible] f6
noncomputable def P0:=p8 (q0 Tryz.f145)
noncomputable def bi7 (y:Int×Bool):D×f4:=(.tup [.int .i64 y.1,.bool y.2],[])
inductive V0 where
 | s0
 | s1 (b t8 t9:Int)
 | s2 (b t8 t9:Int) (t22:Bool) (p_:p7)
noncomputable def bi8 (l_:List p7):V0→M
 | .s0=>A5 Tryz.f145 [.sl false 3 (List.map p7.enc l_)] []
 | .s1 b t8 t9=>⟨[.lpc (P0 [1,1,0,1,0,0]) 912,.blk 0,.code (P0 [1,1,1])],[(4,.int .i64 b),(7,.sl false 3 (List.map p7.enc l_)),(8,.int .i64 t8),(9,.int .i64 t9)],[]⟩
 | .s2 b t8 t9 t22 p_=>⟨[.code (P0 [1,1,0,1,0,0,1,1,0,0,1,0,1]),.code (P0 [1,1,0,1,0,0,1,1,0,0,1,1]),.blk 1,.code (P0 [1,1,0,1,0,0,1,1,1]),.lp (P0 [1,1,0,1,0,0]) 912,.blk 0,.code (P0 [1,1,1])],[(4,.int .i64 b),(6,.ptr 0 0 0),(7,.sl false 3 (List.map p7.enc l_)),(8,.int .i64 t8),(9,.int .i64 t9),(22,.bool t22)],[some ⟨3,false,[(p7.enc p_)]⟩]⟩
abbrev aJ8 (l_:List p7):=SOk E (Cx.of Tryz.f145 false 0) bi7 (bi8 l_)
noncomputable def aJ7 (l_:List p7):Option (V0⊕(Int×Bool)):=(some (.inl (.s1 0 (((List.map p7.enc l_).length:Nat):Int) 0)))
noncomputable def af5 (l_:List p7) (b t8 t9:Int):Option (V0⊕(Int×Bool)):=(bif (decide ((t9:Int)<t8)) then (bif ((decide ((0:Int)≤t9))&&(decide ((t9:Int)<(((List.map p7.enc l_).length:Nat):Int)))) then (((l_)[t9.toNat]?).bind fun y3=>(bif (decide ((y3.n:Int)<0)) then (some (.inl (.s2 b t8 t9 true y3))) else (some (.inl (.s2 b t8 t9 (decide ((y3.n:Int)>y3.most)) y3))))) else none) else (some (.inr (b,true))))
noncomputable def aq6 (l_:List p7) (b t8 t9:Int) (t22:Bool) (p_:p7):Option (V0⊕(Int×Bool)):=(bif t22 then (some (.inr (0,false))) else (bif (!decide ((p_.bits:Int)<0)) then (some (.inl (.s1 (orI .i64 (F0 .i64 b p_.bits) p_.n) t8 (IntKind.i64.wrap (t9+1))))) else none))
noncomputable def N7 (l_:List p7):V0→Option (V0⊕(Int×Bool))
 | .s0=>aJ7 l_
 | .s1 b t8 t9=>af5 l_ b t8 t9
 | .s2 b t8 t9 t22 p_=>aq6 l_ b t8 t9 t22 p_
theorem bJ5 {l_}:aJ8 l_ .s0 (aJ7 l_):=by
 intro r x h ha;unfold aJ7 at h
 exact zj 19 h ha
theorem bK5 {l_ b t8 t9}:aJ8 l_ (.s1 b t8 t9) (af5 l_ b t8 t9):=by
 intro r x h ha;unfold af5 at h
 refine zs 7 h (fun h=> ?_) fun h=> ?_
 ·
  refine zn 6 h fun h=> ?_
  refine zr 1 p7.enc h fun y3 h=> ?_
  refine zs 14 h (fun h=> ?_) fun h=> ?_
  ·
   exact zk 11 h ha
  exact zk 13 h ha
 exact zt 8 h ha
theorem bM2 {l_ b t8 t9 t22 p_}:aJ8 l_ (.s2 b t8 t9 t22 p_) (aq6 l_ b t8 t9 t22 p_):=by
 intro r x h ha;unfold aq6 at h
 refine zs 1 h (fun h=> ?_) fun h=> ?_
 ·
  exact zt 6 h ha
 refine zn 3 h fun h=> ?_
 exact zj 7 h ha
noncomputable def aR5 (l_:List p7):Option (Int×Bool):=V6 (N7 l_) (.s0)
theorem bX8 {l_:List p7}{r:Int×Bool} (h:aR5 l_=some r):i0 E 145 [.sl false 3 (List.map p7.enc l_)] [] (Rs bi7 r):=sc (fn:=Tryz.f145) (k:=false) (m:=0) (stM:=(bi8 l_)) h fun s=>by
 cases s with
 | s0=>exact bJ5
 | s1=>exact bK5
 | s2=>exact bM2
end Go.RX.L

namespace Go.RX.L
open Go Go.RX Go.Proofs
attribute [local irreducible] f6
noncomputable def cP1 (y:Int×Int):D×f4:=(.tup [.int .i64 y.1,.int .i64 y.2],[])
noncomputable def aL6 (round boot index:Int):Option (Int×Int):=((aR5 ([(⟨30,round,1073741823⟩:p7),(⟨20,boot,1048575⟩:p7),(⟨4,index,15⟩:p7)])).bind fun y1=>(bif (!y1.2) then (some (0,1)) else (some (y1.1,0))))
theorem cx6 {round boot index:Int}{r:Int×Int} (h:aL6 round boot index=some r):i0 E 115 [.int .i64 round,.int .i64 boot,.int .i64 index] [] (Rs cP1 r):=so (fn:=Tryz.f115) (k:=false) (m:=0) h<| by
 intro r h;unfold aL6 at h
 refine zc 16 [] h (fun _=>bX8) fun y1 h=> ?_
 refine zs 13 h (fun h=> ?_) fun h=> ?_
 ·
  exact zu 6 h
 exact zu 8 h
end Go.RX.L

namespace Go.RX.L
open Go Go.RX Go.Proofs
attribute [local irreducible] f6
noncomputable def cM7:=p8 (q0 Tryz.f81)
noncomputable def bN8 (y:Int×Int):D×f4:=(.tup [.int .i64 y.1,.int .i64 y.2],[])
abbrev cO4:=AOk E (Cx.of Tryz.f81 false 0) bN8
noncomputable def cE4 (n:Int):M:=⟨[.code (cM7 [1,1,1,1])],[(8,.int .i64 n)],[]⟩
noncomputable def al2 (n:Int):Option (Int×Int):=(bif (decide ((n:Int)≥18014398509481984)) then (some (0,2)) else (some (n,0)))
theorem bu1 {n}:cO4 (cE4 n) (al2 n):=by
 intro r h;unfold al2 at h
 refine zs 7 h (fun h=> ?_) fun h=> ?_
 ·
  exact zu 6 h
 exact zu 8 h
noncomputable def aM1 (b boot index:Int):Option (Int×Int):=((aL6 0 boot index).bind fun y1=>(bif ((y1.2:Int) !=0) then (some (0,y1.2)) else (bif (decide ((b:Int)<y1.1)) then (some (y1.1,0)) else (bif (decide ((b:Int)≥18014398509481984)) then (some (0,2)) else (bif (decide (((IntKind.i64.wrap (y1.1+(F0 .i64 (n4 .i64 b 24) 24))):Int)≤b)) then (al2 (IntKind.i64.wrap ((IntKind.i64.wrap (y1.1+(F0 .i64 (n4 .i64 b 24) 24)))+16777216))) else (al2 (IntKind.i64.wrap (y1.1+(F0 .i64 (n4 .i64 b 24) 24)))))))))
theorem cw8 {b boot index:Int}{r:Int×Int} (h:aM1 b boot index=some r):i0 E 81 [.int .i64 b,.int .i64 boot,.int .i64 index] [] (Rs bN8 r):=so (fn:=Tryz.f81) (k:=false) (m:=0) h<| by
 intro r h;unfold aM1 at h
 refine zc 10 [] h (fun _=>cx6) fun y1 h=> ?_
 refine zs 15 h (fun h=> ?_) fun h=> ?_
 ·
  exact zu 7 h
 refine zs 8 h (fun h=> ?_) fun h=> ?_
 ·
  exact zu 7 h
 refine zs 7 h (fun h=> ?_) fun h=> ?_
 ·
  exact zu 6 h
 refine zs 21 h (fun h=> ?_) fun h=> ?_
 ·
  exact zg 5 (bu1 h)
 exact zg 1 (bu1 h)
end Go.RX.L

namespace Go.RX.L
open Go Go.RX
theorem dJ0 {n:Nat} (h:n<9223372036854775808):(BitVec.ofInt IntKind.i64.bits (n:Int)).toNat=n:=by
 rw [BitVec.ofInt_natCast,BitVec.toNat_ofNat]
 exact Nat.mod_eq_of_lt (by show n<2^64;omega)
theorem dK7 {a b:Nat} (ha:a<9223372036854775808) (hb:b<9223372036854775808):orI .i64 a b=((a ||| b:Nat):Int):=by
 have:=Nat.or_lt_two_pow (n:=63) (x:=a) (y:=b) (by omega) (by omega)
 unfold orI
 rw [BitVec.toNat_or,dJ0 ha,dJ0 hb,u7 (by omega) (by omega)]
theorem dY7 {a b k:Nat} (h:b<2^k):(a*2^k ||| b)=a*2^k+b:=by
 have:=Nat.two_pow_add_eq_or_of_lt h a
 rw [Nat.mul_comm a];exact this.symm
theorem dJ8 {a k:Nat} (hk:k<64) (h:a*2^k<9223372036854775808):F0 .i64 a k=((a*2^k:Nat):Int):=by
 unfold F0
 rw [show min ((k:Int)).toNat IntKind.i64.bits=k by simp [IntKind.bits];omega]
 have:(a:Int)*2^k=((a*2^k:Nat):Int):=by push_cast;rfl
 rw [this,u7 (by omega) (by omega)]
theorem dk6 {a k:Nat} (hk:k≤64):n4 .i64 a k=((a/2^k:Nat):Int):=by
 unfold n4
 rw [show min ((k:Int)).toNat IntKind.i64.bits=k by simp [IntKind.bits];omega]
 rw [Int.fdiv_eq_ediv_of_nonneg _ (by exact Int.le_of_lt (Int.pow_pos (by decide)))]
 norm_cast
theorem dN0 {boot index:Int} (hb:0≤boot∧boot≤1048575) (hi:0≤index∧index≤15):aL6 0 boot index=some (boot*16+index,0):=by
 obtain ⟨b,rfl⟩:=Int.eq_ofNat_of_zero_le hb.1
 obtain ⟨i,rfl⟩:=Int.eq_ofNat_of_zero_le hi.1
 have hb2:b≤1048575:=by omega
 have hi2:i≤15:=by omega
 have t:aR5 [(⟨30,0,1073741823⟩:p7),(⟨20,(b:Int),1048575⟩:p7),(⟨4,(i:Int),15⟩:p7)]=some ((b:Int)*16+i,true):=by
  have s:∀(x:p7) (k:Nat) (a a' :Nat) (r:Int×Bool),k≤2→ [(⟨30,0,1073741823⟩:p7),(⟨20,(b:Int),1048575⟩:p7),(⟨4,(i:Int),15⟩:p7)][k]? =some x→0≤x.n∧x.n≤x.most→0≤x.bits→orI .i64 (F0 .i64 a x.bits) x.n=(a' :Nat)→
    Ev (N7 [(⟨30,0,1073741823⟩:p7),(⟨20,(b:Int),1048575⟩:p7),(⟨4,(i:Int),15⟩:p7)]) (.s1 (a' :Nat) 3 ((k+1:Nat):Int)) r→
    Ev (N7 [(⟨30,0,1073741823⟩:p7),(⟨20,(b:Int),1048575⟩:p7),(⟨4,(i:Int),15⟩:p7)]) (.s1 (a:Nat) 3 (k:Nat)) r:=fun x k a a' r hk hx hn hbits ho h=>by
   have h1:decide ((k:Int)<3)=true:=by simp;omega
   have h2:decide ((k:Int)<((3:Nat):Int))=true:=by simp;omega
   have h3:decide (x.n<0)=false:=by simp;omega
   have h4:decide (x.n>x.most)=false:=by simp;omega
   have h5:(!decide (x.bits<0))=true:=by simp;omega
   refine .next (s' := .s2 (a:Nat) 3 (k:Nat) false x) ?_ (.next (s' := .s1 (a' :Nat) 3 ((k+1:Nat):Int)) ?_ h)
   ·simp only [N7,af5,h1,cond_true,L8,List.length_map,List.length_cons,List.length_nil,h2,Bool.and_self,Int.toNat_natCast,hx,Option.bind_some,h3,cond_false,h4]
   ·simp only [N7,aq6,cond_false,h5,cond_true,ho]
    rw [u7 (by omega) (by omega)];norm_cast
  refine u6 (.next (s' := .s1 ((0:Nat):Int) 3 ((0:Nat):Int)) rfl (s _ 0 0 0 _ (by decide) rfl (by simp) (by simp) rfl (s _ 1 0 b _ (by decide) rfl ⟨by simp,by simp;omega⟩ (by simp) ?_ (s _ 2 b (b*16+i) _ (by decide) rfl ⟨by simp,by simp;omega⟩ (by simp) ?_ ?_))))
  ·have:=dK7 (a:=0) (b:=b) (by decide) (by omega)
   rw [show F0 .i64 ((0:Nat):Int) 20=((0:Nat):Int) from rfl,this,Nat.zero_or]
  ·have h1:=dJ8 (a:=b) (k:=4) (by decide) (by omega)
   have h2:=dK7 (a:=b*2^4) (b:=i) (by omega) (by omega)
   rw [dY7 (by omega)] at h2
   simp only at h1 h2 ⊢
   rw [show ((4:Int))=((4:Nat):Int) from rfl,h1,h2]
  ·refine .done ?_
   simp only [N7,af5]
   rfl
 unfold aL6
 rw [t]
 rfl
theorem dL4 {b boot index:Int} (h0:0≤b) (hb:0≤boot∧boot≤1048575) (hi:0≤index∧index≤15):
  ∃r,aM1 b boot index=some r∧(r.2=0→b<r.1∧r.1%16777216=boot*16+index∧r.1<18014398509481984):=by
 unfold aM1
 rw [dN0 hb hi]
 simp only [Option.bind_some,bne_self_eq_false,cond_false]
 by_cases h1:b<boot*16+index
 ·exact ⟨_,by rw [decide_eq_true h1];rfl,fun _=>⟨h1,by simp only;omega,by simp only;omega⟩⟩
 rw [decide_eq_false h1]
 simp only [cond_false]
 by_cases h2:b≥18014398509481984
 ·exact ⟨_,by rw [decide_eq_true h2];rfl,fun h=>by simp at h⟩
 rw [decide_eq_false h2]
 simp only [cond_false]
 obtain ⟨m,rfl⟩:=Int.eq_ofNat_of_zero_le h0
 have e1:n4 .i64 (m:Int) 24=((m/2^24:Nat):Int):=dk6 (by decide)
 have hd:m/2^24*2^24≤m:=Nat.div_mul_le_self _ _
 have hd9:m/2^24*2^24<9223372036854775808:=by omega
 have e2:F0 .i64 ((m/2^24:Nat):Int) 24=((m/2^24*2^24:Nat):Int):=dJ8 (by decide) hd9
 have hlt:m<m/2^24*2^24+2^24:=by omega
 rw [e1,e2]
 have hq:(m/2^24*2^24:Nat)=16777216*(m/16777216):=by omega
 rw [hq] at hd hlt ⊢
 rw [u7 (n:=boot*16+index+((16777216*(m/16777216):Nat):Int)) (by omega) (by omega)]
 have fin:∀x:Int,(m:Int)<x→x%16777216=boot*16+index→∃r,al2 x=some r∧(r.2=0→(m:Int)<r.1∧r.1%16777216=boot*16+index∧r.1<18014398509481984):=fun x h3 h4=>by
  unfold al2
  by_cases h5:x≥18014398509481984
  ·exact ⟨_,by rw [decide_eq_true h5];rfl,fun h=>by simp at h⟩
  ·exact ⟨_,by rw [decide_eq_false h5];rfl,fun _=>⟨h3,h4,by simp only;omega⟩⟩
 by_cases h3:boot*16+index+((16777216*(m/16777216):Nat):Int)≤m
 ·rw [decide_eq_true h3,u7 (by omega) (by omega)]
  simp only [cond_true]
  exact fin _ (by omega) (by omega)
 ·rw [decide_eq_false h3]
  simp only [cond_false]
  exact fin _ (by omega) (by omega)
end Go.RX.L

namespace Go.RX.L
open Go Go.RX Go.Proofs
attribute [local irreducible] f6
noncomputable def cD6 (y:Bool):D×f4:=(.bool y,[])
noncomputable def at0 (n t t2:Int):Option Bool:=(bif (decide ((n:Int)<t)) then (some true) else (some (decide ((n:Int)>t2))))
theorem cr7 {n t t2:Int}{r:Bool} (h:at0 n t t2=some r):i0 E 96 [.int .i64 n,.iptr 1 [[.int .i64 t]] 0 0,.iptr 1 [[.int .i64 t2]] 0 0] [] (Rs cD6 r):=so (fn:=Tryz.f96) (k:=false) (m:=0) h<| by
 intro r h;unfold at0 at h
 refine zs 12 h (fun h=> ?_) fun h=> ?_
 ·
  exact zu 9 h
 exact zu 10 h
end Go.RX.L

namespace Go.RX.L
open Go Go.RX Go.Proofs
attribute [local irreducible] f6
noncomputable def ah9:=p8 (q0 Tryz.f127)
noncomputable def aj2 (y:Int):D×f4:=(.int .i64 y,[])
inductive E0 where
 | s0 (s_:List Int) (f f2:Int)
 | s1 (s_:List Int) (f f2:Int) (t7 t8:Int)
noncomputable def aj1:E0→M
 | .s0 s_ f f2=>A5 Tryz.f127 [.sl false 1 (List.map (d7 .i64) s_),.fn 96 [] [.iptr 1 [[.int .i64 f]] 0 0,.iptr 1 [[.int .i64 f2]] 0 0]] []
 | .s1 s_ f f2 t7 t8=>⟨[.lpc (ah9 [1,0,1,0,0]) 387,.blk 0,.code (ah9 [1,1])],[(0,.sl false 1 (List.map (d7 .i64) s_)),(1,.fn 96 [] [.iptr 1 [[.int .i64 f]] 0 0,.iptr 1 [[.int .i64 f2]] 0 0]),(7,.int .i64 t7),(8,.int .i64 t8)],[]⟩
abbrev aj9:=SOk E (Cx.of Tryz.f127 false 0) aj2 aj1
noncomputable def J8 (s_:List Int) (f f2:Int):Option (E0⊕Int):=(some (.inl (.s1 s_ f f2 (((List.map (d7 .i64) s_).length:Nat):Int) 0)))
noncomputable def A3 (s_:List Int) (f f2:Int) (t7 t8:Int):Option (E0⊕Int):=(bif (decide ((t8:Int)<t7)) then (bif ((decide ((0:Int)≤t8))&&(decide ((t8:Int)<(((List.map (d7 .i64) s_).length:Nat):Int)))) then (((s_)[t8.toNat]?).bind fun y3=>((at0 y3 f f2).bind fun y5=>(bif y5 then (some (.inr t8)) else (some (.inl (.s1 s_ f f2 t7 (IntKind.i64.wrap (t8+1)))))))) else none) else (some (.inr (-1))))
noncomputable def z4:E0→Option (E0⊕Int)
 | .s0 s_ f f2=>J8 s_ f f2
 | .s1 s_ f f2 t7 t8=>A3 s_ f f2 t7 t8
theorem aJ0 {s_ f f2}:aj9 (.s0 s_ f f2) (J8 s_ f f2):=by
 intro r x h ha;unfold J8 at h
 exact zj 14 h ha
theorem aH8 {s_ f f2 t7 t8}:aj9 (.s1 s_ f f2 t7 t8) (A3 s_ f f2 t7 t8):=by
 intro r x h ha;unfold A3 at h
 refine zs 7 h (fun h=> ?_) fun h=> ?_
 ·
  refine zn 14 h fun h=> ?_
  refine zr 1 (d7 .i64) h fun y3 h=> ?_
  refine zc 1 [] h (fun _=>cr7) fun y5 h=> ?_
  refine zs 2 h (fun h=> ?_) fun h=> ?_
  ·
   exact zt 6 h ha
  exact zj 7 h ha
 exact zt 6 h ha
noncomputable def T9 (s_:List Int) (f f2:Int):Option Int:=V6 z4 (.s0 s_ f f2)
theorem aM6 {s_:List Int}{f f2 r:Int} (h:T9 s_ f f2=some r):i0 E 127 [.sl false 1 (List.map (d7 .i64) s_),.fn 96 [] [.iptr 1 [[.int .i64 f]] 0 0,.iptr 1 [[.int .i64 f2]] 0 0]] [] (Rs aj2 r):=sc (fn:=Tryz.f127) (k:=false) (m:=0) (stM:=aj1) h fun s=>by
 cases s with
 | s0=>exact aJ0
 | s1=>exact aH8
end Go.RX.L

namespace Go.RX.L
open Go Go.RX Go.Proofs
attribute [local irreducible] f6
noncomputable def aH5 (y:Bool):D×f4:=(.bool y,[])
noncomputable def I6 (s_:List Int) (f f2:Int):Option Bool:=((T9 s_ f f2).bind fun y1=>(some (decide ((y1:Int)≥0))))
theorem aD7 {s_:List Int}{f f2:Int}{r:Bool} (h:I6 s_ f f2=some r):i0 E 95 [.sl false 1 (List.map (d7 .i64) s_),.fn 96 [] [.iptr 1 [[.int .i64 f]] 0 0,.iptr 1 [[.int .i64 f2]] 0 0]] [] (Rs aH5 r):=so (fn:=Tryz.f95) (k:=false) (m:=0) h<| by
 intro r h;unfold I6 at h
 refine zc 9 [] h (fun _=>aM6) fun y1 h=> ?_
 exact zu 4 h
end Go.RX.L

namespace Go.RX.L
open Go Go.RX Go.Proofs
attribute [local irreducible] f6
noncomputable def da6 (y:Bool):D×f4:=(.bool y,[])
noncomputable def E6 (low high:Int) (l_:List Int):Option Bool:=((I6 l_ low high).bind fun y1=>(some (!y1)))
theorem F5 {low high:Int}{l_:List Int}{r:Bool} (h:E6 low high l_=some r):i0 E 56 [.int .i64 low,.int .i64 high,.sl false 1 (List.map (d7 .i64) l_)] [] (Rs da6 r):=so (fn:=Tryz.f56) (k:=false) (m:=0) h<| by
 intro r h;unfold E6 at h
 refine zc 11 [] h (fun _=>aD7) fun y1 h=> ?_
 exact zu 4 h
end Go.RX.L

namespace Go.RX.L
open Go Go.RX Go.Proofs
attribute [local irreducible] f6
noncomputable def cc5 (y:Bool):D×f4:=(.bool y,[])
noncomputable def ab9 (n t t2:Int):Option Bool:=(bif (decide ((n:Int)<t)) then (some true) else (some (decide ((n:Int)>t2))))
theorem bR3 {n t t2:Int}{r:Bool} (h:ab9 n t t2=some r):i0 E 98 [.int .i64 n,.iptr 1 [[.int .i64 t]] 0 0,.iptr 1 [[.int .i64 t2]] 0 0] [] (Rs cc5 r):=so (fn:=Tryz.f98) (k:=false) (m:=0) h<| by
 intro r h;unfold ab9 at h
 refine zs 12 h (fun h=> ?_) fun h=> ?_
 ·
  exact zu 9 h
 exact zu 10 h
end Go.RX.L

namespace Go.RX.L
open Go Go.RX Go.Proofs
attribute [local irreducible] f6
noncomputable def ab6:=p8 (q0 Tryz.f128)
noncomputable def ac0 (y:Int):D×f4:=(.int .i64 y,[])
inductive B6 where
 | s0 (s_:List Int) (f f2:Int)
 | s1 (s_:List Int) (f f2:Int) (t7 t8:Int)
noncomputable def ab4:B6→M
 | .s0 s_ f f2=>A5 Tryz.f128 [.sl false 1 (List.map (d7 .i64) s_),.fn 98 [] [.iptr 1 [[.int .i64 f]] 0 0,.iptr 1 [[.int .i64 f2]] 0 0]] []
 | .s1 s_ f f2 t7 t8=>⟨[.lpc (ab6 [1,0,1,0,0]) 387,.blk 0,.code (ab6 [1,1])],[(0,.sl false 1 (List.map (d7 .i64) s_)),(1,.fn 98 [] [.iptr 1 [[.int .i64 f]] 0 0,.iptr 1 [[.int .i64 f2]] 0 0]),(7,.int .i64 t7),(8,.int .i64 t8)],[]⟩
abbrev ab2:=SOk E (Cx.of Tryz.f128 false 0) ac0 ab4
noncomputable def G3 (s_:List Int) (f f2:Int):Option (B6⊕Int):=(some (.inl (.s1 s_ f f2 (((List.map (d7 .i64) s_).length:Nat):Int) 0)))
noncomputable def z5 (s_:List Int) (f f2:Int) (t7 t8:Int):Option (B6⊕Int):=(bif (decide ((t8:Int)<t7)) then (bif ((decide ((0:Int)≤t8))&&(decide ((t8:Int)<(((List.map (d7 .i64) s_).length:Nat):Int)))) then (((s_)[t8.toNat]?).bind fun y3=>((ab9 y3 f f2).bind fun y5=>(bif y5 then (some (.inr t8)) else (some (.inl (.s1 s_ f f2 t7 (IntKind.i64.wrap (t8+1)))))))) else none) else (some (.inr (-1))))
noncomputable def y0:B6→Option (B6⊕Int)
 | .s0 s_ f f2=>G3 s_ f f2
 | .s1 s_ f f2 t7 t8=>z5 s_ f f2 t7 t8
theorem aA7 {s_ f f2}:ab2 (.s0 s_ f f2) (G3 s_ f f2):=by
 intro r x h ha;unfold G3 at h
 exact zj 14 h ha
theorem aA4 {s_ f f2 t7 t8}:ab2 (.s1 s_ f f2 t7 t8) (z5 s_ f f2 t7 t8):=by
 intro r x h ha;unfold z5 at h
 refine zs 7 h (fun h=> ?_) fun h=> ?_
 ·
  refine zn 14 h fun h=> ?_
  refine zr 1 (d7 .i64) h fun y3 h=> ?_
  refine zc 1 [] h (fun _=>bR3) fun y5 h=> ?_
  refine zs 2 h (fun h=> ?_) fun h=> ?_
  ·
   exact zt 6 h ha
  exact zj 7 h ha
 exact zt 6 h ha
noncomputable def Q0 (s_:List Int) (f f2:Int):Option Int:=V6 y0 (.s0 s_ f f2)
theorem aC3 {s_:List Int}{f f2 r:Int} (h:Q0 s_ f f2=some r):i0 E 128 [.sl false 1 (List.map (d7 .i64) s_),.fn 98 [] [.iptr 1 [[.int .i64 f]] 0 0,.iptr 1 [[.int .i64 f2]] 0 0]] [] (Rs ac0 r):=sc (fn:=Tryz.f128) (k:=false) (m:=0) (stM:=ab4) h fun s=>by
 cases s with
 | s0=>exact aA7
 | s1=>exact aA4
end Go.RX.L

namespace Go.RX.L
open Go Go.RX Go.Proofs
attribute [local irreducible] f6
noncomputable def aA6 (y:Bool):D×f4:=(.bool y,[])
noncomputable def F6 (s_:List Int) (f f2:Int):Option Bool:=((Q0 s_ f f2).bind fun y1=>(some (decide ((y1:Int)≥0))))
theorem ax9 {s_:List Int}{f f2:Int}{r:Bool} (h:F6 s_ f f2=some r):i0 E 97 [.sl false 1 (List.map (d7 .i64) s_),.fn 98 [] [.iptr 1 [[.int .i64 f]] 0 0,.iptr 1 [[.int .i64 f2]] 0 0]] [] (Rs aA6 r):=so (fn:=Tryz.f97) (k:=false) (m:=0) h<| by
 intro r h;unfold F6 at h
 refine zc 9 [] h (fun _=>aC3) fun y1 h=> ?_
 exact zu 4 h
end Go.RX.L

namespace Go.RX.L
open Go Go.RX Go.Proofs
attribute [local irreducible] f6
noncomputable def cp6 (y:Bool):D×f4:=(.bool y,[])
noncomputable def ad0 (low high:Int) (l_:List Int):Option Bool:=((F6 l_ low high).bind fun y1=>(some (!y1)))
theorem br7 {low high:Int}{l_:List Int}{r:Bool} (h:ad0 low high l_=some r):i0 E 57 [.int .i64 low,.int .i64 high,.sl false 1 (List.map (d7 .i64) l_)] [] (Rs cp6 r):=so (fn:=Tryz.f57) (k:=false) (m:=0) h<| by
 intro r h;unfold ad0 at h
 refine zc 11 [] h (fun _=>ax9) fun y1 h=> ?_
 exact zu 4 h
end Go.RX.L

namespace Go.RX.L
open Go Go.RX Go.Proofs
attribute [local irreducible] f6
noncomputable def df0 (y:Bool):D×f4:=(.bool y,[])
noncomputable def bd9 (x_:Int):Option Bool:=(some ((x_:Int) !=x_))
theorem bP9 {x_:Int}{r:Bool} (h:bd9 x_=some r):i0 E 162 [.int .i64 x_] [] (Rs df0 r):=so (fn:=Tryz.f162) (k:=false) (m:=0) h<| by
 intro r h;unfold bd9 at h
 exact zu 12 h
end Go.RX.L

namespace Go.RX.L
open Go Go.RX Go.Proofs
attribute [local irreducible] f6
noncomputable def dl5 (y:Bool):D×f4:=(.bool y,[])
noncomputable def br5 (x_ y_:Int):Option Bool:=((bd9 x_).bind fun y1=>(bif y1 then ((bd9 y_).bind fun y3=>(bif (!y3) then (some true) else (some (decide ((x_:Int)<y_))))) else (some (decide ((x_:Int)<y_)))))
theorem dd3 {x_ y_:Int}{r:Bool} (h:br5 x_ y_=some r):i0 E 155 [.int .i64 x_,.int .i64 y_] [] (Rs dl5 r):=so (fn:=Tryz.f155) (k:=false) (m:=0) h<| by
 intro r h;unfold br5 at h
 refine zc 8 [] h (fun _=>bP9) fun y1 h=> ?_
 refine zs 2 h (fun h=> ?_) fun h=> ?_
 ·
  refine zc 2 [] h (fun _=>bP9) fun y3 h=> ?_
  refine zs 6 h (fun h=> ?_) fun h=> ?_
  ·
   exact zu 9 h
  exact zu 9 h
 exact zu 18 h
end Go.RX.L

namespace Go.RX.L
open Go Go.RX Go.Proofs
attribute [local irreducible] f6
noncomputable def db1 (y:Bool):D×f4:=(.bool y,[])
noncomputable def aI0 (n t t2:Int):Option Bool:=(bif (decide ((n:Int)<t)) then (some true) else (some (decide ((n:Int)>t2))))
theorem cK8 {n t t2:Int}{r:Bool} (h:aI0 n t t2=some r):i0 E 150 [.int .i64 n,.iptr 1 [[.int .i64 t]] 0 0,.iptr 1 [[.int .i64 t2]] 0 0] [] (Rs db1 r):=so (fn:=Tryz.f150) (k:=false) (m:=0) h<| by
 intro r h;unfold aI0 at h
 refine zs 12 h (fun h=> ?_) fun h=> ?_
 ·
  exact zu 9 h
 exact zu 10 h
end Go.RX.L

namespace Go.RX.L
open Go Go.RX Go.Proofs
attribute [local irreducible] f6
noncomputable def aB6:=p8 (q0 Tryz.f128)
noncomputable def aB1 (y:Int):D×f4:=(.int .i64 y,[])
inductive L6 where
 | s0 (s_:List Int) (f f2:Int)
 | s1 (s_:List Int) (f f2:Int) (t7 t8:Int)
noncomputable def aB3:L6→M
 | .s0 s_ f f2=>A5 Tryz.f128 [.sl false 1 (List.map (d7 .i64) s_),.fn 150 [] [.iptr 1 [[.int .i64 f]] 0 0,.iptr 1 [[.int .i64 f2]] 0 0]] []
 | .s1 s_ f f2 t7 t8=>⟨[.lpc (aB6 [1,0,1,0,0]) 387,.blk 0,.code (aB6 [1,1])],[(0,.sl false 1 (List.map (d7 .i64) s_)),(1,.fn 150 [] [.iptr 1 [[.int .i64 f]] 0 0,.iptr 1 [[.int .i64 f2]] 0 0]),(7,.int .i64 t7),(8,.int .i64 t8)],[]⟩
abbrev aA9:=SOk E (Cx.of Tryz.f128 false 0) aB1 aB3
noncomputable def T2 (s_:List Int) (f f2:Int):Option (L6⊕Int):=(some (.inl (.s1 s_ f f2 (((List.map (d7 .i64) s_).length:Nat):Int) 0)))
noncomputable def G5 (s_:List Int) (f f2:Int) (t7 t8:Int):Option (L6⊕Int):=(bif (decide ((t8:Int)<t7)) then (bif ((decide ((0:Int)≤t8))&&(decide ((t8:Int)<(((List.map (d7 .i64) s_).length:Nat):Int)))) then (((s_)[t8.toNat]?).bind fun y3=>((aI0 y3 f f2).bind fun y5=>(bif y5 then (some (.inr t8)) else (some (.inl (.s1 s_ f f2 t7 (IntKind.i64.wrap (t8+1)))))))) else none) else (some (.inr (-1))))
noncomputable def D5:L6→Option (L6⊕Int)
 | .s0 s_ f f2=>T2 s_ f f2
 | .s1 s_ f f2 t7 t8=>G5 s_ f f2 t7 t8
theorem ba4 {s_ f f2}:aA9 (.s0 s_ f f2) (T2 s_ f f2):=by
 intro r x h ha;unfold T2 at h
 exact zj 14 h ha
theorem aY0 {s_ f f2 t7 t8}:aA9 (.s1 s_ f f2 t7 t8) (G5 s_ f f2 t7 t8):=by
 intro r x h ha;unfold G5 at h
 refine zs 7 h (fun h=> ?_) fun h=> ?_
 ·
  refine zn 14 h fun h=> ?_
  refine zr 1 (d7 .i64) h fun y3 h=> ?_
  refine zc 1 [] h (fun _=>cK8) fun y5 h=> ?_
  refine zs 2 h (fun h=> ?_) fun h=> ?_
  ·
   exact zt 6 h ha
  exact zj 7 h ha
 exact zt 6 h ha
noncomputable def ak3 (s_:List Int) (f f2:Int):Option Int:=V6 D5 (.s0 s_ f f2)
theorem bi3 {s_:List Int}{f f2 r:Int} (h:ak3 s_ f f2=some r):i0 E 128 [.sl false 1 (List.map (d7 .i64) s_),.fn 150 [] [.iptr 1 [[.int .i64 f]] 0 0,.iptr 1 [[.int .i64 f2]] 0 0]] [] (Rs aB1 r):=sc (fn:=Tryz.f128) (k:=false) (m:=0) (stM:=aB3) h fun s=>by
 cases s with
 | s0=>exact ba4
 | s1=>exact aY0
end Go.RX.L

namespace Go.RX.L
open Go Go.RX Go.Proofs
attribute [local irreducible] f6
noncomputable def aZ3 (y:Bool):D×f4:=(.bool y,[])
noncomputable def R6 (s_:List Int) (f f2:Int):Option Bool:=((ak3 s_ f f2).bind fun y1=>(some (decide ((y1:Int)≥0))))
theorem aW2 {s_:List Int}{f f2:Int}{r:Bool} (h:R6 s_ f f2=some r):i0 E 97 [.sl false 1 (List.map (d7 .i64) s_),.fn 150 [] [.iptr 1 [[.int .i64 f]] 0 0,.iptr 1 [[.int .i64 f2]] 0 0]] [] (Rs aZ3 r):=so (fn:=Tryz.f97) (k:=false) (m:=0) h<| by
 intro r h;unfold R6 at h
 refine zc 9 [] h (fun _=>bi3) fun y1 h=> ?_
 exact zu 4 h
end Go.RX.L

namespace Go.RX.L
open Go Go.RX Go.Proofs
attribute [local irreducible] f6
noncomputable def dn5 (y:Bool):D×f4:=(.bool y,[])
noncomputable def aw5 (low high:Int) (l_:List Int):Option Bool:=((R6 l_ low high).bind fun y1=>(some (!y1)))
theorem aK5 {low high:Int}{l_:List Int}{r:Bool} (h:aw5 low high l_=some r):i0 E 119 [.int .i64 low,.int .i64 high,.sl false 1 (List.map (d7 .i64) l_)] [] (Rs dn5 r):=so (fn:=Tryz.f119) (k:=false) (m:=0) h<| by
 intro r h;unfold aw5 at h
 refine zc 11 [] h (fun _=>aW2) fun y1 h=> ?_
 exact zu 4 h
end Go.RX.L

namespace Go.RX.L
open Go Go.RX Go.Proofs
attribute [local irreducible] f6
noncomputable def cs1 (y:Bool):D×f4:=(.bool y,[])
noncomputable def al6 (n t t2:Int):Option Bool:=(bif (decide ((n:Int)<t)) then (some true) else (some (decide ((n:Int)>t2))))
theorem cm0 {n t t2:Int}{r:Bool} (h:al6 n t t2=some r):i0 E 154 [.int .i64 n,.iptr 1 [[.int .i64 t]] 0 0,.iptr 1 [[.int .i64 t2]] 0 0] [] (Rs cs1 r):=so (fn:=Tryz.f154) (k:=false) (m:=0) h<| by
 intro r h;unfold al6 at h
 refine zs 12 h (fun h=> ?_) fun h=> ?_
 ·
  exact zu 9 h
 exact zu 10 h
end Go.RX.L

namespace Go.RX.L
open Go Go.RX Go.Proofs
attribute [local irreducible] f6
noncomputable def as1:=p8 (q0 Tryz.f127)
noncomputable def ar8 (y:Int):D×f4:=(.int .i64 y,[])
inductive H4 where
 | s0 (s_:List Int) (f f2:Int)
 | s1 (s_:List Int) (f f2:Int) (t7 t8:Int)
noncomputable def at8:H4→M
 | .s0 s_ f f2=>A5 Tryz.f127 [.sl false 1 (List.map (d7 .i64) s_),.fn 154 [] [.iptr 1 [[.int .i64 f]] 0 0,.iptr 1 [[.int .i64 f2]] 0 0]] []
 | .s1 s_ f f2 t7 t8=>⟨[.lpc (as1 [1,0,1,0,0]) 387,.blk 0,.code (as1 [1,1])],[(0,.sl false 1 (List.map (d7 .i64) s_)),(1,.fn 154 [] [.iptr 1 [[.int .i64 f]] 0 0,.iptr 1 [[.int .i64 f2]] 0 0]),(7,.int .i64 t7),(8,.int .i64 t8)],[]⟩
abbrev as7:=SOk E (Cx.of Tryz.f127 false 0) ar8 at8
noncomputable def O0 (s_:List Int) (f f2:Int):Option (H4⊕Int):=(some (.inl (.s1 s_ f f2 (((List.map (d7 .i64) s_).length:Nat):Int) 0)))
noncomputable def D6 (s_:List Int) (f f2:Int) (t7 t8:Int):Option (H4⊕Int):=(bif (decide ((t8:Int)<t7)) then (bif ((decide ((0:Int)≤t8))&&(decide ((t8:Int)<(((List.map (d7 .i64) s_).length:Nat):Int)))) then (((s_)[t8.toNat]?).bind fun y3=>((al6 y3 f f2).bind fun y5=>(bif y5 then (some (.inr t8)) else (some (.inl (.s1 s_ f f2 t7 (IntKind.i64.wrap (t8+1)))))))) else none) else (some (.inr (-1))))
noncomputable def A8:H4→Option (H4⊕Int)
 | .s0 s_ f f2=>O0 s_ f f2
 | .s1 s_ f f2 t7 t8=>D6 s_ f f2 t7 t8
theorem aR0 {s_ f f2}:as7 (.s0 s_ f f2) (O0 s_ f f2):=by
 intro r x h ha;unfold O0 at h
 exact zj 14 h ha
theorem aQ9 {s_ f f2 t7 t8}:as7 (.s1 s_ f f2 t7 t8) (D6 s_ f f2 t7 t8):=by
 intro r x h ha;unfold D6 at h
 refine zs 7 h (fun h=> ?_) fun h=> ?_
 ·
  refine zn 14 h fun h=> ?_
  refine zr 1 (d7 .i64) h fun y3 h=> ?_
  refine zc 1 [] h (fun _=>cm0) fun y5 h=> ?_
  refine zs 2 h (fun h=> ?_) fun h=> ?_
  ·
   exact zt 6 h ha
  exact zj 7 h ha
 exact zt 6 h ha
noncomputable def ac4 (s_:List Int) (f f2:Int):Option Int:=V6 A8 (.s0 s_ f f2)
theorem aW3 {s_:List Int}{f f2 r:Int} (h:ac4 s_ f f2=some r):i0 E 127 [.sl false 1 (List.map (d7 .i64) s_),.fn 154 [] [.iptr 1 [[.int .i64 f]] 0 0,.iptr 1 [[.int .i64 f2]] 0 0]] [] (Rs ar8 r):=sc (fn:=Tryz.f127) (k:=false) (m:=0) (stM:=at8) h fun s=>by
 cases s with
 | s0=>exact aR0
 | s1=>exact aQ9
end Go.RX.L

namespace Go.RX.L
open Go Go.RX Go.Proofs
attribute [local irreducible] f6
noncomputable def aR1 (y:Bool):D×f4:=(.bool y,[])
noncomputable def M0 (s_:List Int) (f f2:Int):Option Bool:=((ac4 s_ f f2).bind fun y1=>(some (decide ((y1:Int)≥0))))
theorem aP8 {s_:List Int}{f f2:Int}{r:Bool} (h:M0 s_ f f2=some r):i0 E 95 [.sl false 1 (List.map (d7 .i64) s_),.fn 154 [] [.iptr 1 [[.int .i64 f]] 0 0,.iptr 1 [[.int .i64 f2]] 0 0]] [] (Rs aR1 r):=so (fn:=Tryz.f95) (k:=false) (m:=0) h<| by
 intro r h;unfold M0 at h
 refine zc 9 [] h (fun _=>aW3) fun y1 h=> ?_
 exact zu 4 h
end Go.RX.L

namespace Go.RX.L
open Go Go.RX Go.Proofs
attribute [local irreducible] f6
noncomputable def cO9 (y:Bool):D×f4:=(.bool y,[])
noncomputable def ap9 (low high:Int) (l_:List Int):Option Bool:=((M0 l_ low high).bind fun y1=>(some (!y1)))
theorem aX9 {low high:Int}{l_:List Int}{r:Bool} (h:ap9 low high l_=some r):i0 E 129 [.int .i64 low,.int .i64 high,.sl false 1 (List.map (d7 .i64) l_)] [] (Rs cO9 r):=so (fn:=Tryz.f129) (k:=false) (m:=0) h<| by
 intro r h;unfold ap9 at h
 refine zc 11 [] h (fun _=>aP8) fun y1 h=> ?_
 exact zu 4 h
end Go.RX.L

namespace Go.RX.L
open Go Go.RX Go.Proofs
attribute [local irreducible] f6
noncomputable def bj2:=p8 (q0 Tryz.f130)
noncomputable def bj6 (y:Bool):D×f4:=(.bool y,[])
inductive ae9 where
 | s0 (x_:List Int)
 | s1 (x_:List Int) (i:Int)
noncomputable def bj5:ae9→M
 | .s0 x_=>A5 Tryz.f130 [.sl false 1 (List.map (d7 .i64) x_)] []
 | .s1 x_ i=>⟨[.lpc (bj2 [1,0,1,0,0]) 9,.blk 0,.code (bj2 [1,1])],[(0,.sl false 1 (List.map (d7 .i64) x_)),(3,.int .i64 i)],[]⟩
abbrev bj3:=SOk E (Cx.of Tryz.f130 false 0) bj6 bj5
noncomputable def ae3 (x_:List Int):Option (ae9⊕Bool):=(some (.inl (.s1 x_ (IntKind.i64.wrap ((((List.map (d7 .i64) x_).length:Nat):Int)-1)))))
noncomputable def O5 (x_:List Int) (i:Int):Option (ae9⊕Bool):=(bif (decide ((i:Int)>0)) then (bif ((decide ((0:Int)≤i))&&(decide ((i:Int)<(((List.map (d7 .i64) x_).length:Nat):Int)))) then (((x_)[i.toNat]?).bind fun y3=>(bif ((decide ((0:Int)≤(IntKind.i64.wrap (i-1))))&&(decide (((IntKind.i64.wrap (i-1)):Int)<(((List.map (d7 .i64) x_).length:Nat):Int)))) then (((x_)[(IntKind.i64.wrap (i-1)).toNat]?).bind fun y6=>((br5 y3 y6).bind fun y8=>(bif y8 then (some (.inr false)) else (some (.inl (.s1 x_ (IntKind.i64.wrap (i-1)))))))) else none)) else none) else (some (.inr true)))
noncomputable def F7:ae9→Option (ae9⊕Bool)
 | .s0 x_=>ae3 x_
 | .s1 x_ i=>O5 x_ i
theorem bI0 {x_}:bj3 (.s0 x_) (ae3 x_):=by
 intro r x h ha;unfold ae3 at h
 exact zj 15 h ha
theorem bL0 {x_ i}:bj3 (.s1 x_ i) (O5 x_ i):=by
 intro r x h ha;unfold O5 at h
 refine zs 8 h (fun h=> ?_) fun h=> ?_
 ·
  refine zn 5 h fun h=> ?_
  refine zr 0 (d7 .i64) h fun y3 h=> ?_
  refine zn 0 h fun h=> ?_
  refine zr 0 (d7 .i64) h fun y6 h=> ?_
  refine zd 0 [] h (fun _=>dd3) fun y8 h=> ?_
  refine zs 1 h (fun h=> ?_) fun h=> ?_
  ·
   exact zt 5 h ha
  exact zj 8 h ha
 exact zt 6 h ha
noncomputable def aV4 (x_:List Int):Option Bool:=V6 F7 (.s0 x_)
theorem bQ3 {x_:List Int}{r:Bool} (h:aV4 x_=some r):i0 E 130 [.sl false 1 (List.map (d7 .i64) x_)] [] (Rs bj6 r):=sc (fn:=Tryz.f130) (k:=false) (m:=0) (stM:=bj5) h fun s=>by
 cases s with
 | s0=>exact bI0
 | s1=>exact bL0
end Go.RX.L

namespace Go.RX.L
open Go Go.RX Go.Proofs
attribute [local irreducible] f6
noncomputable def at6:=p8 (q0 Tryz.f99)
noncomputable def bW0 (y:Bool):D×f4:=(.bool y,[])
abbrev bt0:=AOk E (Cx.of Tryz.f99 false 0) bW0
noncomputable def cQ4 (t37:Bool) (p_:Plan):M:=⟨[.code (at6 [1,0,0,1,1,1,1,1]),.blk 0,.code (at6 [1,1])],[(1,.ptr 0 0 0),(37,.bool t37)],[some ⟨12,false,[(Plan.enc p_)]⟩]⟩
noncomputable def at7 (t37:Bool) (p_:Plan):Option Bool:=(bif t37 then (some false) else ((ap9 0 1000000 p_.Pen).bind fun y2=>(bif y2 then ((aw5 0 1099511627776 p_.Changes).bind fun y4=>(bif y4 then ((aV4 p_.Changes).bind fun y6=>(some y6)) else (some false))) else (some false))))
theorem bw0 {t37 p_}:bt0 (cQ4 t37 p_) (at7 t37 p_):=by
 intro r h;unfold at7 at h
 refine zs 1 h (fun h=> ?_) fun h=> ?_
 ·
  exact zu 5 h
 refine zc 8 [] h (fun _=>aX9) fun y2 h=> ?_
 refine zs 2 h (fun h=> ?_) fun h=> ?_
 ·
  refine zc 5 [] h (fun _=>aK5) fun y4 h=> ?_
  refine zs 4 h (fun h=> ?_) fun h=> ?_
  ·
   refine zc 5 [] h (fun _=>bQ3) fun y6 h=> ?_
   exact zu 5 h
  exact zu 9 h
 exact zu 18 h
noncomputable def cM9 (t21:Bool) (p_:Plan):M:=⟨[.code (at6 [1,0,0,1,1,1]),.blk 0,.code (at6 [1,1])],[(1,.ptr 0 0 0),(21,.bool t21)],[some ⟨12,false,[(Plan.enc p_)]⟩]⟩
noncomputable def au3 (t21:Bool) (p_:Plan):Option Bool:=(bif t21 then (some false) else (bif (decide (((((List.map (d7 .i64) p_.Pen).length:Nat):Int):Int)>16)) then (at7 (decide (((((List.map (d7 .i64) p_.Pen).length:Nat):Int):Int)>16)) p_) else (at7 (decide (((((List.map (d7 .i64) p_.Changes).length:Nat):Int):Int)>8)) p_)))
theorem bw9 {t21 p_}:bt0 (cM9 t21 p_) (au3 t21 p_):=by
 intro r h;unfold au3 at h
 refine zs 1 h (fun h=> ?_) fun h=> ?_
 ·
  exact zu 5 h
 refine zs 11 h (fun h=> ?_) fun h=> ?_
 ·
  exact zg 1 (bw0 h)
 exact zg 8 (bw0 h)
noncomputable def cM6 (t3:Bool) (p_:Plan):M:=⟨[.code (at6 [1,0,0,1]),.blk 0,.code (at6 [1,1])],[(1,.ptr 0 0 0),(3,.bool t3)],[some ⟨12,false,[(Plan.enc p_)]⟩]⟩
noncomputable def aj6 (t3:Bool) (p_:Plan):Option Bool:=(bif t3 then (some false) else ((aw5 0 1099511627776 ([p_.Stamp,p_.Since,p_.Ramped])).bind fun y2=>(bif (!y2) then (au3 (!y2) p_) else (au3 (decide (((u9 p_.Up p_.Sup):Int)≥65536)) p_))))
theorem aU2 {t3 p_}:bt0 (cM6 t3 p_) (aj6 t3 p_):=by
 intro r h;unfold aj6 at h
 refine zs 1 h (fun h=> ?_) fun h=> ?_
 ·
  exact zu 5 h
 refine zc 15 [] h (fun _=>aK5) fun y2 h=> ?_
 refine zs 4 h (fun h=> ?_) fun h=> ?_
 ·
  exact zg 1 (bw9 h)
 exact zg 11 (bw9 h)
noncomputable def af8 (p_:Plan):Option Bool:=(bif (decide ((p_.Epoch:Int)<0)) then (aj6 (decide ((p_.Epoch:Int)<0)) p_) else ((ap9 (-1) 15 ([p_.Target,p_.Prev,p_.Spill])).bind fun y2=>(bif (!y2) then (aj6 (!y2) p_) else ((ap9 0 100 ([p_.Percent])).bind fun y4=>(aj6 (!y4) p_)))))
theorem ay9 {p_:Plan}{r:Bool} (h:af8 p_=some r):i0 E 99 [.agg (Plan.enc p_)] [] (Rs bW0 r):=so (fn:=Tryz.f99) (k:=false) (m:=0) h<| by
 intro r h;unfold af8 at h
 refine zs 17 h (fun h=> ?_) fun h=> ?_
 ·
  exact zg 1 (aU2 h)
 refine zc 14 [] h (fun _=>aX9) fun y2 h=> ?_
 refine zs 4 h (fun h=> ?_) fun h=> ?_
 ·
  exact zg 1 (aU2 h)
 refine zc 7 [] h (fun _=>aX9) fun y4 h=> ?_
 exact zg 3 (aU2 h)
end Go.RX.L

namespace Go.RX.L
open Go Go.RX Go.Proofs
attribute [local irreducible] f6
end Go.RX.L

namespace Go.RX.L
open Go Go.RX Go.Proofs
attribute [local irreducible] f6
noncomputable def V3:=p8 (q0 Tryz.f35)
noncomputable def cN3 (y:Bool):D×f4:=(.bool y,[])
inductive cO0 where
 | s0 (p_:Plan)
 | s1 (t47:Bool) (p_:Plan)
 | s2 (t85:Bool) (p_:Plan)
 | s3 (i:Int) (p_:Plan)
 | s4 (i:Int) (p_:Plan)
noncomputable def cN1:cO0→M
 | .s0 p_=>A5 Tryz.f35 [.agg (Plan.enc p_)] []
 | .s1 t47 p_=>⟨[.code (V3 [1,0,1]),.code (V3 [1,1])],[(1,.ptr 0 0 0),(47,.bool t47)],[some ⟨12,false,[(Plan.enc p_)]⟩]⟩
 | .s2 t85 p_=>⟨[.code (V3 [1,1,0,1]),.code (V3 [1,1,1])],[(1,.ptr 0 0 0),(85,.bool t85)],[some ⟨12,false,[(Plan.enc p_)]⟩]⟩
 | .s3 i p_=>⟨[.lpc (V3 [1,1,1,0,1,0,0]) 10,.blk 0,.code (V3 [1,1,1,1])],[(1,.ptr 0 0 0),(3,.int .i64 i)],[some ⟨12,false,[(Plan.enc p_)]⟩]⟩
 | .s4 i p_=>⟨[.lpc (V3 [1,1,1,1,0,1,0,0]) 18,.blk 2,.code (V3 [1,1,1,1,1])],[(1,.ptr 0 0 0),(4,.int .i64 i)],[some ⟨12,false,[(Plan.enc p_)]⟩]⟩
abbrev dT6:=SOk E (Cx.of Tryz.f35 false 0) cN3 cN1
end Go.RX.L

namespace Go.RX.L
open Go Go.RX Go.Proofs
attribute [local irreducible] f6
noncomputable def bB1:=p8 (q0 Tryz.f132)
noncomputable def bD1 (y:Bool):D×f4:=(.bool y,[])
inductive at4 where
 | s0 (s1 s2:List Int)
 | s1 (s1 s2:List Int) (t12 t13:Int)
noncomputable def bA9:at4→M
 | .s0 s1 s2=>A5 Tryz.f132 [.sl false 1 (List.map (d7 .i64) s1),.sl false 1 (List.map (d7 .i64) s2)] []
 | .s1 s1 s2 t12 t13=>⟨[.lpc (bB1 [1,1,0,1,0,0]) 12291,.blk 0,.code (bB1 [1,1,1])],[(0,.sl false 1 (List.map (d7 .i64) s1)),(1,.sl false 1 (List.map (d7 .i64) s2)),(12,.int .i64 t12),(13,.int .i64 t13)],[]⟩
abbrev bC3:=SOk E (Cx.of Tryz.f132 false 0) bD1 bA9
noncomputable def ar9 (s1 s2:List Int):Option (at4⊕Bool):=(bif (((((List.map (d7 .i64) s1).length:Nat):Int):Int) !=(((List.map (d7 .i64) s2).length:Nat):Int)) then (some (.inr false)) else (some (.inl (.s1 s1 s2 (((List.map (d7 .i64) s1).length:Nat):Int) 0))))
noncomputable def ah4 (s1 s2:List Int) (t12 t13:Int):Option (at4⊕Bool):=(bif (decide ((t13:Int)<t12)) then (bif ((decide ((0:Int)≤t13))&&(decide ((t13:Int)<(((List.map (d7 .i64) s1).length:Nat):Int)))) then (((s1)[t13.toNat]?).bind fun y3=>(bif ((decide ((0:Int)≤t13))&&(decide ((t13:Int)<(((List.map (d7 .i64) s2).length:Nat):Int)))) then (((s2)[t13.toNat]?).bind fun y6=>(bif ((y3:Int) !=y6) then (some (.inr false)) else (some (.inl (.s1 s1 s2 t12 (IntKind.i64.wrap (t13+1))))))) else none)) else none) else (some (.inr true)))
noncomputable def O2:at4→Option (at4⊕Bool)
 | .s0 s1 s2=>ar9 s1 s2
 | .s1 s1 s2 t12 t13=>ah4 s1 s2 t12 t13
theorem cd6 {s1 s2}:bC3 (.s0 s1 s2) (ar9 s1 s2):=by
 intro r x h ha;unfold ar9 at h
 refine zs 14 h (fun h=> ?_) fun h=> ?_
 ·
  exact zt 5 h ha
 exact zj 11 h ha
theorem cc1 {s1 s2 t12 t13}:bC3 (.s1 s1 s2 t12 t13) (ah4 s1 s2 t12 t13):=by
 intro r x h ha;unfold ah4 at h
 refine zs 7 h (fun h=> ?_) fun h=> ?_
 ·
  refine zn 10 h fun h=> ?_
  refine zr 0 (d7 .i64) h fun y3 h=> ?_
  refine zn 0 h fun h=> ?_
  refine zr 0 (d7 .i64) h fun y6 h=> ?_
  refine zs 1 h (fun h=> ?_) fun h=> ?_
  ·
   exact zt 5 h ha
  exact zj 7 h ha
 exact zt 6 h ha
noncomputable def bt2 (s1 s2:List Int):Option Bool:=V6 O2 (.s0 s1 s2)
theorem cs5 {s1 s2:List Int}{r:Bool} (h:bt2 s1 s2=some r):i0 E 132 [.sl false 1 (List.map (d7 .i64) s1),.sl false 1 (List.map (d7 .i64) s2)] [] (Rs bD1 r):=sc (fn:=Tryz.f132) (k:=false) (m:=0) (stM:=bA9) h fun s=>by
 cases s with
 | s0=>exact cd6
 | s1=>exact cc1
end Go.RX.L

namespace Go.RX.L
open Go Go.RX Go.Proofs
attribute [local irreducible] f6
noncomputable def bj8:=p8 (q0 Tryz.f133)
noncomputable def bj7 (y:Bool):D×f4:=(.bool y,[])
inductive ae2 where
 | s0 (s1 s2:List Int)
 | s1 (s1 s2:List Int) (t12 t13:Int)
noncomputable def bi5:ae2→M
 | .s0 s1 s2=>A5 Tryz.f133 [.sl false 1 (List.map (d7 .i64) s1),.sl false 1 (List.map (d7 .i64) s2)] []
 | .s1 s1 s2 t12 t13=>⟨[.lpc (bj8 [1,1,0,1,0,0]) 12291,.blk 0,.code (bj8 [1,1,1])],[(0,.sl false 1 (List.map (d7 .i64) s1)),(1,.sl false 1 (List.map (d7 .i64) s2)),(12,.int .i64 t12),(13,.int .i64 t13)],[]⟩
abbrev bj9:=SOk E (Cx.of Tryz.f133 false 0) bj7 bi5
noncomputable def ae8 (s1 s2:List Int):Option (ae2⊕Bool):=(bif (((((List.map (d7 .i64) s1).length:Nat):Int):Int) !=(((List.map (d7 .i64) s2).length:Nat):Int)) then (some (.inr false)) else (some (.inl (.s1 s1 s2 (((List.map (d7 .i64) s1).length:Nat):Int) 0))))
noncomputable def U8 (s1 s2:List Int) (t12 t13:Int):Option (ae2⊕Bool):=(bif (decide ((t13:Int)<t12)) then (bif ((decide ((0:Int)≤t13))&&(decide ((t13:Int)<(((List.map (d7 .i64) s1).length:Nat):Int)))) then (((s1)[t13.toNat]?).bind fun y3=>(bif ((decide ((0:Int)≤t13))&&(decide ((t13:Int)<(((List.map (d7 .i64) s2).length:Nat):Int)))) then (((s2)[t13.toNat]?).bind fun y6=>(bif ((y3:Int) !=y6) then (some (.inr false)) else (some (.inl (.s1 s1 s2 t12 (IntKind.i64.wrap (t13+1))))))) else none)) else none) else (some (.inr true)))
noncomputable def K0:ae2→Option (ae2⊕Bool)
 | .s0 s1 s2=>ae8 s1 s2
 | .s1 s1 s2 t12 t13=>U8 s1 s2 t12 t13
theorem bG6 {s1 s2}:bj9 (.s0 s1 s2) (ae8 s1 s2):=by
 intro r x h ha;unfold ae8 at h
 refine zs 14 h (fun h=> ?_) fun h=> ?_
 ·
  exact zt 5 h ha
 exact zj 11 h ha
theorem bK6 {s1 s2 t12 t13}:bj9 (.s1 s1 s2 t12 t13) (U8 s1 s2 t12 t13):=by
 intro r x h ha;unfold U8 at h
 refine zs 7 h (fun h=> ?_) fun h=> ?_
 ·
  refine zn 10 h fun h=> ?_
  refine zr 0 (d7 .i64) h fun y3 h=> ?_
  refine zn 0 h fun h=> ?_
  refine zr 0 (d7 .i64) h fun y6 h=> ?_
  refine zs 1 h (fun h=> ?_) fun h=> ?_
  ·
   exact zt 5 h ha
  exact zj 7 h ha
 exact zt 6 h ha
noncomputable def aU3 (s1 s2:List Int):Option Bool:=V6 K0 (.s0 s1 s2)
theorem bY3 {s1 s2:List Int}{r:Bool} (h:aU3 s1 s2=some r):i0 E 133 [.sl false 1 (List.map (d7 .i64) s1),.sl false 1 (List.map (d7 .i64) s2)] [] (Rs bj7 r):=sc (fn:=Tryz.f133) (k:=false) (m:=0) (stM:=bi5) h fun s=>by
 cases s with
 | s0=>exact bG6
 | s1=>exact bK6
end Go.RX.L

namespace Go.RX.L
open Go Go.RX Go.Proofs
attribute [local irreducible] f6
noncomputable def cO5 (y:Int):D×f4:=(.fn 163 [] [.iptr 1 [[.int .i64 y]] 0 0],[])
noncomputable def az1 (n:Int):Option Int:=(some n)
theorem bC0 {n r:Int} (h:az1 n=some r):i0 E 160 [.int .i64 n] [] (Rs cO5 r):=so (fn:=Tryz.f160) (k:=false) (m:=0) h<| by
 intro r h;unfold az1 at h
 exact zu 11 h
end Go.RX.L

namespace Go.RX.L
open Go Go.RX Go.Proofs
attribute [local irreducible] f6
noncomputable def bv8:=p8 (q0 Tryz.f163)
def A4 (y:Int):List D:= [D.int .u8 y]
inductive P4 where
 | s0 (t:Int)
 | s1 (u:Int)
noncomputable def U1 (l:Nat):P4→M
 | .s0 t=>⟨[.code (q0 Tryz.f163)],[(0,D.yld l),(1,D.iptr 1 [[D.int .i64 t]] 0 0)],[]⟩
 | .s1 u=>⟨[.lpc (bv8 [1,0,0,0]) 9,.blk 0,.code (bv8 [1,1])],[(0,D.yld l),(3,D.int .u64 u)],[]⟩
noncomputable def aS9 (t:Int):Option (List Int×Option P4):=(some ([],some (.s1 (P1 .u64 (IntKind.u64.wrap ((F0 .i64 t 1))) (IntKind.u64.wrap ((n4 .i64 t 63)))))))
noncomputable def am4 (u:Int):Option (List Int×Option P4):=(bif (decide ((u:Int)>127)) then (Option.map (fun p=>((orI .u8 (IntKind.u8.wrap (u)) 128)::p.1,p.2)) (some ([],some (.s1 (n4 .u64 u 7))))) else (Option.map (fun p=>((IntKind.u8.wrap (u))::p.1,p.2)) (some ([],none))))
noncomputable def aj4:P4→f4
 | .s0 t=> []
 | .s1 u=> []
noncomputable def aa2:P4→Option (List Int×Option P4)
 | .s0 t=>aS9 t
 | .s1 u=>am4 u
theorem bR4 {l:Nat}{ln:f4}{φ0:q9}{J:Option (List (List D))→World→(Nat→Prop)→(Nat→Prop)→Prop}{t:Int}{x:List Int×Option P4}{Y:List (List D)} (hl:aj4 (.s0 t)=ln) (h:aS9 t=some x) (ha:Z8 E ln (Cx.seq Tryz.f163 0 ln l φ0 J) A4 (U1 l) aj4 x Y):f6 E (Cx.seq Tryz.f163 0 ln l φ0 J (some Y)) (fun _ s=>P3 ln s) (.go (U1 l (.s0 t))):=by
 subst hl
 unfold aS9 at h
 refine l8 hm 19 _ ?_
 obtain rfl:=Option.some.inj h
 exact aU5 (q' := .go (U1 l (.s1 (P1 .u64 (IntKind.u64.wrap ((F0 .i64 t 1))) (IntKind.u64.wrap ((n4 .i64 t 63))))))) (by kernel_rfl) (K7 (by kernel_rfl) ha)
theorem bT9 {l:Nat}{ln:f4}{φ0:q9}{J:Option (List (List D))→World→(Nat→Prop)→(Nat→Prop)→Prop}{u:Int}{x:List Int×Option P4}{Y:List (List D)} (hl:aj4 (.s1 u)=ln) (h:am4 u=some x) (ha:Z8 E ln (Cx.seq Tryz.f163 0 ln l φ0 J) A4 (U1 l) aj4 x Y):f6 E (Cx.seq Tryz.f163 0 ln l φ0 J (some Y)) (fun _ s=>P3 ln s) (.go (U1 l (.s1 u))):=by
 subst hl
 unfold am4 at h
 refine zs 8 h (fun h=> ?_) fun h=> ?_
 ·
  refine l8 hm 10 _ ?_
  refine bG1 (x:=(orI .u8 (IntKind.u8.wrap (u)) 128)) (s:= []) h ha (by kernel_rfl) (by kernel_rfl) ?_ (fun p Y h ha=> ?_)
  · --it is stopped
    refine l8 hm 5 _ ?_
    exact bs1 (d:=D.tup []) (s:= []) (by kernel_rfl) (by kernel_rfl)
  · --it goes on
    refine l8 hm 13 _ ?_
    obtain rfl:=Option.some.inj h
    exact aU5 (q' := .go (U1 l (.s1 (n4 .u64 u 7)))) (by kernel_rfl) (K7 (by kernel_rfl) ha)
 refine l8 hm 6 _ ?_
 refine bG1 (x:=(IntKind.u8.wrap (u))) (s:= []) h ha (by kernel_rfl) (by kernel_rfl) ?_ (fun p Y h ha=> ?_)
 · --it is stopped
   refine l8 hm 2 _ ?_
   exact bs1 (d:=D.tup []) (s:= []) (by kernel_rfl) (by kernel_rfl)
 · --it goes on
   refine l8 hm 2 _ ?_
   obtain rfl:=Option.some.inj h
   exact bA1 (d:=D.tup []) (s:= []) (by kernel_rfl) (by kernel_rfl) ha
noncomputable def al8 (t:Int):Option (List Int):=evl aa2 (.s0 t)
theorem br1 {t:Int}{r:List Int} (h:al8 t=some r):ah7 E 163 [D.iptr 1 [[D.int .i64 t]] 0 0] [] [] (List.map A4 r):=
 bB7 (m:=fun l=>U1 l (.s0 t)) (fn:=Tryz.f163) (by kernel_rfl) (fun l=>by kernel_rfl) (show List.take _ _=_ by kernel_rfl) (show B7 _ _=_ by kernel_rfl) (fun l φ0 J=>bp0 (step:=aa2) (lnS:=aj4) (fun s x Y hl hs ha=>by
  cases s with
  | s0=>exact bR4 hl hs ha
  | s1=>exact bT9 hl hs ha) (by kernel_rfl) (bD7 h))
end Go.RX.L

namespace Go.RX.L
open Go Go.RX Go.Proofs
attribute [local irreducible] f6
noncomputable def J7:=p8 (q0 Tryz.f149)
noncomputable def cs2 (y:Int×Int×Int):D×f4:=(.tup [.int .i64 y.1,.int .i64 y.2.1,.int .i64 y.2.2],[])
inductive ao1 where
 | s0 (b:List Int) (at_:Int)
 | s1 (b:List Int) (at_:Int) (t19:Bool)
 | s2 (at_ u shift:Int) (t22:List Int) (t23 t24:Int)
 | s4 (at_ u:Int) (shift i c:Int) (t22:List Int) (t23 t24:Int) (t36:Bool)
 | s3 (at_ u:Int) (shift i c:Int) (t22:List Int) (t23 t24:Int) (t36:Bool)
noncomputable def ct3:ao1→M
 | .s0 b at_=>A5 Tryz.f149 [.sl false 1 (List.map (d7 .u8) b),.int .i64 at_] []
 | .s1 b at_ t19=>⟨[.code (J7 [1,0,0,1]),.code (J7 [1,0,1]),.sc],[(0,.sl false 1 (List.map (d7 .u8) b)),(1,.int .i64 at_),(19,.bool t19)],[]⟩
 | .s2 at_ u shift t22 t23 t24=>⟨[.lpc (J7 [1,0,1,1,1,1,0,1,0,0]) 29361026,.blk 0,.code (J7 [1,0,1,1,1,1,1]),.sc],[(1,.int .i64 at_),(7,.int .i64 11),(8,.int .u64 u),(9,.int .i64 shift),(22,.sl false 1 (List.map (d7 .u8) t22)),(23,.int .i64 t23),(24,.int .i64 t24)],[]⟩
 | .s4 at_ u shift i c t22 t23 t24 t36=>⟨[.code (J7 [1,0,1,1,1,1,0,1,0,0,1,1,0,0,1,1,0,0,0,1]),.code (J7 [1,0,1,1,1,1,0,1,0,0,1,1,0,0,1,1,0,0,1]),.blk 2,.code (J7 [1,0,1,1,1,1,0,1,0,0,1,1,0,0,1,1,1]),.blk 1,.code (J7 [1,0,1,1,1,1,0,1,0,0,1,1,1]),.lp (J7 [1,0,1,1,1,1,0,1,0,0]) 29361026,.blk 0,.code (J7 [1,0,1,1,1,1,1]),.sc],[(1,.int .i64 at_),(7,.int .i64 11),(8,.int .u64 u),(9,.int .i64 shift),(10,.int .i64 i),(11,.int .u8 c),(22,.sl false 1 (List.map (d7 .u8) t22)),(23,.int .i64 t23),(24,.int .i64 t24),(36,.bool t36)],[]⟩
 | .s3 at_ u shift i c t22 t23 t24 t36=>⟨[.code (J7 [1,0,1,1,1,1,0,1,0,0,1,1,0,0,1,1,0,0,1]),.blk 2,.code (J7 [1,0,1,1,1,1,0,1,0,0,1,1,0,0,1,1,1]),.blk 1,.code (J7 [1,0,1,1,1,1,0,1,0,0,1,1,1]),.lp (J7 [1,0,1,1,1,1,0,1,0,0]) 29361026,.blk 0,.code (J7 [1,0,1,1,1,1,1]),.sc],[(1,.int .i64 at_),(7,.int .i64 11),(8,.int .u64 u),(9,.int .i64 shift),(10,.int .i64 i),(11,.int .u8 c),(22,.sl false 1 (List.map (d7 .u8) t22)),(23,.int .i64 t23),(24,.int .i64 t24),(36,.bool t36)],[]⟩
abbrev aT1:=SOk E (Cx.of Tryz.f149 false 0) cs2 ct3
noncomputable def bo6 (b:List Int) (at_:Int):Option (ao1⊕(Int×Int×Int)):=(bif (decide ((at_:Int)<0)) then (some (.inl (.s1 b at_ true))) else (some (.inl (.s1 b at_ (decide ((at_:Int)>(((List.map (d7 .u8) b).length:Nat):Int)))))))
noncomputable def bm4 (b:List Int) (at_:Int) (t19:Bool):Option (ao1⊕(Int×Int×Int)):=(bif t19 then (some (.inr (0,0,1))) else (bif ((decide (((0:Nat):Int)≤at_))&&(decide ((at_:Int)≤(((List.map (d7 .u8) b).length:Nat):Int)))) then (some (.inl (.s2 at_ 0 0 (List.drop at_.toNat (List.take ((List.map (d7 .u8) b).length) b)) (((List.map (d7 .u8) (List.drop at_.toNat (List.take ((List.map (d7 .u8) b).length) b))).length:Nat):Int) 0))) else none))
noncomputable def aS2 (at_ u shift:Int) (t22:List Int) (t23 t24:Int):Option (ao1⊕(Int×Int×Int)):=(bif (decide ((t24:Int)<t23)) then (bif ((decide ((0:Int)≤t24))&&(decide ((t24:Int)<(((List.map (d7 .u8) t22).length:Nat):Int)))) then (((t22)[t24.toNat]?).bind fun y3=>(bif (!decide ((shift:Int)<0)) then (bif ((shift:Int)==63) then (some (.inl (.s4 at_ (orI .u64 u (F0 .u64 (IntKind.u64.wrap ((l6 .u8 y3 127))) shift)) shift t24 y3 t22 t23 t24 (decide ((y3:Int)>1))))) else (some (.inl (.s4 at_ (orI .u64 u (F0 .u64 (IntKind.u64.wrap ((l6 .u8 y3 127))) shift)) shift t24 y3 t22 t23 t24 false)))) else none)) else none) else (some (.inr (0,0,11))))
noncomputable def ax0 (at_ u:Int) (shift i c:Int) (t22:List Int) (t23 t24:Int) (t36:Bool):Option (ao1⊕(Int×Int×Int)):=(bif t36 then (some (.inl (.s3 at_ u shift i c t22 t23 t24 t36))) else (bif ((c:Int)==0) then (some (.inl (.s3 at_ u shift i c t22 t23 t24 (decide ((i:Int)>0))))) else (some (.inl (.s3 at_ u shift i c t22 t23 t24 false)))))
noncomputable def aH7 (at_ u:Int) (shift i c:Int) (t22:List Int) (t23 t24:Int) (t36:Bool):Option (ao1⊕(Int×Int×Int)):=(bif t36 then (some (.inr (0,0,12))) else (bif (decide ((c:Int)<128)) then (some (.inr ((P1 .i64 (IntKind.i64.wrap ((n4 .u64 u 1))) (IntKind.i64.wrap ((0:Int)-(IntKind.i64.wrap ((l6 .u64 u 1)))))),(IntKind.i64.wrap ((IntKind.i64.wrap (at_+i))+1)),0))) else (some (.inl (.s2 at_ u (IntKind.i64.wrap (shift+7)) t22 t23 (IntKind.i64.wrap (t24+1)))))))
noncomputable def D9:ao1→Option (ao1⊕(Int×Int×Int))
 | .s0 b at_=>bo6 b at_
 | .s1 b at_ t19=>bm4 b at_ t19
 | .s2 at_ u shift t22 t23 t24=>aS2 at_ u shift t22 t23 t24
 | .s4 at_ u shift i c t22 t23 t24 t36=>ax0 at_ u shift i c t22 t23 t24 t36
 | .s3 at_ u shift i c t22 t23 t24 t36=>aH7 at_ u shift i c t22 t23 t24 t36
theorem cM0 {b at_}:aT1 (.s0 b at_) (bo6 b at_):=by
 intro r x h ha;unfold bo6 at h
 refine zs 14 h (fun h=> ?_) fun h=> ?_
 ·
  exact zk 9 h ha
 exact zk 9 h ha
theorem cN9 {b at_ t19}:aT1 (.s1 b at_ t19) (bm4 b at_ t19):=by
 intro r x h ha;unfold bm4 at h
 refine zs 1 h (fun h=> ?_) fun h=> ?_
 ·
  exact zt 7 h ha
 refine zn 18 h fun h=> ?_
 refine zw 0 (a:=(List.drop at_.toNat (List.take ((List.map (d7 .u8) b).length) (List.map (d7 .u8) b)))) (b:=(List.map (d7 .u8) (List.drop at_.toNat (List.take ((List.map (d7 .u8) b).length) b)))) (ck9 _ _ _ _) ?_
 exact zj 6 h ha
theorem cP5 {at_ u shift t22 t23 t24}:aT1 (.s2 at_ u shift t22 t23 t24) (aS2 at_ u shift t22 t23 t24):=by
 intro r x h ha;unfold aS2 at h
 refine zs 7 h (fun h=> ?_) fun h=> ?_
 ·
  refine zn 7 h fun h=> ?_
  refine zr 1 (d7 .u8) h fun y3 h=> ?_
  refine zn 11 h fun h=> ?_
  refine zs 12 h (fun h=> ?_) fun h=> ?_
  ·
   exact zk 6 h ha
  exact zk 6 h ha
 exact zt 9 h ha
theorem cK3 {at_ u shift i c t22 t23 t24 t36}:aT1 (.s4 at_ u shift i c t22 t23 t24 t36) (ax0 at_ u shift i c t22 t23 t24 t36):=by
 intro r x h ha;unfold ax0 at h
 refine zs 1 h (fun h=> ?_) fun h=> ?_
 ·
  exact zk 1 h ha
 refine zs 5 h (fun h=> ?_) fun h=> ?_
 ·
  exact zk 6 h ha
 exact zk 6 h ha
theorem cK5 {at_ u shift i c t22 t23 t24 t36}:aT1 (.s3 at_ u shift i c t22 t23 t24 t36) (aH7 at_ u shift i c t22 t23 t24 t36):=by
 intro r x h ha;unfold aH7 at h
 refine zs 1 h (fun h=> ?_) fun h=> ?_
 ·
  exact zt 13 h ha
 refine zs 7 h (fun h=> ?_) fun h=> ?_
 ·
  exact zt 20 h ha
 exact zj 13 h ha
noncomputable def bJ3 (b:List Int) (at_:Int):Option (Int×Int×Int):=V6 D9 (.s0 b at_)
theorem cg0 {b:List Int}{at_:Int}{r:Int×Int×Int} (h:bJ3 b at_=some r):i0 E 149 [.sl false 1 (List.map (d7 .u8) b),.int .i64 at_] [] (Rs cs2 r):=sc (fn:=Tryz.f149) (k:=false) (m:=0) (stM:=ct3) h fun s=>by
 cases s with
 | s0=>exact cM0
 | s1=>exact cN9
 | s2=>exact cP5
 | s4=>exact cK3
 | s3=>exact cK5
end Go.RX.L

namespace Go.RX.L
open Go Go.RX Go.Proofs
attribute [local irreducible] f6
noncomputable def F9:=p8 (q0 Tryz.f152)
noncomputable def Z3 (y:List Int):D×f4:=((f5 0 (List.map (d7 .u8) y)),[some ⟨1,false,(List.map (d7 .u8) y)⟩])
inductive L5 where
 | s0 (n:Int)
 | s1 (t7:Int) (b1:List Int)
 | s2 (t7:Int) (b1 Y:List Int)
noncomputable def aT6:L5→M
 | .s0 n=>A5 Tryz.f152 [.sl true 0 [],.int .i64 n] []
 | .s1 t7 b1=>⟨[.code (F9 [1,0,1,0]),.blk 0,.code (F9 [1,1])],[(2,.ptr 0 0 0),(7,.fn 163 [] [.iptr 1 [[.int .i64 t7]] 0 0])],[some ⟨1,true,[[(f5 1 (List.map (d7 .u8) b1))]]⟩,some ⟨1,false,(List.map (d7 .u8) b1)⟩]⟩
 | .s2 t7 b1 Y=>⟨[.blk 0,.code (F9 [1,1])],[(2,.ptr 0 0 0),(7,.fn 163 [] [.iptr 1 [[.int .i64 t7]] 0 0])],[some ⟨1,true,[[(f5 1 (List.map (d7 .u8) b1))]]⟩,some ⟨1,false,(List.map (d7 .u8) b1)⟩]⟩
noncomputable def az4:L5→(List Int)→Prop
 | .s0 n,r_=>f6 E (Cx.of Tryz.f152 true 0) (QW (Rs Z3 r_)) (.go (aT6 (.s0 n)))
 | .s1 t7 b1,r_=>f6 E (Cx.of Tryz.f152 true 0) (QW (Rs Z3 r_)) (.go (aT6 (.s1 t7 b1)))
 | .s2 t7 b1 Y,r_=>L7 E (Cx.of Tryz.f152 true 0) (QW (Rs Z3 r_)) 1 (F9 [1,0,1,0]) [.blk 0,.code (F9 [1,1])] [(2,.ptr 0 0 0),(7,.fn 163 [] [.iptr 1 [[.int .i64 t7]] 0 0])] [] [] (List.map A4 Y) [some ⟨1,true,[[(f5 1 (List.map (d7 .u8) b1))]]⟩,some ⟨1,false,(List.map (d7 .u8) b1)⟩]
noncomputable def bm7 (n:Int):Option (L5⊕(List Int)):=((az1 n).bind fun y1=>(some (.inl (.s1 y1 ([])))))
noncomputable def bl2 (t7:Int) (b1:List Int):Option (L5⊕(List Int)):=((al8 t7).bind fun y1=>(some (.inl (.s2 t7 b1 y1))))
noncomputable def bc5 (t7:Int) (b1:List Int):Option (L5⊕(List Int)):=(some (.inr b1))
noncomputable def bc1 (t7:Int) (b1:List Int) (y:Int) (Y:List Int):Option (L5⊕(List Int)):=(bif (decide (((List.map (d7 .u8) b1).length+1)*1≤i6)) then (some (.inl (.s2 t7 (b1++ [y]) Y))) else none)
noncomputable def bn5 (t7:Int) (b1:List Int):List Int→Option (L5⊕(List Int))
 | []=>bc5 t7 b1
 | y::Y=>bc1 t7 b1 y Y
noncomputable def ad8:L5→Option (L5⊕(List Int))
 | .s0 n=>bm7 n
 | .s1 t7 b1=>bl2 t7 b1
 | .s2 t7 b1 Y=>bn5 t7 b1 Y
theorem cN2 {n:Int}{r:List Int}{x:L5⊕(List Int)} (h:bm7 n=some x) (ha:z8 az4 r x):f6 E (Cx.of Tryz.f152 true 0) (QW (Rs Z3 r)) (.go (aT6 (.s0 n))):=by
 unfold bm7 at h
 refine zc 10 [] h (fun _=>bC0) fun y1 h=> ?_
 refine l8 hm 2 _ ?_
 obtain rfl:=Option.some.inj h
 refine am7 388 [.matc 0 0 0 1] (m' :=⟨[.code (F9 [1,0,1,0]),.blk 0,.code (F9 [1,1])],[(2,.ptr 0 0 0),(7,.fn 163 [] [.iptr 1 [[.int .i64 y1]] 0 0])],[some ⟨1,true,[[.msl 1 0 0 0 false]]⟩,some ⟨1,false,[]⟩]⟩) (by kernel_rfl) ?_
 refine Z2 (n1:=0) (n2:=(List.map (d7 .u8) ([])).length) (fun n_len=> .go ⟨[.code (F9 [1,0,1,0]),.blk 0,.code (F9 [1,1])],[(2,.ptr 0 0 0),(7,.fn 163 [] [.iptr 1 [[.int .i64 y1]] 0 0])],[some ⟨1,true,[[.msl 1 0 n_len n_len false]]⟩,some ⟨1,false,[]⟩]⟩) (by simp) ?_
 exact ha
theorem cP7 {t7:Int}{b1 r:List Int}{x:L5⊕(List Int)} (h:bl2 t7 b1=some x) (ha:z8 az4 r x):f6 E (Cx.of Tryz.f152 true 0) (QW (Rs Z3 r)) (.go (aT6 (.s1 t7 b1))):=by
 unfold bl2 at h
 refine l8 hm 1 _ ?_
 have ok1:=fun (y:List Int) (hy:al8 t7=some y)=>br1 hy
 refine cR1 (m:=1) (c:=F9 [1,0,1,0]) (t:= [.blk 0,.code (F9 [1,1])]) (fr:= [(2,.ptr 0 0 0),(7,.fn 163 [] [.iptr 1 [[.int .i64 t7]] 0 0])]) (σ:= [some ⟨1,true,[[(f5 1 (List.map (d7 .u8) b1))]]⟩,some ⟨1,false,(List.map (d7 .u8) b1)⟩]) (caps1:= [.iptr 1 [[.int .i64 t7]] 0 0]) (caps:= [.iptr 1 [[.int .i64 t7]] 0 0]) (sub1:= []) (sub:= []) A4 h (by kernel_rfl) ⟨rfl,rfl⟩ (by kernel_rfl) (by kernel_rfl) ok1 (fun y1 h1 h=> ?_)
 obtain rfl:=Option.some.inj h
 exact ha
theorem cE6 {t7:Int}{b1 r:List Int}{x:L5⊕(List Int)} (h:bc5 t7 b1=some x) (ha:z8 az4 r x):L7 E (Cx.of Tryz.f152 true 0) (QW (Rs Z3 r)) 1 (F9 [1,0,1,0]) [.blk 0,.code (F9 [1,1])] [(2,.ptr 0 0 0),(7,.fn 163 [] [.iptr 1 [[.int .i64 t7]] 0 0])] [] [] ([]) [some ⟨1,true,[[(f5 1 (List.map (d7 .u8) b1))]]⟩,some ⟨1,false,(List.map (d7 .u8) b1)⟩]:=by
 unfold bc5 at h
 refine ba8 ?_
 exact ztP 8 h ha
theorem cC2 {t7:Int}{b1:List Int}{y:Int}{Y r:List Int}{x:L5⊕(List Int)} (h:bc1 t7 b1 y Y=some x) (ha:z8 az4 r x):L7 E (Cx.of Tryz.f152 true 0) (QW (Rs Z3 r)) 1 (F9 [1,0,1,0]) [.blk 0,.code (F9 [1,1])] [(2,.ptr 0 0 0),(7,.fn 163 [] [.iptr 1 [[.int .i64 t7]] 0 0])] [] [] (A4 y::List.map A4 Y) [some ⟨1,true,[[(f5 1 (List.map (d7 .u8) b1))]]⟩,some ⟨1,false,(List.map (d7 .u8) b1)⟩]:=by
 unfold bc1 at h
 refine aP1 ?_
 refine zn 8 h fun h=> ?_
 refine za 0 (d7 .u8) b1 ([y]) ?_
 refine l8 hm 6 _ ?_
 obtain rfl:=Option.some.inj h
 exact aI4 [] (s1:= [some ⟨1,true,[[.msl 1 0 ((List.map (d7 .u8) (b1++ [y])).length) ((List.map (d7 .u8) (b1++ [y])).length) false]]⟩,some ⟨1,false,(List.map (d7 .u8) (b1++ [y]))⟩]) (s:= [some ⟨1,true,[[.msl 1 0 ((List.map (d7 .u8) (b1++ [y])).length) ((List.map (d7 .u8) (b1++ [y])).length) false]]⟩,some ⟨1,false,(List.map (d7 .u8) (b1++ [y]))⟩]) (by kernel_rfl) (rfl) (by kernel_rfl) ha
theorem cM5 {t7:Int}{b1 Y r:List Int}{x:L5⊕(List Int)} (h:bn5 t7 b1 Y=some x) (ha:z8 az4 r x):L7 E (Cx.of Tryz.f152 true 0) (QW (Rs Z3 r)) 1 (F9 [1,0,1,0]) [.blk 0,.code (F9 [1,1])] [(2,.ptr 0 0 0),(7,.fn 163 [] [.iptr 1 [[.int .i64 t7]] 0 0])] [] [] (List.map A4 Y) [some ⟨1,true,[[(f5 1 (List.map (d7 .u8) b1))]]⟩,some ⟨1,false,(List.map (d7 .u8) b1)⟩]:=by
 cases Y with
 | nil=>exact cE6 h ha
 | cons y Y=>exact cC2 h ha
noncomputable def cj2 (n:Int):Option (List Int):=V6 ad8 (.s0 n)
theorem df6 {n:Int}{r:List Int} (h:Ev ad8 (.s0 n) r):i0 E 152 [.sl true 0 [],.int .i64 n] [] (Rs Z3 r):=
 am9 (m:=aT6 (.s0 n)) (fn:=Tryz.f152) (by kernel_rfl) (by kernel_rfl) (aZ2 (Pd:=az4) (fun s x r hs ha=>by
  cases s with
  | s0=>exact cN2 hs ha
  | s1=>exact cP7 hs ha
  | s2=>exact cM5 hs ha) h)
theorem dd8 {n:Int}{r:List Int} (h:cj2 n=some r):i0 E 152 [.sl true 0 [],.int .i64 n] [] (Rs Z3 r):=df6 (bd0 h)
end Go.RX.L

namespace Go.RX.L
open Go Go.RX Go.Proofs
attribute [local irreducible] f6
noncomputable def F4:=p8 (q0 Tryz.f152)
noncomputable def N2 (y:List Int):D×f4:=((f5 1 (List.map (d7 .u8) y)),[none,some ⟨1,false,(List.map (d7 .u8) y)⟩])
inductive D7 where
 | s0 (n:Int) (b0:List Int)
 | s1 (t7:Int) (b2:List Int)
 | s2 (t7:Int) (b2 Y:List Int)
noncomputable def ax8:D7→M
 | .s0 n b0=>A5 Tryz.f152 [(f5 0 (List.map (d7 .u8) b0)),.int .i64 n] [some ⟨1,false,(List.map (d7 .u8) b0)⟩]
 | .s1 t7 b2=>⟨[.code (F4 [1,0,1,0]),.blk 0,.code (F4 [1,1])],[(2,.ptr 1 0 0),(7,.fn 163 [] [.iptr 1 [[.int .i64 t7]] 0 0])],[none,some ⟨1,true,[[(f5 2 (List.map (d7 .u8) b2))]]⟩,some ⟨1,false,(List.map (d7 .u8) b2)⟩]⟩
 | .s2 t7 b2 Y=>⟨[.blk 0,.code (F4 [1,1])],[(2,.ptr 1 0 0),(7,.fn 163 [] [.iptr 1 [[.int .i64 t7]] 0 0])],[none,some ⟨1,true,[[(f5 2 (List.map (d7 .u8) b2))]]⟩,some ⟨1,false,(List.map (d7 .u8) b2)⟩]⟩
noncomputable def ah2:D7→(List Int)→Prop
 | .s0 n b0,r_=>f6 E (Cx.of Tryz.f152 true 1) (QW (Rs N2 r_)) (.go (ax8 (.s0 n b0)))
 | .s1 t7 b2,r_=>f6 E (Cx.of Tryz.f152 true 1) (QW (Rs N2 r_)) (.go (ax8 (.s1 t7 b2)))
 | .s2 t7 b2 Y,r_=>L7 E (Cx.of Tryz.f152 true 1) (QW (Rs N2 r_)) 2 (F4 [1,0,1,0]) [.blk 0,.code (F4 [1,1])] [(2,.ptr 1 0 0),(7,.fn 163 [] [.iptr 1 [[.int .i64 t7]] 0 0])] [] [] (List.map A4 Y) [none,some ⟨1,true,[[(f5 2 (List.map (d7 .u8) b2))]]⟩,some ⟨1,false,(List.map (d7 .u8) b2)⟩]
noncomputable def aN3 (n:Int) (b0:List Int):Option (D7⊕(List Int)):=((az1 n).bind fun y1=>(some (.inl (.s1 y1 b0))))
noncomputable def aN9 (t7:Int) (b2:List Int):Option (D7⊕(List Int)):=((al8 t7).bind fun y1=>(some (.inl (.s2 t7 b2 y1))))
noncomputable def aI9 (t7:Int) (b2:List Int):Option (D7⊕(List Int)):=(some (.inr b2))
noncomputable def aI1 (t7:Int) (b2:List Int) (y:Int) (Y:List Int):Option (D7⊕(List Int)):=(bif (decide (((List.map (d7 .u8) b2).length+1)*1≤i6)) then (some (.inl (.s2 t7 (b2++ [y]) Y))) else none)
noncomputable def aM9 (t7:Int) (b2:List Int):List Int→Option (D7⊕(List Int))
 | []=>aI9 t7 b2
 | y::Y=>aI1 t7 b2 y Y
noncomputable def S3:D7→Option (D7⊕(List Int))
 | .s0 n b0=>aN3 n b0
 | .s1 t7 b2=>aN9 t7 b2
 | .s2 t7 b2 Y=>aM9 t7 b2 Y
theorem ch9 {n:Int}{b0 r:List Int}{x:D7⊕(List Int)} (h:aN3 n b0=some x) (ha:z8 ah2 r x):f6 E (Cx.of Tryz.f152 true 1) (QW (Rs N2 r)) (.go (ax8 (.s0 n b0))):=by
 unfold aN3 at h
 refine zc 10 [] h (fun _=>bC0) fun y1 h=> ?_
 exact zkP 2 h ha id [.mv 0]
theorem cl9 {t7:Int}{b2 r:List Int}{x:D7⊕(List Int)} (h:aN9 t7 b2=some x) (ha:z8 ah2 r x):f6 E (Cx.of Tryz.f152 true 1) (QW (Rs N2 r)) (.go (ax8 (.s1 t7 b2))):=by
 unfold aN9 at h
 refine l8 hm 1 _ ?_
 have ok1:=fun (y:List Int) (hy:al8 t7=some y)=>br1 hy
 refine cR1 (m:=2) (c:=F4 [1,0,1,0]) (t:= [.blk 0,.code (F4 [1,1])]) (fr:= [(2,.ptr 1 0 0),(7,.fn 163 [] [.iptr 1 [[.int .i64 t7]] 0 0])]) (σ:= [none,some ⟨1,true,[[(f5 2 (List.map (d7 .u8) b2))]]⟩,some ⟨1,false,(List.map (d7 .u8) b2)⟩]) (caps1:= [.iptr 1 [[.int .i64 t7]] 0 0]) (caps:= [.iptr 1 [[.int .i64 t7]] 0 0]) (sub1:= []) (sub:= []) A4 h (by kernel_rfl) ⟨rfl,rfl⟩ (by kernel_rfl) (by kernel_rfl) ok1 (fun y1 h1 h=> ?_)
 obtain rfl:=Option.some.inj h
 exact ha
theorem cc6 {t7:Int}{b2 r:List Int}{x:D7⊕(List Int)} (h:aI9 t7 b2=some x) (ha:z8 ah2 r x):L7 E (Cx.of Tryz.f152 true 1) (QW (Rs N2 r)) 2 (F4 [1,0,1,0]) [.blk 0,.code (F4 [1,1])] [(2,.ptr 1 0 0),(7,.fn 163 [] [.iptr 1 [[.int .i64 t7]] 0 0])] [] [] ([]) [none,some ⟨1,true,[[(f5 2 (List.map (d7 .u8) b2))]]⟩,some ⟨1,false,(List.map (d7 .u8) b2)⟩]:=by
 unfold aI9 at h
 refine ba8 ?_
 exact ztP 8 h ha
theorem cd8 {t7:Int}{b2:List Int}{y:Int}{Y r:List Int}{x:D7⊕(List Int)} (h:aI1 t7 b2 y Y=some x) (ha:z8 ah2 r x):L7 E (Cx.of Tryz.f152 true 1) (QW (Rs N2 r)) 2 (F4 [1,0,1,0]) [.blk 0,.code (F4 [1,1])] [(2,.ptr 1 0 0),(7,.fn 163 [] [.iptr 1 [[.int .i64 t7]] 0 0])] [] [] (A4 y::List.map A4 Y) [none,some ⟨1,true,[[(f5 2 (List.map (d7 .u8) b2))]]⟩,some ⟨1,false,(List.map (d7 .u8) b2)⟩]:=by
 unfold aI1 at h
 refine aP1 ?_
 refine zn 8 h fun h=> ?_
 refine za 0 (d7 .u8) b2 ([y]) ?_
 refine l8 hm 6 _ ?_
 obtain rfl:=Option.some.inj h
 exact aI4 [] (s1:= [none,some ⟨1,true,[[.msl 2 0 ((List.map (d7 .u8) (b2++ [y])).length) ((List.map (d7 .u8) (b2++ [y])).length) false]]⟩,some ⟨1,false,(List.map (d7 .u8) (b2++ [y]))⟩]) (s:= [none,some ⟨1,true,[[.msl 2 0 ((List.map (d7 .u8) (b2++ [y])).length) ((List.map (d7 .u8) (b2++ [y])).length) false]]⟩,some ⟨1,false,(List.map (d7 .u8) (b2++ [y]))⟩]) (by kernel_rfl) (rfl) (by kernel_rfl) ha
theorem cn3 {t7:Int}{b2 Y r:List Int}{x:D7⊕(List Int)} (h:aM9 t7 b2 Y=some x) (ha:z8 ah2 r x):L7 E (Cx.of Tryz.f152 true 1) (QW (Rs N2 r)) 2 (F4 [1,0,1,0]) [.blk 0,.code (F4 [1,1])] [(2,.ptr 1 0 0),(7,.fn 163 [] [.iptr 1 [[.int .i64 t7]] 0 0])] [] [] (List.map A4 Y) [none,some ⟨1,true,[[(f5 2 (List.map (d7 .u8) b2))]]⟩,some ⟨1,false,(List.map (d7 .u8) b2)⟩]:=by
 cases Y with
 | nil=>exact cc6 h ha
 | cons y Y=>exact cd8 h ha
noncomputable def bb0 (n:Int) (b0:List Int):Option (List Int):=V6 S3 (.s0 n b0)
theorem cx0 {n:Int}{b0 r:List Int} (h:Ev S3 (.s0 n b0) r):i0 E 152 [(f5 0 (List.map (d7 .u8) b0)),.int .i64 n] [some ⟨1,false,(List.map (d7 .u8) b0)⟩] (Rs N2 r):=
 am9 (m:=ax8 (.s0 n b0)) (fn:=Tryz.f152) (by kernel_rfl) (by kernel_rfl) (aZ2 (Pd:=ah2) (fun s x r hs ha=>by
  cases s with
  | s0=>exact ch9 hs ha
  | s1=>exact cl9 hs ha
  | s2=>exact cn3 hs ha) h)
theorem cD3 {n:Int}{b0 r:List Int} (h:bb0 n b0=some r):i0 E 152 [(f5 0 (List.map (d7 .u8) b0)),.int .i64 n] [some ⟨1,false,(List.map (d7 .u8) b0)⟩] (Rs N2 r):=cx0 (bd0 h)
end Go.RX.L

namespace Go.RX.L
open Go Go.RX Go.Proofs
attribute [local irreducible] f6
noncomputable def cP4 (y:List Int):D×f4:=((f5 0 (List.map (d7 .u8) y)),[some ⟨1,false,(List.map (d7 .u8) y)⟩])
noncomputable def az3 (n:Int):Option (List Int):=((cj2 n).bind fun y1=>(some y1))
theorem bE3 {n:Int}{r:List Int} (h:az3 n=some r):i0 E 151 [.int .i64 n] [] (Rs cP4 r):=so (fn:=Tryz.f151) (k:=true) (m:=0) h<| by
 intro r h;unfold az3 at h
 refine zc 8 [none] h (fun _=>dd8) fun y1 h=> ?_
 exact zu 3 h
end Go.RX.L

namespace Go.RX.L
open Go Go.RX Go.Proofs
attribute [local irreducible] f6
noncomputable def bU2:=p8 (q0 Tryz.f148)
noncomputable def bX0 (y:Int×Int×Int):D×f4:=(.tup [.int .i64 y.1,.int .i64 y.2.1,.int .i64 y.2.2],[])
abbrev cX6:=AOk E (Cx.of Tryz.f148 false 0) bX0
noncomputable def cQ2 (n next:Int) (t23:Bool):M:=⟨[.code (bU2 [1,1,0,0,1,1,1]),.blk 0,.code (bU2 [1,1,1])],[(9,.int .i64 n),(10,.int .i64 next),(23,.bool t23)],[]⟩
noncomputable def M6 (n next:Int) (t23:Bool):Option (Int×Int×Int):=(bif t23 then (some (0,0,2)) else (some (n,next,0)))
theorem bx6 {n next t23}:cX6 (cQ2 n next t23) (M6 n next t23):=by
 intro r h;unfold M6 at h
 refine zs 1 h (fun h=> ?_) fun h=> ?_
 ·
  exact zu 7 h
 exact zu 11 h
noncomputable def J6 (b:List Int) (at_ most:Int):Option (Int×Int×Int):=((bJ3 b at_).bind fun y1=>(bif ((y1.2.2:Int) !=0) then (some (0,0,y1.2.2)) else (bif (decide ((y1.1:Int)<0)) then (M6 y1.1 y1.2.1 (decide ((y1.1:Int)<0))) else (M6 y1.1 y1.2.1 (decide ((y1.1:Int)>most))))))
theorem bO3 {b:List Int}{at_ most:Int}{r:Int×Int×Int} (h:J6 b at_ most=some r):i0 E 148 [.sl false 1 (List.map (d7 .u8) b),.int .i64 at_,.int .i64 most] [] (Rs bX0 r):=so (fn:=Tryz.f148) (k:=false) (m:=0) h<| by
 intro r h;unfold J6 at h
 refine zc 11 [] h (fun _=>cg0) fun y1 h=> ?_
 refine zs 17 h (fun h=> ?_) fun h=> ?_
 ·
  exact zu 8 h
 refine zs 8 h (fun h=> ?_) fun h=> ?_
 ·
  exact zg 1 (bx6 h)
 exact zg 6 (bx6 h)
end Go.RX.L

namespace Go.RX
open Go
/-! ### zigzag -/
def zz (n:Int):Nat:=if 0≤n then 2*n.toNat else 2*(-n).toNat-1
def bz5 (u:Nat):Int:=if u%2=0 then ((u/2:Nat):Int) else-((u/2:Nat):Int)-1
theorem dM0 (n:Int):bz5 (zz n)=n:=by
 unfold bz5 zz
 split<;>split<;>omega
theorem dR0 (u:Nat):zz (bz5 u)=u:=by
 unfold bz5 zz
 split<;>split<;>omega
theorem dm3 {n:Int} (h:n8 .i64 n):zz n<18446744073709551616:=by
 have:=ac2.1 h
 unfold zz
 split<;>omega
theorem dS3 {u:Nat} (h:u<18446744073709551616):n8 .i64 (bz5 u):=by
 refine ac2.2 ?_
 unfold bz5
 split<;>omega
/-! ### a number's bytes -/
def aA1 (u:Nat):List Int:=if h:u<128 then [(u:Int)] else ((u%128+128:Nat):Int)::aA1 (u/128)
termination_by u
decreasing_by omega
theorem bF6 {u:Nat} (h:u<128):aA1 u= [(u:Int)]:=by rw [aA1,dif_pos h]
theorem bE1 {u:Nat} (h:128≤u):aA1 u=((u%128+128:Nat):Int)::aA1 (u/128):=by rw [aA1,dif_neg (by omega)]
theorem cY1:∀(k u:Nat),u<2^(7*k)→0<k→(aA1 u).length≤k
 | 0,_,_,h=>absurd h (by simp)
 | k+1,u,h,_=>by
  by_cases hu:u<128
  ·rw [bF6 hu];simp
  ·rw [bE1 (by omega)]
   have h' :u/128<2^(7*k):=by
    rw [Nat.div_lt_iff_lt_mul (by decide)]
    have:2^(7*(k+1))=2^(7*k)*128:=by rw [Nat.mul_succ,Nat.pow_add]
    omega
   have hk:0<k:=by
    rcases Nat.eq_zero_or_pos k with rfl | hk
    ·simp at h;omega
    ·exact hk
   have:=cY1 k _ h' hk
   simp;omega
theorem dF8 {u:Nat} (h:u<18446744073709551616):(aA1 u).length≤10:=cY1 10 u (by
 have:(2:Nat)^(7*10)=1180591620717411303424:=by decide
 omega) (by decide)
theorem dA6:∀(u:Nat),∀c∈aA1 u,0≤c∧c≤255:=by
 intro u
 induction u using Nat.strongRecOn with
 | ind u ih=>
  intro c hc
  by_cases h:u<128
  ·rw [bF6 h] at hc;simp at hc;omega
  ·rw [bE1 (by omega)] at hc
   rcases List.mem_cons.1 hc with rfl | hc
   ·omega
   ·exact ih _ (by omega) c hc
def vd:Nat→List Int→Int⊕(Nat×Nat)
 | _,[]=> .inl 11
 | i,c::l=>if (i=9∧1<c)∨(c=0∧0<i) then .inl 12 else if c<128 then .inr (c.toNat,1) else
  match vd (i+1) l with
  | .inl e=> .inl e
  | .inr (u,k)=> .inr (c.toNat-128+128*u,k+1)
def vS (c:Nat) (r:Int⊕(Nat×Nat)):Int⊕(Nat×Nat):=match r with
 | .inl e=> .inl e
 | .inr (u,k)=> .inr (c-128+128*u,k+1)
theorem dM9 (i:Nat) (c:Int) (l:List Int):vd i (c::l)=if (i=9∧1<c)∨(c=0∧0<i) then .inl 12 else if c<128 then .inr (c.toNat,1) else vS c.toNat (vd (i+1) l):=by
 simp only [vd]
 split
 ·rfl
 ·split
  ·rfl
  ·unfold vS;cases vd (i+1) l<;>rfl
theorem da9 {i:Nat} (h:i≤8):2^(64-7*i)=2^(64-7*(i+1))*128:=by
 rw [show 64-7*i=(64-7*(i+1))+7 by omega,Nat.pow_add]
theorem dT8:∀(u i:Nat) (rest:List Int),i≤9→u<2^(64-7*i)→(0<u∨i=0)→vd i (aA1 u++rest)= .inr (u,(aA1 u).length):=by
 intro u
 induction u using Nat.strongRecOn with
 | ind u ih=>
  intro i rest hi hu h0
  by_cases h:u<128
  ·rw [bF6 h]
   simp only [List.cons_append,List.nil_append,vd]
   rw [if_neg,if_pos (by omega)]
   ·simp
   ·rintro (⟨rfl,h1⟩ | ⟨h1,h2⟩)
    ·simp at hu;omega
    ·omega
  ·have hi8:i≤8:=by
    rcases Nat.lt_or_ge i 9 with h | h
    ·omega
    ·have:i=9:=by omega
     subst this
     simp at hu;omega
   rw [bE1 (by omega)]
   simp only [List.cons_append,vd]
   have hu' :u/128<2^(64-7*(i+1)):=by
    rw [Nat.div_lt_iff_lt_mul (by decide),←da9 hi8];exact hu
   rw [if_neg,if_neg (by omega),ih (u/128) (by omega) (i+1) rest (by omega) hu' (.inl (by omega))]
   ·simp;omega
   ·rintro (⟨rfl,h1⟩ | ⟨h1,h2⟩)<;>omega
theorem dy3:∀(l:List Int) (i u k:Nat),i≤9→(∀c∈l,0≤c∧c≤255)→vd i l= .inr (u,k)→l.take k=aA1 u∧k≤l.length∧k=(aA1 u).length∧u<2^(64-7*i)∧(0<i→0<u)
 | [],_,_,_,_,_,h=>by simp [vd] at h
 | c::l,i,u,k,hi,hb,h=>by
  simp only [vd] at h
  have hc:=hb c (by simp)
  split at h
  ·cases h
  ·rename_i hno
   simp only [not_or,not_and] at hno
   split at h
   ·rename_i hlt
    simp only [Sum.inr.injEq,Prod.mk.injEq] at h
    obtain ⟨rfl,rfl⟩:=h
    have hv:aA1 c.toNat= [c]:=by rw [bF6 (by omega),Int.toNat_of_nonneg hc.1]
    refine ⟨by rw [hv];simp,by simp,by rw [hv];rfl,?_,fun h=> ?_⟩
    ·rcases Nat.lt_or_ge i 9 with h9 | h9
     ·have:2^8≤2^(64-7*i):=Nat.pow_le_pow_right (by decide) (by omega)
      omega
     ·have:i=9:=by omega
      subst this
      have:=hno.1 rfl
      simp;omega
    ·have:=hno.2;omega
   ·rename_i hge
    split at h
    ·cases h
    ·rename_i u' k' hv
     simp only [Sum.inr.injEq,Prod.mk.injEq] at h
     obtain ⟨rfl,rfl⟩:=h
     have hi8:i≤8:=by
      rcases Nat.lt_or_ge i 9 with h9 | h9
      ·omega
      ·have:i=9:=by omega
       have:=hno.1 this
       omega
     obtain ⟨h1,h2,h3,h4,h5⟩:=dy3 l (i+1) u' k' (by omega) (fun c hc=>hb c (by simp [hc])) hv
     have h5:=h5 (by omega)
     have e1:(c.toNat-128+128*u')/128=u' :=by omega
     have e2:(c.toNat-128+128*u')%128+128=c.toNat:=by omega
     have hven:aA1 (c.toNat-128+128*u')=c::aA1 u' :=by
      rw [bE1 (by omega),e1,e2,Int.toNat_of_nonneg hc.1]
     refine ⟨by rw [hven,List.take_succ_cons,h1],by simp;omega,by rw [hven];simp;omega,?_,fun _=>by omega⟩
     rw [da9 hi8]
     omega
theorem dA5:∀(l:List Int) (i:Nat) (e:Int),vd i l= .inl e→e=11∨e=12
 | [],_,e,h=>by simp [vd] at h;exact .inl h.symm
 | c::l,i,e,h=>by
  simp only [vd] at h
  split at h
  ·simp at h;exact .inr h.symm
  ·split at h
   ·cases h
   ·split at h
    ·rename_i e' hv
     obtain rfl:=Sum.inl.inj h
     exact dA5 l _ _ hv
    ·cases h
/-! ### numbers -/
def ag1 (n:Int):List Int:=aA1 (zz n)
def pI (l:List Int):Int⊕(Int×Nat):=match vd 0 l with | .inl e=> .inl e | .inr (u,k)=> .inr (bz5 u,k)
abbrev s9 (l:List Int):Prop:=∀c∈l,0≤c∧c≤255
theorem aO5 {n:Int} (h:n8 .i64 n):(ag1 n).length≤10:=dF8 (dm3 h)
theorem bL7 (n:Int):s9 (ag1 n):=dA6 _
theorem db3 {n:Int} (h:n8 .i64 n) (rest:List Int):pI (ag1 n++rest)= .inr (n,(ag1 n).length):=by
 unfold pI ag1
 rw [dT8 (zz n) 0 rest (by omega) (by have:=dm3 h;simpa using this) (.inr rfl)]
 simp [dM0]
theorem bT6 {l:List Int}{n:Int}{k:Nat} (hb:s9 l) (h:pI l= .inr (n,k)):l.take k=ag1 n∧k≤l.length∧k=(ag1 n).length∧n8 .i64 n:=by
 unfold pI at h
 split at h
 ·cases h
 ·rename_i u k' hv
  simp only [Sum.inr.injEq,Prod.mk.injEq] at h
  obtain ⟨rfl,rfl⟩:=h
  obtain ⟨h1,h2,h3,h4,_⟩:=dy3 l 0 u k' (by omega) hb hv
  unfold ag1
  rw [dR0]
  exact ⟨h1,h2,h3,dS3 (by simpa using h4)⟩
theorem dx2 {l:List Int}{e:Int} (h:pI l= .inl e):e=11∨e=12:=by
 unfold pI at h
 split at h
 ·rename_i e' hv
  obtain rfl:=Sum.inl.inj h
  exact dA5 _ _ _ hv
 ·cases h
/-! ### lists -/
def pN:Nat→List Int→Int⊕(List Int×Nat)
 | 0,_=> .inr ([],0)
 | n+1,l=>match pI l with
  | .inl e=> .inl e
  | .inr (x,k)=>(match pN n (l.drop k) with
   | .inl e=> .inl e
   | .inr (xs,m)=> .inr (x::xs,k+m))
def pL (l:List Int):Int⊕(List Int×Nat):=match pI l with
 | .inl e=> .inl e
 | .inr (n,k)=>if n<0∨n>64 then .inl 2 else (match pN n.toNat (l.drop k) with
  | .inl e=> .inl e
  | .inr (xs,m)=> .inr (xs,k+m))
def pS (x:Int) (k:Nat) (r:Int⊕(List Int×Nat)):Int⊕(List Int×Nat):=match r with
 | .inl e=> .inl e
 | .inr (xs,m)=> .inr (x::xs,k+m)
def pK (k:Nat) (r:Int⊕(List Int×Nat)):Int⊕(List Int×Nat):=match r with
 | .inl e=> .inl e
 | .inr (xs,m)=> .inr (xs,k+m)
theorem dW2 {n:Nat}{l:List Int}{e:Int} (h:pI l= .inl e):pN (n+1) l= .inl e:=by simp only [pN,h]
theorem dX5 {n:Nat}{l:List Int}{x:Int}{k:Nat} (h:pI l= .inr (x,k)):pN (n+1) l=pS x k (pN n (l.drop k)):=by
 simp only [pN,h];unfold pS;cases pN n (l.drop k)<;>rfl
theorem dW7 {l:List Int}{e:Int} (h:pI l= .inl e):pL l= .inl e:=by simp only [pL,h]
theorem dX3 {l:List Int}{n:Int}{k:Nat} (h:pI l= .inr (n,k)) (hn:n<0∨n>64):pL l= .inl 2:=by simp only [pL,h,if_pos hn]
theorem dY9 {l:List Int}{n:Int}{k:Nat} (h:pI l= .inr (n,k)) (hn:¬(n<0∨n>64)):pL l=pK k (pN n.toNat (l.drop k)):=by
 simp only [pL,h,if_neg hn];unfold pK;cases pN n.toNat (l.drop k)<;>rfl
def ad4 (xs:List Int):List Int:=xs.flatMap ag1
def encL (xs:List Int):List Int:=ag1 (xs.length:Int)++ad4 xs
abbrev as9 (l:List Int):Prop:=∀x∈l,n8 .i64 x
theorem bZ4 {n:Nat} (h:n≤1000000):n8 .i64 (n:Int):=ac2.2 (by omega)
theorem do9 (xs:List Int):s9 (ad4 xs):=fun c hc=>by
 obtain ⟨x,_,h⟩:=List.mem_flatMap.1 hc
 exact bL7 x c h
theorem bk6 (xs:List Int):s9 (encL xs):=fun c hc=>(List.mem_append.1 hc).elim (bL7 _ c) (do9 xs c)
theorem ci1:∀{xs:List Int},as9 xs→(ad4 xs).length≤10*xs.length
 | [],_=>by simp [ad4]
 | x::xs,h=>by
  have h1:=aO5 (h x (by simp))
  have h2:=ci1 (xs:=xs) fun y hy=>h y (by simp [hy])
  simp only [ad4,List.flatMap_cons,List.length_append,List.length_cons] at h2 ⊢
  omega
theorem ap8 {xs:List Int} (h:as9 xs) (hl:xs.length≤64):(encL xs).length≤650:=by
 have h1:=aO5 (bZ4 (n:=xs.length) (by omega))
 have h2:=ci1 h
 simp only [encL,List.length_append]
 omega
theorem dw1:∀(xs rest:List Int),as9 xs→pN xs.length (ad4 xs++rest)= .inr (xs,(ad4 xs).length)
 | [],rest,_=>rfl
 | x::xs,rest,h=>by
  have ih:=dw1 xs rest fun y hy=>h y (by simp [hy])
  simp only [ad4,List.flatMap_cons,List.length_cons,pN,List.append_assoc] at ih ⊢
  rw [db3 (h x (by simp))]
  simp only [List.drop_left,ih,List.length_append]
theorem dt2:∀(n:Nat) (l xs:List Int) (k:Nat),s9 l→pN n l= .inr (xs,k)→l.take k=ad4 xs∧k≤l.length∧k=(ad4 xs).length∧xs.length=n∧as9 xs
 | 0,l,xs,k,_,h=>by
  simp only [pN,Sum.inr.injEq,Prod.mk.injEq] at h
  obtain ⟨rfl,rfl⟩:=h
  exact ⟨by simp [ad4],by simp,by simp [ad4],rfl,fun x hx=>by simp at hx⟩
 | n+1,l,xs,k,hb,h=>by
  simp only [pN] at h
  split at h
  ·cases h
  ·rename_i x k1 hx
   split at h
   ·cases h
   ·rename_i ys m hys
    simp only [Sum.inr.injEq,Prod.mk.injEq] at h
    obtain ⟨rfl,rfl⟩:=h
    obtain ⟨a1,a2,a3,a4⟩:=bT6 hb hx
    obtain ⟨b1,b2,b3,b4,b5⟩:=dt2 n _ _ _ (fun c hc=>hb c (List.mem_of_mem_drop hc)) hys
    simp only [List.length_drop] at b2
    refine ⟨?_,by omega,?_,by simp [b4],fun y hy=> ?_⟩
    ·simp only [ad4,List.flatMap_cons] at b1 ⊢
     rw [←a1,←b1,List.take_add]
    ·simp only [ad4,List.flatMap_cons,List.length_append] at b3 ⊢;omega
    ·rcases List.mem_cons.1 hy with rfl | hy
     ·exact a4
     ·exact b5 y hy
theorem bQ1 {xs:List Int} (h:as9 xs) (hl:xs.length≤64) (rest:List Int):pL (encL xs++rest)= .inr (xs,(encL xs).length):=by
 unfold pL encL
 rw [List.append_assoc,db3 (bZ4 (n:=xs.length) (by omega))]
 simp only []
 rw [if_neg (by omega)]
 simp only [List.drop_left,Int.toNat_natCast,dw1 xs rest h,List.length_append]
theorem br8 {l xs:List Int}{k:Nat} (hb:s9 l) (h:pL l= .inr (xs,k)):l.take k=encL xs∧k≤l.length∧k=(encL xs).length∧xs.length≤64∧as9 xs:=by
 unfold pL at h
 split at h
 ·cases h
 ·rename_i n k1 hn
  split at h
  ·cases h
  ·rename_i hno
   split at h
   ·cases h
   ·rename_i ys m hys
    simp only [Sum.inr.injEq,Prod.mk.injEq] at h
    obtain ⟨rfl,rfl⟩:=h
    obtain ⟨a1,a2,a3,a4⟩:=bT6 hb hn
    obtain ⟨b1,b2,b3,b4,b5⟩:=dt2 _ _ _ _ (fun c hc=>hb c (List.mem_of_mem_drop hc)) hys
    simp only [List.length_drop] at b2
    have e:n=(ys.length:Int):=by omega
    unfold encL
    rw [←e]
    exact ⟨by rw [←a1,←b1,List.take_add],by omega,by rw [List.length_append];omega,by omega,b5⟩
end Go.RX

namespace Go.RX
open Go
theorem cp3 {n:Nat} (h:n<256):(BitVec.ofInt IntKind.u8.bits (n:Int)).toNat=n:=by
 rw [BitVec.ofInt_natCast,show IntKind.u8.bits=8 from rfl,BitVec.toNat_ofNat,Nat.mod_eq_of_lt (by omega)]
theorem cY0 {n:Nat} (h:n<256):IntKind.u8.wrap (n:Int)=n:=wU8 (by omega) (by omega)
theorem dY0 {c:Nat} (h:c<256):l6 .u8 c 127=((c%128:Nat):Int):=by
 unfold l6
 rw [show (127:Int)=((127:Nat):Int) from rfl,BitVec.toNat_and,cp3 h,cp3 (by omega),show (127:Nat)=2^7-1 from rfl,Nat.and_two_pow_sub_one_eq_mod,cY0 (by omega)]
theorem dY8 {u:Nat} (h:u<18446744073709551616):l6 .u64 u 1=((u%2:Nat):Int):=by
 rw [show (1:Int)=((1:Nat):Int) from rfl,bs6 h (by omega),show (1:Nat)=2^1-1 from rfl,Nat.and_two_pow_sub_one_eq_mod]
theorem eb3 {a:Nat} (h:a<256):orI .u8 a 128=((a%128+128:Nat):Int):=by
 have key:∀a,a<256→a ||| 128=a%128+128:=by decide+kernel
 unfold orI
 rw [show (128:Int)=((128:Nat):Int) from rfl,BitVec.toNat_or,cp3 h,cp3 (by omega),key a h,cY0 (by omega)]
theorem av3 (u:Nat):IntKind.u8.wrap (u:Int)=((u%256:Nat):Int):=by
 simp only [IntKind.wrap,IntKind.signed,IntKind.bits]
 simp
theorem ee0 (u:Nat):n4 .u64 u 7=((u/128:Nat):Int):=bR9 (a:=u) (k:=7) (by decide)
theorem ee5 (u:Nat):n4 .u64 u 1=((u/2:Nat):Int):=bR9 (a:=u) (k:=1) (by decide)
theorem dV4 {u p s:Nat} (hu:u<2^s) (hp:u+p*2^s<18446744073709551616) (hs:s≤64):orI .u64 u (F0 .u64 p s)=((u+p*2^s:Nat):Int):=by
 have h1:F0 .u64 p s=((p*2^s:Nat):Int):=by
  unfold F0
  have e:min (s:Int).toNat IntKind.u64.bits=s:=by simp [IntKind.bits];omega
  rw [e,show ((p:Int)*(2:Int)^s)=((p*2^s:Nat):Int) by norm_cast,aH1 (by omega)]
 have hu' :u<18446744073709551616:=by omega
 rw [h1,bY8 hu' (by omega)]
 congr 1
 rw [Nat.or_comm,Nat.mul_comm,←Nat.two_pow_add_eq_or_of_lt hu,Nat.mul_comm,Nat.add_comm]
theorem bc2 (n:Nat) (h:n<18446744073709551616):IntKind.i64.wrap (n:Int)=if n<9223372036854775808 then (n:Int) else (n:Int)-18446744073709551616:=by
 simp only [IntKind.wrap,IntKind.signed,IntKind.bits]
 simp
 split<;>split<;>omega
theorem dt3 {n:Nat} (h:n<9223372036854775808):(BitVec.ofInt IntKind.i64.bits (n:Int)).toNat=n:=by
 rw [BitVec.ofInt_natCast,show IntKind.i64.bits=64 from rfl,BitVec.toNat_ofNat,Nat.mod_eq_of_lt (by omega)]
theorem dQ0 {n:Nat} (h:n<9223372036854775808):P1 .i64 n (-1)= -(n:Int)-1:=by
 unfold P1
 have e:BitVec.ofInt IntKind.i64.bits (-1)=BitVec.allOnes IntKind.i64.bits:=by decide
 rw [e,BitVec.xor_allOnes,BitVec.toNat_not,dt3 h,show IntKind.i64.bits=64 from rfl,bc2 _ (by omega),if_neg (by omega)]
 omega
theorem xor_zero {n:Nat} (h:n<9223372036854775808):P1 .i64 n 0=n:=by
 unfold P1
 have e:BitVec.ofInt IntKind.i64.bits 0=0#_:=by decide
 rw [e,BitVec.xor_zero,dt3 h,bc2 _ (by omega),if_pos h]
theorem dC5 {u:Nat} (h:u<18446744073709551616):P1 .i64 (IntKind.i64.wrap (n4 .u64 u 1)) (IntKind.i64.wrap ((0:Int)-(IntKind.i64.wrap (l6 .u64 u 1))))=bz5 u:=by
 rw [ee5,dY8 h,u7 (n:=((u/2:Nat):Int)) (by omega) (by omega),u7 (n:=((u%2:Nat):Int)) (by omega) (by omega)]
 unfold bz5
 rcases Nat.mod_two_eq_zero_or_one u with h1 | h1
 ·rw [h1,if_pos rfl]
  simp only [Int.natCast_zero,Int.sub_zero]
  rw [u7 (by omega) (by omega),xor_zero (by omega)]
 ·rw [h1,if_neg (by omega)]
  rw [u7 (by omega) (by omega),show (0:Int)-((1:Nat):Int)= -1 by omega,dQ0 (by omega)]
theorem dW8 (n:Int):IntKind.u64.wrap (IntKind.i64.wrap n)=n%18446744073709551616:=by
 simp only [IntKind.wrap,IntKind.signed,IntKind.bits]
 simp
 split<;>omega
theorem dv4 {n:Nat} (h:n<18446744073709551616):P1 .u64 n 0=n:=by
 unfold P1
 have e:BitVec.ofInt IntKind.u64.bits 0=0#_:=by decide
 rw [e,BitVec.xor_zero,aQ4 h,aH1 h]
theorem dy8 {n:Nat} (h:n<18446744073709551616):P1 .u64 n 18446744073709551615=((18446744073709551615-n:Nat):Int):=by
 unfold P1
 have e:BitVec.ofInt IntKind.u64.bits 18446744073709551615=BitVec.allOnes IntKind.u64.bits:=by decide
 rw [e,BitVec.xor_allOnes,BitVec.toNat_not,aQ4 h,show IntKind.u64.bits=64 from rfl,show 2^64-1-n=18446744073709551615-n by omega,aH1 (by omega)]
theorem dU3 {t:Int} (h:n8 .i64 t):P1 .u64 (IntKind.u64.wrap (F0 .i64 t 1)) (IntKind.u64.wrap (n4 .i64 t 63))=(zz t:Int):=by
 have ht:=ac2.1 h
 have e1:IntKind.u64.wrap (F0 .i64 t 1)=(t*2)%18446744073709551616:=by
  unfold F0
  rw [show min (1:Int).toNat IntKind.i64.bits=1 from rfl,dW8,show (2:Int)^1=2 from rfl]
 have e2:n4 .i64 t 63=if 0≤t then 0 else-1:=by
  unfold n4
  rw [show min (63:Int).toNat IntKind.i64.bits=63 from rfl]
  have e63:(2:Int)^63=9223372036854775808:=rfl
  rw [e63,Int.fdiv_eq_ediv_of_nonneg _ (by omega)]
  split<;>omega
 rw [e1,e2]
 unfold zz
 split
 ·rename_i h0
  obtain ⟨n,rfl⟩:=Int.eq_ofNat_of_zero_le h0
  rw [show IntKind.u64.wrap 0=0 from rfl,show ((n:Int)*2)%18446744073709551616=((2*n:Nat):Int) by omega,dv4 (by omega)]
  simp
 ·rename_i h0
  obtain ⟨n,hn⟩:=Int.eq_ofNat_of_zero_le (show 0≤ -t by omega)
  have:t= -(n:Int):=by omega
  subst this
  rw [show IntKind.u64.wrap (-1)=18446744073709551615 from rfl,show (-(n:Int)*2)%18446744073709551616=((18446744073709551616-2*n:Nat):Int) by omega,dy8 (by omega)]
  congr 1
  simp
  omega
end Go.RX

namespace Go.RX.L
open Go Go.RX Go.Proofs
attribute [local irreducible] f6
noncomputable def bB0:=p8 (q0 Tryz.f121)
noncomputable def bF1 (y:Int×(List Int)):D×f4:=(.tup [(f5 0 (List.map (d7 .u8) y.2)),.int .i64 y.1],[some ⟨1,false,(List.map (d7 .u8) y.2)⟩])
inductive at5 where
 | s0 (l_:List Int)
 | s1 (t13:List Int) (t14 t15:Int) (b:List Int)
noncomputable def bE5:at5→M
 | .s0 l_=>A5 Tryz.f121 [.sl false 1 (List.map (d7 .i64) l_)] []
 | .s1 t13 t14 t15 b=>⟨[.lpc (bB0 [1,1,1,0,1,0,0]) 57360,.blk 0,.code (bB0 [1,1,1,1])],[(4,(f5 0 (List.map (d7 .u8) b))),(13,.sl false 1 (List.map (d7 .i64) t13)),(14,.int .i64 t14),(15,.int .i64 t15)],[some ⟨1,false,(List.map (d7 .u8) b)⟩]⟩
abbrev bF7:=SOk E (Cx.of Tryz.f121 true 0) bF1 bE5
noncomputable def aH4 (l_:List Int):Option (at5⊕(Int×(List Int))):=(bif (decide (((((List.map (d7 .i64) l_).length:Nat):Int):Int)>64)) then (some (.inr (2,[]))) else ((az3 (((List.map (d7 .i64) l_).length:Nat):Int)).bind fun y2=>(some (.inl (.s1 l_ (((List.map (d7 .i64) l_).length:Nat):Int) 0 y2)))))
noncomputable def as3 (t13:List Int) (t14 t15:Int) (b:List Int):Option (at5⊕(Int×(List Int))):=(bif (decide ((t15:Int)<t14)) then (bif ((decide ((0:Int)≤t15))&&(decide ((t15:Int)<(((List.map (d7 .i64) t13).length:Nat):Int)))) then (((t13)[t15.toNat]?).bind fun y3=>((bb0 y3 b).bind fun y5=>(some (.inl (.s1 t13 t14 (IntKind.i64.wrap (t15+1)) y5))))) else none) else (some (.inr (0,b))))
noncomputable def ae0:at5→Option (at5⊕(Int×(List Int)))
 | .s0 l_=>aH4 l_
 | .s1 t13 t14 t15 b=>as3 t13 t14 t15 b
theorem cc4 {l_}:bF7 (.s0 l_) (aH4 l_):=by
 intro r x h ha;unfold aH4 at h
 refine zs 13 h (fun h=> ?_) fun h=> ?_
 ·
  exact zt 6 h ha [.matt 0 0 1]
 refine zc 6 [] h (fun _=>bE3) fun y2 h=> ?_
 exact zj 12 h ha
theorem cd3 {t13 t14 t15 b}:bF7 (.s1 t13 t14 t15 b) (as3 t13 t14 t15 b):=by
 intro r x h ha;unfold as3 at h
 refine zs 7 h (fun h=> ?_) fun h=> ?_
 ·
  refine zn 6 h fun h=> ?_
  refine zr 1 (d7 .i64) h fun y3 h=> ?_
  refine zc 6 [] h (fun _=>cD3) fun y5 h=> ?_
  exact zj 8 h ha
 exact zt 8 h ha
noncomputable def aC1 (l_:List Int):Option (Int×(List Int)):=V6 ae0 (.s0 l_)
theorem aR7 {l_:List Int}{r:Int×(List Int)} (h:aC1 l_=some r):i0 E 121 [.sl false 1 (List.map (d7 .i64) l_)] [] (Rs bF1 r):=sc (fn:=Tryz.f121) (k:=true) (m:=0) (stM:=bE5) h fun s=>by
 cases s with
 | s0=>exact cc4
 | s1=>exact cd3
end Go.RX.L

namespace Go.RX.L
open Go Go.RX Go.Proofs
attribute [local irreducible] f6
noncomputable def ao7:=p8 (q0 Tryz.f118)
noncomputable def cf8 (y:(List Int)×Int×Int):D×f4:=(.tup [.sl false 1 (List.map (d7 .i64) y.1),.int .i64 y.2.1,.int .i64 y.2.2],[])
inductive az0 where
 | s0 (b:List Int) (at_:Int)
 | s1 (b:List Int) (next e:Int) (t19 t20:Int) (out:List Int)
 | s2 (next e:Int) (out:List Int)
noncomputable def cg9:az0→M
 | .s0 b at_=>A5 Tryz.f118 [.sl false 1 (List.map (d7 .u8) b),.int .i64 at_] []
 | .s1 b next e t19 t20 out=>⟨[.lpc (ao7 [1,1,1,0,1,0,0]) 1574657,.blk 0,.code (ao7 [1,1,1,1])],[(0,.sl false 1 (List.map (d7 .u8) b)),(8,.int .i64 next),(9,.int .i64 e),(10,(f5 0 (List.map (d7 .i64) out))),(19,.int .i64 t19),(20,.int .i64 t20)],[some ⟨1,false,(List.map (d7 .i64) out)⟩]⟩
 | .s2 next e out=>⟨[.code (ao7 [1,1,1,1])],[(8,.int .i64 next),(9,.int .i64 e),(10,(f5 0 (List.map (d7 .i64) out)))],[some ⟨1,false,(List.map (d7 .i64) out)⟩]⟩
abbrev bz8:=SOk E (Cx.of Tryz.f118 false 0) cf8 cg9
noncomputable def bc3 (b:List Int) (at_:Int):Option (az0⊕((List Int)×Int×Int)):=((J6 b at_ 64).bind fun y1=>(some (.inl (.s1 b y1.2.1 y1.2.2 y1.1 0 ([])))))
noncomputable def ap7 (b:List Int) (next e:Int) (t19 t20:Int) (out:List Int):Option (az0⊕((List Int)×Int×Int)):=(bif (decide ((t20:Int)<t19)) then ((bJ3 b next).bind fun y2=>(bif ((y2.2.2:Int) !=0) then (some (.inl (.s2 y2.2.1 y2.2.2 out))) else (bif (decide (((List.map (d7 .i64) out).length+1)*8≤i6)) then (some (.inl (.s1 b y2.2.1 y2.2.2 t19 (IntKind.i64.wrap (t20+1)) (out++ [y2.1])))) else none))) else (some (.inl (.s2 next e out))))
noncomputable def az9 (next e:Int) (out:List Int):Option (az0⊕((List Int)×Int×Int)):=(bif ((e:Int) !=0) then (some (.inr ([],0,e))) else (some (.inr (out,next,0))))
noncomputable def I4:az0→Option (az0⊕((List Int)×Int×Int))
 | .s0 b at_=>bc3 b at_
 | .s1 b next e t19 t20 out=>ap7 b next e t19 t20 out
 | .s2 next e out=>az9 next e out
theorem cy9 {b at_}:bz8 (.s0 b at_) (bc3 b at_):=by
 intro r x h ha;unfold bc3 at h
 refine zc 11 [] h (fun _=>bO3) fun y1 h=> ?_
 refine l8 hm 21 _ ?_
 obtain rfl:=Option.some.inj h
 refine am7 1574657 [.mat 10 1] (m' :=⟨[.lpc (ao7 [1,1,1,0,1,0,0]) 1574657,.blk 0,.code (ao7 [1,1,1,1])],[(0,.sl false 1 (List.map (d7 .u8) b)),(8,.int .i64 y1.2.1),(9,.int .i64 y1.2.2),(10,.msl 0 0 0 0 false),(19,.int .i64 y1.1),(20,.int .i64 0)],[some ⟨1,false,[]⟩]⟩) (by kernel_rfl) ?_
 refine Z2 (n1:=0) (n2:=(List.map (d7 .i64) ([])).length) (fun n_len=> .go ⟨[.lpc (ao7 [1,1,1,0,1,0,0]) 1574657,.blk 0,.code (ao7 [1,1,1,1])],[(0,.sl false 1 (List.map (d7 .u8) b)),(8,.int .i64 y1.2.1),(9,.int .i64 y1.2.2),(10,.msl 0 0 n_len n_len false),(19,.int .i64 y1.1),(20,.int .i64 0)],[some ⟨1,false,[]⟩]⟩) (by simp) ?_
 exact ha
theorem cy8 {b next e t19 t20 out}:bz8 (.s1 b next e t19 t20 out) (ap7 b next e t19 t20 out):=by
 intro r x h ha;unfold ap7 at h
 refine zs 7 h (fun h=> ?_) fun h=> ?_
 ·
  refine zc 13 [] h (fun _=>cg0) fun y2 h=> ?_
  refine zs 14 h (fun h=> ?_) fun h=> ?_
  ·
   exact zk 1 h ha
  refine zn 7 h fun h=> ?_
  refine za 0 (d7 .i64) out ([y2.1]) ?_
  exact zj 8 h ha
 exact zk 1 h ha
theorem cD7 {next e out}:bz8 (.s2 next e out) (az9 next e out):=by
 intro r x h ha;unfold az9 at h
 refine zs 7 h (fun h=> ?_) fun h=> ?_
 ·
  exact zt 8 h ha [.slot 0 [some 1]]
 refine zm 10 (b:=(Nat.ble (0+(List.map (d7 .i64) out).length) ((List.map (d7 .i64) out).length))) (v6 _) ?_
 obtain rfl:=Option.some.inj h
 have hv:=ha
 simp only [aT9] at hv
 subst hv
 exact au1 [] (d1:= .tup [.sl false 1 (List.take ((List.map (d7 .i64) out).length) (List.drop 0 (List.map (d7 .i64) out))),.int .i64 next,.int .i64 0]) (d:= .tup [.sl false 1 (List.map (d7 .i64) out),.int .i64 next,.int .i64 0]) (s1:= []) (s:= []) (by kernel_rfl) ⟨by simp [d8.enc,d8.l,i7.enc,i7.l,p5.enc,p5.l,r6.enc,r6.l,e9.enc,e9.l,Op.enc,Op.l,Plan.enc,Plan.l,r9.enc,r9.l,i8.enc,i8.l,p7.enc,p7.l,m8.enc,m8.l,d9.enc,d9.l,List.take_of_length_le,List.map_take,List.map_drop],rfl⟩ ⟨rfl,rfl⟩ Cx.fin_of
noncomputable def aQ7 (b:List Int) (at_:Int):Option ((List Int)×Int×Int):=V6 I4 (.s0 b at_)
theorem bX6 {b:List Int}{at_:Int}{r:(List Int)×Int×Int} (h:aQ7 b at_=some r):i0 E 118 [.sl false 1 (List.map (d7 .u8) b),.int .i64 at_] [] (Rs cf8 r):=sc (fn:=Tryz.f118) (k:=false) (m:=0) (stM:=cg9) h fun s=>by
 cases s with
 | s0=>exact cy9
 | s1=>exact cy8
 | s2=>exact cD7
end Go.RX.L

namespace Go.RX.L
open Go Go.RX
abbrev G1:Nat:=140737488351232
/-! ### the program's writer -/
theorem dp2:∀(u:Nat),u<18446744073709551616→EvL aa2 (.s1 u) (aA1 u):=by
 intro u
 induction u using Nat.strongRecOn with
 | ind u ih=>
  intro hu
  by_cases h:u<128
  ·rw [bF6 h]
   refine .done ?_
   have h1:decide ((u:Int)>127)=false:=by simp;omega
   simp [aa2,am4,h1,cY0 (show u<256 by omega)]
  ·rw [bE1 (by omega)]
   have h1:decide ((u:Int)>127)=true:=by simp;omega
   refine EvL.next (l:= [((u%128+128:Nat):Int)]) (s' := .s1 ((u/128:Nat):Int)) ?_ (ih (u/128) (by omega) (by omega))
   simp only [aa2,am4,h1,cond_true,ee0,av3,eb3 (show u%256<256 by omega)]
   simp
theorem cJ4 {n:Int} (h:n8 .i64 n):al8 n=some (ag1 n):=by
 refine bz9 ?_
 have:=dp2 (zz n) (dm3 h)
 rw [←dU3 h] at this
 exact EvL.next (l:= []) rfl this
theorem cZ1 {t:Int}:∀(Y b:List Int),b.length+Y.length≤G1→Ev ad8 (.s2 t b Y) (b++Y)
 | [],b,_=> .done (by simp [ad8,bn5,bc5])
 | y::Y,b,h=>by
  simp only [List.length_cons,G1] at h
  have hl:decide (((List.map (d7 .u8) b).length+1)*1≤i6)=true:=C7 (by simp;omega)
  have ih:=cZ1 (t:=t) Y (b++ [y]) (by simp only [List.length_append,List.length_cons,List.length_nil,G1];omega)
  rw [List.append_assoc] at ih
  exact .next (s' := .s2 t (b++ [y]) Y) (by simp only [ad8,bn5,bc1,hl,cond_true]) ih
theorem dT5 {n:Int} (h:n8 .i64 n):cj2 n=some (ag1 n):=by
 have hl:=aO5 h
 refine u6 (.next (s' := .s1 n []) (by simp [ad8,bm7,az1]) (.next (s' := .s2 n [] (ag1 n)) (by simp [ad8,bl2,cJ4 h]) ?_))
 exact cZ1 (ag1 n) [] (by simp [G1];omega)
theorem cG7 {n:Int} (h:n8 .i64 n):az3 n=some (ag1 n):=by simp [az3,dT5 h]
theorem cJ1 {t:Int}:∀(Y b:List Int),b.length+Y.length≤G1→Ev S3 (.s2 t b Y) (b++Y)
 | [],b,_=> .done (by simp [S3,aM9,aI9])
 | y::Y,b,h=>by
  simp only [List.length_cons,G1] at h
  have hl:decide (((List.map (d7 .u8) b).length+1)*1≤i6)=true:=C7 (by simp;omega)
  have ih:=cJ1 (t:=t) Y (b++ [y]) (by simp only [List.length_append,List.length_cons,List.length_nil,G1];omega)
  rw [List.append_assoc] at ih
  exact .next (s' := .s2 t (b++ [y]) Y) (by simp only [S3,aM9,aI1,hl,cond_true]) ih
theorem cz6 {n:Int} (h:n8 .i64 n) {b:List Int} (hb:b.length≤1000000):bb0 n b=some (b++ag1 n):=by
 have hl:=aO5 h
 refine u6 (.next (s' := .s1 n b) (by simp [S3,aN3,az1]) (.next (s' := .s2 n b (ag1 n)) (by simp [S3,aN9,cJ4 h]) ?_))
 exact cJ1 (ag1 n) b (by simp [G1];omega)
theorem dr8 (xs:List Int) (x:Int):ad4 (xs++ [x])=ad4 xs++ag1 x:=by simp [ad4]
theorem bT8 {l:List Int}{k:Nat} (h:k<l.length):l.take (k+1)=l.take k++ [l[k]]:=by rw [List.take_add_one,List.getE h];rfl
theorem cS9 {l:List Int} (hl:as9 l) (h64:l.length≤64) (p:List Int) (hp:p.length≤10):∀(j k:Nat),k+j=l.length→Ev ae0 (.s1 l l.length k (p++ad4 (l.take k))) (0,p++ad4 l):=by
 intro j
 induction j with
 | zero=>
  intro k hk
  refine .done ?_
  rw [List.take_of_length_le (by omega)]
  simp [ae0,as3,show ¬((k:Int)<l.length) by omega]
 | succ j ih=>
  intro k hk
  have hlt:k<l.length:=by omega
  have hx:=hl l[k] (List.getElem_mem hlt)
  have hs:=ci1 (xs:=l.take k) fun y hy=>hl y (List.mem_of_mem_take hy)
  rw [List.length_take] at hs
  refine .next (s' := .s1 l l.length ((k+1:Nat):Int) (p++ad4 (l.take (k+1)))) ?_ (ih (k+1) (by omega))
  have e:cz6 hx (b:=p++ad4 (l.take k)) (by simp;omega)=cz6 hx (b:=p++ad4 (l.take k)) (by simp;omega):=rfl
  have e2:bb0 l[k] (p++ad4 (l.take k))=some (p++ad4 (l.take (k+1))):=by
   rw [cz6 hx (by simp only [List.length_append];omega),bT8 hlt,dr8,List.append_assoc]
  simp only [ae0,as3,List.length_map,E7 hlt,ixB hlt,L8,Bool.and_self,cond_true,Int.toNat_natCast,List.getE hlt,Option.bind_some,e2,wS (show k<9223372036854775807 by omega)]
theorem aS4 {l:List Int} (hl:as9 l) (h64:l.length≤64):aC1 l=some (0,encL l):=by
 have hn:=bZ4 (n:=l.length) (by omega)
 refine u6 (.next (s' := .s1 l l.length 0 (ag1 l.length)) ?_ ?_)
 ·have h1:decide ((l.length:Int)>64)=false:=by simp;omega
  simp only [ae0,aH4,List.length_map,h1,cond_false,cG7 hn,Option.bind_some]
 ·have:=cS9 hl h64 (ag1 l.length) (aO5 hn) l.length 0 (by omega)
  simpa [ad4,encL] using this
/-! ### the document's writer -/
/-! ### the program's reader -/
def rI (at_:Nat) (x:Int⊕(Int×Nat)):Int×Int×Int:=match x with
 | .inl e=>(0,0,e)
 | .inr (n,k)=>(n,((at_+k:Nat):Int),0)
def rV (at_ i:Nat) (u:Nat) (x:Int⊕(Nat×Nat)):Int×Int×Int:=match x with
 | .inl e=>(0,0,e)
 | .inr (v,k)=>(bz5 (u+v*2^(7*i)),((at_+i+k:Nat):Int),0)
theorem dW6 (i:Nat):2^(7*(i+1))=2^(7*i)*128:=by rw [Nat.mul_succ,Nat.pow_add]
theorem dF6 {i:Nat} (h:i≤8):2^(7*i)≤72057594037927936:=by
 have:2^(7*i)≤2^(7*8):=Nat.pow_le_pow_right (by decide) (by omega)
 simpa using this
theorem dN8 (at_ i u c:Nat) (r:Int⊕(Nat×Nat)) (h1:128≤c) (h2:c<256):rV at_ (i+1) (u+c%128*2^(7*i)) r=rV at_ i u (vS c r):=by
 cases r with
 | inl e=>rfl
 | inr p=>
  obtain ⟨v,k⟩:=p
  have e:c-128=c%128:=by omega
  simp only [rV,vS,e]
  have key:∀X:Nat,u+c%128*X+v*(X*128)=u+(c%128+128*v)*X:=fun X=>by
   have h3:v*(X*128)=128*v*X:=by rw [Nat.mul_comm X 128,←Nat.mul_assoc,Nat.mul_comm v 128]
   rw [Nat.add_mul];omega
  rw [dW6,key]
  refine Prod.ext rfl (Prod.ext ?_ rfl)
  show ((at_+(i+1)+k:Nat):Int)=((at_+i+(k+1):Nat):Int)
  omega
theorem dZ4 {u i c:Nat} (hu:u<2^(7*i)) (hi:i≤9) (hc:c<256) (h9:i=9→c≤1):orI .u64 u (F0 .u64 (IntKind.u64.wrap (l6 .u8 c 127)) ((7*i:Nat):Int))=((u+c%128*2^(7*i):Nat):Int)∧u+c%128*2^(7*i)<18446744073709551616∧(i≤8→u+c%128*2^(7*i)<2^(7*(i+1))):=by
 have hb:u+c%128*2^(7*i)<18446744073709551616:=by
  rcases Nat.lt_or_ge i 9 with h | h
  ·have:=dF6 (show i≤8 by omega)
   have:c%128*2^(7*i)≤127*2^(7*i):=Nat.mul_le_mul_right _ (by omega)
   omega
  ·have e:i=9:=by omega
   subst e
   have:=h9 rfl
   have h2:c%128≤1:=by omega
   have h3:c%128*2^(7*9)≤1*2^(7*9):=Nat.mul_le_mul_right _ h2
   simp at hu h3 ⊢
   omega
 refine ⟨?_,hb,fun _=> ?_⟩
 ·rw [dY0 hc,aH1 (by omega)]
  exact dV4 hu hb (by omega)
 ·rw [dW6]
  have:c%128*2^(7*i)≤127*2^(7*i):=Nat.mul_le_mul_right _ (by omega)
  omega
theorem dD1 {L:List Int} (hb:s9 L) (at_:Nat) (hm:at_+L.length≤G1):∀(j i u:Nat),i+j=L.length→i≤9→u<2^(7*i)→Ev D9 (.s2 at_ u ((7*i:Nat):Int) L L.length i) (rV at_ i u (vd i (L.drop i))):=by
 intro j
 induction j with
 | zero=>
  intro i u hi h9 hu
  rw [List.drop_eq_nil_of_le (by omega)]
  refine .done ?_
  simp [D9,aS2,vd,rV,show ¬((i:Int)<L.length) by omega]
 | succ j ih=>
  intro i u hi h9 hu
  have hlt:i<L.length:=by omega
  have hcb:=hb L[i] (List.getElem_mem hlt)
  obtain ⟨c,hc⟩:=Int.eq_ofNat_of_zero_le hcb.1
  rw [List.drop_eq_getElem_cons hlt,dM9]
  simp only [G1] at hm
  have e1:decide ((0:Int)≤i)=true:=by simp
  --the first step
  have s1:∀U,U=orI .u64 u (F0 .u64 (IntKind.u64.wrap (l6 .u8 L[i] 127)) ((7*i:Nat):Int))→D9 (.s2 at_ u ((7*i:Nat):Int) L L.length i)=some (.inl (.s4 at_ U ((7*i:Nat):Int) i L[i] L L.length i (decide (i=9∧1<L[i])))):=fun U hU=>by
   simp only [D9,aS2,List.length_map,E7 hlt,ixB hlt,L8,Bool.and_self,cond_true,Int.toNat_natCast,List.getE hlt,Option.bind_some,nn0,←hU]
   by_cases h:i=9
   ·subst h
    simp
   ·have:(((7*i:Nat):Int)==63)=false:=by simp;omega
    rw [this]
    simp [h]
  by_cases hlong:(i=9∧1<L[i])∨(L[i]=0∧0<i)
  ·rw [if_pos hlong]
   obtain ⟨U,hU⟩:∃U,U=orI .u64 u (F0 .u64 (IntKind.u64.wrap (l6 .u8 L[i] 127)) ((7*i:Nat):Int)):=⟨_,rfl⟩
   refine .next (s1 U hU) (.next (s' := .s3 at_ U ((7*i:Nat):Int) i L[i] L L.length i true) ?_ (.done (by simp [D9,aH7,rV])))
   by_cases h9:i=9∧1<L[i]
   ·simp only [D9,ax0,decide_eq_true h9,cond_true]
   ·have h0:=hlong.resolve_left h9
    simp only [D9,ax0,decide_eq_false h9,cond_false,h0.1]
    simp
    omega
  ·rw [if_neg hlong]
   have hn9:¬(i=9∧1<L[i]):=fun h=>hlong (.inl h)
   have hn0:¬(L[i]=0∧0<i):=fun h=>hlong (.inr h)
   have hc256:c<256:=by omega
   obtain ⟨a1,a2,a3⟩:=dZ4 hu h9 hc256 (fun h=>by omega)
   rw [←hc] at a1
   refine .next (s1 _ a1.symm) (.next (s' := .s3 at_ ((u+c%128*2^(7*i):Nat):Int) ((7*i:Nat):Int) i L[i] L L.length i false) ?_ ?_)
   ·have:decide (i=9∧1<L[i])=false:=by simpa using fun h=>by omega
    rw [this]
    by_cases h0:L[i]=0
    ·have:¬0<i:=fun h=>hn0 ⟨h0,h⟩
     simp [D9,ax0,h0]
     omega
    ·simp [D9,ax0,h0,beq_eq_false_iff_ne.2 h0]
   ·by_cases hlt128:L[i]<128
    ·rw [if_pos hlt128]
     refine .done ?_
     have hmod:c%128=c:=by omega
     simp only [D9,aH7,cond_false,decide_eq_true hlt128,cond_true,dC5 a2,rV]
     rw [u7 (n:=(at_:Int)+i) (by omega) (by omega),u7 (by omega) (by omega),hmod,hc]
     simp
    ·rw [if_neg hlt128]
     have hi8:i≤8:=by
      rcases Nat.lt_or_ge i 9 with h | h
      ·omega
      ·exact absurd ⟨show i=9 by omega,by omega⟩ hn9
     have:=ih (i+1) (u+c%128*2^(7*i)) (by omega) (by omega) (a3 hi8)
     have hres:=dN8 at_ i u c (vd (i+1) (L.drop (i+1))) (by omega) (by omega)
     rw [show L[i].toNat=c by omega]
     rw [←hres]
     refine .next (s' := .s2 at_ ((u+c%128*2^(7*i):Nat):Int) ((7*(i+1):Nat):Int) L L.length ((i+1:Nat):Int)) ?_ this
     have e7:IntKind.i64.wrap (((7*i:Nat):Int)+7)=((7*(i+1):Nat):Int):=by rw [u7 (by omega) (by omega)];omega
     simp only [D9,aH7,cond_false,decide_eq_false hlt128,e7,wS (show i<9223372036854775807 by omega)]
theorem ec1 (at_:Nat) (L:List Int):rV at_ 0 0 (vd 0 L)=rI at_ (pI L):=by
 unfold pI rI rV
 cases vd 0 L with
 | inl e=>rfl
 | inr p=>obtain ⟨v,k⟩:=p;simp
theorem bA7 {b:List Int} (hb:s9 b) (hm:b.length≤G1) {at_:Nat} (h:at_≤b.length):bJ3 b at_=some (rI at_ (pI (b.drop at_))):=by
 refine u6 (.next (s' := .s1 b at_ false) ?_ (.next (s' := .s2 at_ 0 0 (b.drop at_) (b.drop at_).length 0) ?_ ?_))
 ·have h1:decide ((at_:Int)<0)=false:=by simp
  have h2:decide ((at_:Int)>b.length)=false:=by simp;omega
  simp [D9,bo6,h1,h2]
  exact h
 ·have h1:(decide (((0:Nat):Int)≤at_)&&decide ((at_:Int)≤((b.length:Nat):Int)))=true:=by simp;omega
  simp only [D9,bm4,cond_false,List.length_map,h1,cond_true,Int.toNat_natCast,List.take_length]
 ·have:=dD1 (L:=b.drop at_) (fun c hc=>hb c (List.mem_of_mem_drop hc)) at_ (by simp only [List.length_drop];omega) (b.drop at_).length 0 0 (by omega) (by omega) (by simp)
  rw [List.drop_zero,ec1] at this
  exact this
/-! ### the document's reader -/
/-! ### lists, read -/
def rL (at_:Nat) (x:Int⊕(List Int×Nat)):List Int×Int×Int:=match x with
 | .inl e=>([],0,e)
 | .inr (xs,k)=>(xs,((at_+k:Nat):Int),0)
def rN (out:List Int) (at_:Nat) (x:Int⊕(List Int×Nat)):List Int×Int×Int:=match x with
 | .inl e=>([],0,e)
 | .inr (xs,k)=>(out++xs,((at_+k:Nat):Int),0)
theorem dK1 {l:List Int}{n:Int}{k:Nat} (hb:s9 l) (h:pI l= .inr (n,k)):k≤l.length:=(bT6 hb h).2.1
theorem bq4 {l:List Int}{e:Int} (h:pI l= .inl e):(e !=0)=true:=by rcases dx2 h with rfl | rfl<;>rfl
theorem dL6 (out:List Int) (x:Int) (b:List Int) (j at_ k:Nat):rN (out++ [x]) (at_+k) (pN j (b.drop (at_+k)))=rN out at_ (pS x k (pN j ((b.drop at_).drop k))):=by
 rw [List.drop_drop]
 cases pN j (b.drop (at_+k)) with
 | inl e=>rfl
 | inr p=>obtain ⟨xs,m⟩:=p;simp [rN,pS,Nat.add_assoc]
theorem dO1 (b:List Int) (t at_ k:Nat):rN [] (at_+k) (pN t (b.drop (at_+k)))=rL at_ (pK k (pN t ((b.drop at_).drop k))):=by
 rw [List.drop_drop]
 cases pN t (b.drop (at_+k)) with
 | inl e=>rfl
 | inr p=>obtain ⟨xs,m⟩:=p;simp [rN,rL,pK,Nat.add_assoc]
theorem dt8 {b:List Int} (hb:s9 b) (hm:b.length≤G1) (t:Nat) (ht:t≤64):∀(j i at_:Nat) (out:List Int),i+j=t→at_≤b.length→out.length=i→Ev I4 (.s1 b at_ 0 t i out) (rN out at_ (pN j (b.drop at_))):=by
 intro j
 induction j with
 | zero=>
  intro i at_ out hi hat ho
  refine .next (s' := .s2 at_ 0 out) ?_ (.done (by simp [I4,az9,pN,rN]))
  simp [I4,ap7,show ¬((i:Int)<t) by omega]
 | succ j ih=>
  intro i at_ out hi hat ho
  have hlt:i<t:=by omega
  cases hp:pI (b.drop at_) with
  | inl e=>
   rw [dW2 hp]
   refine .next (s' := .s2 0 e out) ?_ (.done ?_)
   ·simp only [I4,ap7,E7 hlt,cond_true,bA7 hb hm hat,hp,rI,Option.bind_some,bq4 hp]
   ·simp only [I4,az9,bq4 hp,cond_true,rN]
  | inr p=>
   obtain ⟨x,k⟩:=p
   have hk:=dK1 (fun c hc=>hb c (List.mem_of_mem_drop hc)) hp
   rw [List.length_drop] at hk
   have:=ih (i+1) (at_+k) (out++ [x]) (by omega) (by omega) (by simp [ho])
   rw [dX5 hp,←dL6]
   refine .next (s' := .s1 b ((at_+k:Nat):Int) 0 t ((i+1:Nat):Int) (out++ [x])) ?_ this
   have hl:decide (((List.map (d7 .i64) out).length+1)*8≤i6)=true:=C7 (by simp;omega)
   simp only [I4,ap7,E7 hlt,cond_true,bA7 hb hm hat,hp,rI,Option.bind_some,hl,wS (show i<9223372036854775807 by omega)]
   simp
theorem bZ7 {b:List Int} (hb:s9 b) (hm:b.length≤G1) {at_:Nat} (h:at_≤b.length):aQ7 b at_=some (rL at_ (pL (b.drop at_))):=by
 have hsz:∀x:Int×Int×Int,J6 b at_ 64=some x→I4 (.s0 b at_)=some (.inl (.s1 b x.2.1 x.2.2 x.1 0 [])):=fun x hx=>by
  simp only [I4,bc3,hx,Option.bind_some]
 have bad:∀e:Int,(e !=0)=true→J6 b at_ 64=some (0,0,e)→aQ7 b at_=some ([],0,e):=fun e he hx=>
  u6 (.next (hsz _ hx) (.next (s' := .s2 0 e []) (by simp [I4,ap7]) (.done (by simp only [I4,az9,he,cond_true]))))
 cases hp:pI (b.drop at_) with
 | inl e=>rw [dW7 hp];exact bad e (bq4 hp) (by simp only [J6,bA7 hb hm h,hp,rI,Option.bind_some,bq4 hp,cond_true])
 | inr p=>
  obtain ⟨n,k⟩:=p
  have hk:=dK1 (fun c hc=>hb c (List.mem_of_mem_drop hc)) hp
  rw [List.length_drop] at hk
  by_cases hbig:n<0∨n>64
  ·rw [dX3 hp hbig]
   refine bad 2 rfl ?_
   simp only [J6,bA7 hb hm h,hp,rI,Option.bind_some]
   by_cases h0:n<0
   ·simp [h0,M6]
   ·have:n>64:=by omega
    simp [h0,this,M6]
  ·have hs:J6 b at_ 64=some (n,((at_+k:Nat):Int),0):=by
    simp only [J6,bA7 hb hm h,hp,rI,Option.bind_some]
    simp [show ¬n<0 by omega,show ¬64<n by omega,M6]
   rw [dY9 hp hbig,←dO1]
   obtain ⟨t,rfl⟩:=Int.eq_ofNat_of_zero_le (show 0≤n by omega)
   exact u6 (.next (hsz _ hs) (dt8 hb hm t (by omega) t 0 (at_+k) [] (by omega) (by omega) rfl))
end Go.RX.L

namespace Go.RX.L
open Go Go.RX Go.Proofs
attribute [local irreducible] f6
noncomputable def cB0 (y:Int×Int×Int×Int×Int×Int×Int×Int×Int×Int):D×f4:=(.agg [.int .i64 y.1,.int .i64 y.2.1,.int .i64 y.2.2.1,.int .i64 y.2.2.2.1,.int .i64 y.2.2.2.2.1,.int .i64 y.2.2.2.2.2.1,.int .i64 y.2.2.2.2.2.2.1,.int .i64 y.2.2.2.2.2.2.2.1,.int .i64 y.2.2.2.2.2.2.2.2.1,.int .i64 y.2.2.2.2.2.2.2.2.2],[])
noncomputable def ai6 (p_:Plan):Option (Int×Int×Int×Int×Int×Int×Int×Int×Int×Int):=(some (p_.Epoch,p_.Target,p_.Prev,p_.Spill,p_.Percent,p_.Stamp,p_.Since,p_.Ramped,(IntKind.i64.wrap (p_.Up)),(IntKind.i64.wrap (p_.Sup))))
theorem aR8 {p_:Plan}{r:Int×Int×Int×Int×Int×Int×Int×Int×Int×Int} (h:ai6 p_=some r):i0 E 131 [.agg (Plan.enc p_)] [] (Rs cB0 r):=so (fn:=Tryz.f131) (k:=false) (m:=0) h<| by
 intro r h;unfold ai6 at h
 exact zu 47 h
end Go.RX.L
