/-
  Words and walks for DeciderKnows. No condition.
-/
import Derived.Test.YtajehicfjidaiaaGreatDoorRows
import Derived.Test.YtajehicfjidaiaaGreatDoorDeciderKnowsX3
set_option linter.unusedSectionVars false
set_option linter.unnecessarySimpa false
set_option linter.unusedSimpArgs false
set_option linter.unusedVariables false
set_option maxRecDepth 100000
namespace Go.RX.L
open Go Go.RX Go.Proofs
def gl_parts:List Int:= [65536,62757,60097,57549,55109,52773,50535,48393,46341,44376,42495,40693,38968,37316,35734,34219]
def gl_deBruijn64tab:List Int:= [0,1,56,2,57,49,28,3,61,58,42,50,38,29,17,4,62,47,59,36,45,43,51,22,53,39,33,30,24,18,12,5,63,55,48,27,60,41,37,16,46,35,44,21,52,32,23,11,54,26,40,15,34,20,31,10,25,14,19,9,13,8,7,6]
def gl_four:List Int:= [0,498536548,997073096,651767980,1994146192,1802195444,1303535960,1342533948,3988292384,4027552580,3604390888,3412177804,2607071920,2262029012,2685067896,3183342108]
def bf1:List UInt8:= [0,1,2,2,3,3,3,3,4,4,4,4,4,4,4,4,5,5,5,5,5,5,5,5,5,5,5,5,5,5,5,5,6,6,6,6,6,6,6,6,6,6,6,6,6,6,6,6,6,6,6,6,6,6,6,6,6,6,6,6,6,6,6,6,7,7,7,7,7,7,7,7,7,7,7,7,7,7,7,7,7,7,7,7,7,7,7,7,7,7,7,7,7,7,7,7,7,7,7,7,7,7,7,7,7,7,7,7,7,7,7,7,7,7,7,7,7,7,7,7,7,7,7,7,7,7,7,7,8,8,8,8,8,8,8,8,8,8,8,8,8,8,8,8,8,8,8,8,8,8,8,8,8,8,8,8,8,8,8,8,8,8,8,8,8,8,8,8,8,8,8,8,8,8,8,8,8,8,8,8,8,8,8,8,8,8,8,8,8,8,8,8,8,8,8,8,8,8,8,8,8,8,8,8,8,8,8,8,8,8,8,8,8,8,8,8,8,8,8,8,8,8,8,8,8,8,8,8,8,8,8,8,8,8,8,8,8,8,8,8,8,8,8,8,8,8,8,8,8,8,8,8,8,8,8,8]
noncomputable def E:G5:=⟨Tryz.prog,fun f=>⟨f==8 || f==10 || f==12 || f==13 || f==18 || f==21 || f==23 || f==24 || f==25 || f==28 || f==30 || f==32 || f==37 || f==49 || f==50 || f==51 || f==52 || f==53 || f==55 || f==63 || f==64 || f==66 || f==67 || f==68 || f==86 || f==87 || f==88 || f==93 || f==94 || f==106 || f==110 || f==117 || f==121 || f==123 || f==125 || f==126 || f==140 || f==144 || f==151 || f==152,f==10 || f==12 || f==13 || f==18 || f==21 || f==23 || f==24 || f==25 || f==29 || f==30 || f==32 || f==49 || f==50 || f==51 || f==52 || f==53 || f==55 || f==63 || f==64 || f==66 || f==67 || f==68 || f==85 || f==86 || f==87 || f==88 || f==89 || f==91 || f==93 || f==94 || f==106 || f==109 || f==117 || f==125 || f==126 || f==147 || f==152,f==105 || f==138 || f==146,f==12 || f==13 || f==18 || f==21 || f==23 || f==49 || f==64 || f==68 || f==88 || f==106⟩,fun g=>bif g==2 then .iptr 1 (List.map (d7 .u32) gl_four) 0 0 else bif g==1 then .iptr 1 (List.map (d7 .u8) gl_deBruijn64tab) 0 0 else bif g==0 then .iptr 1 (List.map (d7 .i64) gl_parts) 0 0 else .undef⟩
theorem hm:E.P.follows .mixedOrders=true:=Tryz.checked.mixed
instance:Mix E:=⟨hm⟩
structure d8 where
 F_:Int
 Deciders:Int
 Targets:Int
 Routers:Int
 Observers:Int
 Tiers:List Int
 Every:Int
 Wait:Int
 Rise:Int
 Fall:Int
 Fresh:Int
 L_:Int
 M_:Int
 Dwell:Int
 D_:Int
 W_:Int
 B_:Int
 Hit:Int
 Suppress:Int
 Reuse:Int
 Half:Int
 First:Int
 Step:Int
 StepTime:Int
 S_:Int
 Cap:Int
 Span:Int
 Room:Int
 Tries:Int
 Retry:Int
def d8.enc (x:d8):List D:= [D.int .i64 x.F_,D.int .i64 x.Deciders,D.int .i64 x.Targets,D.int .i64 x.Routers,D.int .i64 x.Observers,D.sl false 1 (List.map (d7 .i64) x.Tiers),D.int .i64 x.Every,D.int .i64 x.Wait,D.int .i64 x.Rise,D.int .i64 x.Fall,D.int .i64 x.Fresh,D.int .i64 x.L_,D.int .i64 x.M_,D.int .i64 x.Dwell,D.int .i64 x.D_,D.int .i64 x.W_,D.int .i64 x.B_,D.int .i64 x.Hit,D.int .i64 x.Suppress,D.int .i64 x.Reuse,D.int .i64 x.Half,D.int .i64 x.First,D.int .i64 x.Step,D.int .i64 x.StepTime,D.int .i64 x.S_,D.int .i64 x.Cap,D.int .i64 x.Span,D.int .i64 x.Room,D.int .i64 x.Tries,D.int .i64 x.Retry]
def d8.encL (x:d8) (r:List D):List D:=D.int .i64 x.F_::D.int .i64 x.Deciders::D.int .i64 x.Targets::D.int .i64 x.Routers::D.int .i64 x.Observers::D.sl false 1 (List.map (d7 .i64) x.Tiers)::D.int .i64 x.Every::D.int .i64 x.Wait::D.int .i64 x.Rise::D.int .i64 x.Fall::D.int .i64 x.Fresh::D.int .i64 x.L_::D.int .i64 x.M_::D.int .i64 x.Dwell::D.int .i64 x.D_::D.int .i64 x.W_::D.int .i64 x.B_::D.int .i64 x.Hit::D.int .i64 x.Suppress::D.int .i64 x.Reuse::D.int .i64 x.Half::D.int .i64 x.First::D.int .i64 x.Step::D.int .i64 x.StepTime::D.int .i64 x.S_::D.int .i64 x.Cap::D.int .i64 x.Span::D.int .i64 x.Room::D.int .i64 x.Tries::D.int .i64 x.Retry::r
def f6 (n:Nat) (l:List (List D)):D:= .msl n 0 l.length l.length false
def d8.l (x:d8) (r:List D):List D:=D.int .i64 x.F_::D.int .i64 x.Deciders::D.int .i64 x.Targets::D.int .i64 x.Routers::D.int .i64 x.Observers::D.sl false 1 (List.map (d7 .i64) x.Tiers)::D.int .i64 x.Every::D.int .i64 x.Wait::D.int .i64 x.Rise::D.int .i64 x.Fall::D.int .i64 x.Fresh::D.int .i64 x.L_::D.int .i64 x.M_::D.int .i64 x.Dwell::D.int .i64 x.D_::D.int .i64 x.W_::D.int .i64 x.B_::D.int .i64 x.Hit::D.int .i64 x.Suppress::D.int .i64 x.Reuse::D.int .i64 x.Half::D.int .i64 x.First::D.int .i64 x.Step::D.int .i64 x.StepTime::D.int .i64 x.S_::D.int .i64 x.Cap::D.int .i64 x.Span::D.int .i64 x.Room::D.int .i64 x.Tries::D.int .i64 x.Retry::r
def d8.Ok (x:d8):Prop:=n4 .i64 x.F_∧n4 .i64 x.Deciders∧n4 .i64 x.Targets∧n4 .i64 x.Routers∧n4 .i64 x.Observers∧(x.Tiers.length*8≤reachBytes∧∀y∈x.Tiers,n4 .i64 y)∧n4 .i64 x.Every∧n4 .i64 x.Wait∧n4 .i64 x.Rise∧n4 .i64 x.Fall∧n4 .i64 x.Fresh∧n4 .i64 x.L_∧n4 .i64 x.M_∧n4 .i64 x.Dwell∧n4 .i64 x.D_∧n4 .i64 x.W_∧n4 .i64 x.B_∧n4 .i64 x.Hit∧n4 .i64 x.Suppress∧n4 .i64 x.Reuse∧n4 .i64 x.Half∧n4 .i64 x.First∧n4 .i64 x.Step∧n4 .i64 x.StepTime∧n4 .i64 x.S_∧n4 .i64 x.Cap∧n4 .i64 x.Span∧n4 .i64 x.Room∧n4 .i64 x.Tries∧n4 .i64 x.Retry
structure Plan where
 Epoch:Int
 Target:Int
 Prev:Int
 Spill:Int
 Percent:Int
 Stamp:Int
 Since:Int
 Ramped:Int
 Up:Int
 Sup:Int
 Pen:List Int
 Changes:List Int
def Plan.enc (x:Plan):List D:= [D.int .i64 x.Epoch,D.int .i64 x.Target,D.int .i64 x.Prev,D.int .i64 x.Spill,D.int .i64 x.Percent,D.int .i64 x.Stamp,D.int .i64 x.Since,D.int .i64 x.Ramped,D.int .u64 x.Up,D.int .u64 x.Sup,D.sl false 1 (List.map (d7 .i64) x.Pen),D.sl false 1 (List.map (d7 .i64) x.Changes)]
def Plan.encL (x:Plan) (r:List D):List D:=D.int .i64 x.Epoch::D.int .i64 x.Target::D.int .i64 x.Prev::D.int .i64 x.Spill::D.int .i64 x.Percent::D.int .i64 x.Stamp::D.int .i64 x.Since::D.int .i64 x.Ramped::D.int .u64 x.Up::D.int .u64 x.Sup::D.sl false 1 (List.map (d7 .i64) x.Pen)::D.sl false 1 (List.map (d7 .i64) x.Changes)::r
def Plan.l (x:Plan) (r:List D):List D:=D.int .i64 x.Epoch::D.int .i64 x.Target::D.int .i64 x.Prev::D.int .i64 x.Spill::D.int .i64 x.Percent::D.int .i64 x.Stamp::D.int .i64 x.Since::D.int .i64 x.Ramped::D.int .u64 x.Up::D.int .u64 x.Sup::D.sl false 1 (List.map (d7 .i64) x.Pen)::D.sl false 1 (List.map (d7 .i64) x.Changes)::r
def Plan.Ok (x:Plan):Prop:=n4 .i64 x.Epoch∧n4 .i64 x.Target∧n4 .i64 x.Prev∧n4 .i64 x.Spill∧n4 .i64 x.Percent∧n4 .i64 x.Stamp∧n4 .i64 x.Since∧n4 .i64 x.Ramped∧n4 .u64 x.Up∧n4 .u64 x.Sup∧(x.Pen.length*8≤reachBytes∧∀y∈x.Pen,n4 .i64 y)∧(x.Changes.length*8≤reachBytes∧∀y∈x.Changes,n4 .i64 y)
structure e9 where
 Kind:Int
 From:Int
 To:Int
 Epoch:Int
 Ballot:Int
 Accepted:Int
 Nonce:Int
 Time:Int
 Up:Int
 Code:Int
 HasPlan:Bool
 Plan:Plan
 ID:List Int
 Session:List Int
 Payload:List Int
def e9.enc (x:e9):List D:= [D.int .i64 x.Kind,D.int .i64 x.From,D.int .i64 x.To,D.int .i64 x.Epoch,D.int .i64 x.Ballot,D.int .i64 x.Accepted,D.int .i64 x.Nonce,D.int .i64 x.Time,D.int .u64 x.Up,D.int .i64 x.Code,D.bool x.HasPlan,D.int .i64 x.Plan.Epoch,D.int .i64 x.Plan.Target,D.int .i64 x.Plan.Prev,D.int .i64 x.Plan.Spill,D.int .i64 x.Plan.Percent,D.int .i64 x.Plan.Stamp,D.int .i64 x.Plan.Since,D.int .i64 x.Plan.Ramped,D.int .u64 x.Plan.Up,D.int .u64 x.Plan.Sup,D.sl false 1 (List.map (d7 .i64) x.Plan.Pen),D.sl false 1 (List.map (d7 .i64) x.Plan.Changes),D.sl false 1 (List.map (d7 .i64) x.ID),D.sl false 1 (List.map (d7 .u8) x.Session),D.sl false 1 (List.map (d7 .u8) x.Payload)]
def e9.l (x:e9) (r:List D):List D:=D.int .i64 x.Kind::D.int .i64 x.From::D.int .i64 x.To::D.int .i64 x.Epoch::D.int .i64 x.Ballot::D.int .i64 x.Accepted::D.int .i64 x.Nonce::D.int .i64 x.Time::D.int .u64 x.Up::D.int .i64 x.Code::D.bool x.HasPlan::D.int .i64 x.Plan.Epoch::D.int .i64 x.Plan.Target::D.int .i64 x.Plan.Prev::D.int .i64 x.Plan.Spill::D.int .i64 x.Plan.Percent::D.int .i64 x.Plan.Stamp::D.int .i64 x.Plan.Since::D.int .i64 x.Plan.Ramped::D.int .u64 x.Plan.Up::D.int .u64 x.Plan.Sup::D.sl false 1 (List.map (d7 .i64) x.Plan.Pen)::D.sl false 1 (List.map (d7 .i64) x.Plan.Changes)::D.sl false 1 (List.map (d7 .i64) x.ID)::D.sl false 1 (List.map (d7 .u8) x.Session)::D.sl false 1 (List.map (d7 .u8) x.Payload)::r
def e9.Ok (x:e9):Prop:=n4 .i64 x.Kind∧n4 .i64 x.From∧n4 .i64 x.To∧n4 .i64 x.Epoch∧n4 .i64 x.Ballot∧n4 .i64 x.Accepted∧n4 .i64 x.Nonce∧n4 .i64 x.Time∧n4 .u64 x.Up∧n4 .i64 x.Code∧True∧x.Plan.Ok∧(x.ID.length*8≤reachBytes∧∀y∈x.ID,n4 .i64 y)∧(x.Session.length*1≤reachBytes∧∀y∈x.Session,n4 .u8 y)∧(x.Payload.length*1≤reachBytes∧∀y∈x.Payload,n4 .u8 y)
structure Op where
 What:Int
 M_:e9
 Now:Int
 N_:Int
def Op.enc (x:Op):List D:= [D.int .i64 x.What,D.int .i64 x.M_.Kind,D.int .i64 x.M_.From,D.int .i64 x.M_.To,D.int .i64 x.M_.Epoch,D.int .i64 x.M_.Ballot,D.int .i64 x.M_.Accepted,D.int .i64 x.M_.Nonce,D.int .i64 x.M_.Time,D.int .u64 x.M_.Up,D.int .i64 x.M_.Code,D.bool x.M_.HasPlan,D.int .i64 x.M_.Plan.Epoch,D.int .i64 x.M_.Plan.Target,D.int .i64 x.M_.Plan.Prev,D.int .i64 x.M_.Plan.Spill,D.int .i64 x.M_.Plan.Percent,D.int .i64 x.M_.Plan.Stamp,D.int .i64 x.M_.Plan.Since,D.int .i64 x.M_.Plan.Ramped,D.int .u64 x.M_.Plan.Up,D.int .u64 x.M_.Plan.Sup,D.sl false 1 (List.map (d7 .i64) x.M_.Plan.Pen),D.sl false 1 (List.map (d7 .i64) x.M_.Plan.Changes),D.sl false 1 (List.map (d7 .i64) x.M_.ID),D.sl false 1 (List.map (d7 .u8) x.M_.Session),D.sl false 1 (List.map (d7 .u8) x.M_.Payload),D.int .i64 x.Now,D.int .i64 x.N_]
def Op.l (x:Op) (r:List D):List D:=D.int .i64 x.What::D.int .i64 x.M_.Kind::D.int .i64 x.M_.From::D.int .i64 x.M_.To::D.int .i64 x.M_.Epoch::D.int .i64 x.M_.Ballot::D.int .i64 x.M_.Accepted::D.int .i64 x.M_.Nonce::D.int .i64 x.M_.Time::D.int .u64 x.M_.Up::D.int .i64 x.M_.Code::D.bool x.M_.HasPlan::D.int .i64 x.M_.Plan.Epoch::D.int .i64 x.M_.Plan.Target::D.int .i64 x.M_.Plan.Prev::D.int .i64 x.M_.Plan.Spill::D.int .i64 x.M_.Plan.Percent::D.int .i64 x.M_.Plan.Stamp::D.int .i64 x.M_.Plan.Since::D.int .i64 x.M_.Plan.Ramped::D.int .u64 x.M_.Plan.Up::D.int .u64 x.M_.Plan.Sup::D.sl false 1 (List.map (d7 .i64) x.M_.Plan.Pen)::D.sl false 1 (List.map (d7 .i64) x.M_.Plan.Changes)::D.sl false 1 (List.map (d7 .i64) x.M_.ID)::D.sl false 1 (List.map (d7 .u8) x.M_.Session)::D.sl false 1 (List.map (d7 .u8) x.M_.Payload)::D.int .i64 x.Now::D.int .i64 x.N_::r
def Op.Ok (x:Op):Prop:=n4 .i64 x.What∧x.M_.Ok∧n4 .i64 x.Now∧n4 .i64 x.N_
structure i6 where
 Observer:Int
 Up:Int
 At:Int
def i6.enc (x:i6):List D:= [D.int .i64 x.Observer,D.int .u64 x.Up,D.int .i64 x.At]
def i6.l (x:i6) (r:List D):List D:=D.int .i64 x.Observer::D.int .u64 x.Up::D.int .i64 x.At::r
def i6.Ok (x:i6):Prop:=n4 .i64 x.Observer∧n4 .u64 x.Up∧n4 .i64 x.At
structure n5 where
 Epoch:Int
 Nonce:Int
 Grants:Int
 Until:Int
def n5.enc (x:n5):List D:= [D.int .i64 x.Epoch,D.int .i64 x.Nonce,D.int .u64 x.Grants,D.int .i64 x.Until]
def n5.l (x:n5) (r:List D):List D:=D.int .i64 x.Epoch::D.int .i64 x.Nonce::D.int .u64 x.Grants::D.int .i64 x.Until::r
def n5.Ok (x:n5):Prop:=n4 .i64 x.Epoch∧n4 .i64 x.Nonce∧n4 .u64 x.Grants∧n4 .i64 x.Until
structure S0 where
 ever:Bool
 at_:Int
def S0.enc (x:S0):List D:= [D.bool x.ever,D.int .i64 x.at_]
def S0.Ok (x:S0):Prop:=True∧n4 .i64 x.at_
structure i5 where
 Epoch:Int
 Ballot:Int
 Phase:Int
 Own:Plan
 Best:Int
 Value:Plan
 Promises:Int
 Accepts:Int
def i5.enc (x:i5):List D:= [D.int .i64 x.Epoch,D.int .i64 x.Ballot,D.int .i64 x.Phase,D.int .i64 x.Own.Epoch,D.int .i64 x.Own.Target,D.int .i64 x.Own.Prev,D.int .i64 x.Own.Spill,D.int .i64 x.Own.Percent,D.int .i64 x.Own.Stamp,D.int .i64 x.Own.Since,D.int .i64 x.Own.Ramped,D.int .u64 x.Own.Up,D.int .u64 x.Own.Sup,D.sl false 1 (List.map (d7 .i64) x.Own.Pen),D.sl false 1 (List.map (d7 .i64) x.Own.Changes),D.int .i64 x.Best,D.int .i64 x.Value.Epoch,D.int .i64 x.Value.Target,D.int .i64 x.Value.Prev,D.int .i64 x.Value.Spill,D.int .i64 x.Value.Percent,D.int .i64 x.Value.Stamp,D.int .i64 x.Value.Since,D.int .i64 x.Value.Ramped,D.int .u64 x.Value.Up,D.int .u64 x.Value.Sup,D.sl false 1 (List.map (d7 .i64) x.Value.Pen),D.sl false 1 (List.map (d7 .i64) x.Value.Changes),D.int .u64 x.Promises,D.int .u64 x.Accepts]
def i5.l (x:i5) (r:List D):List D:=D.int .i64 x.Epoch::D.int .i64 x.Ballot::D.int .i64 x.Phase::D.int .i64 x.Own.Epoch::D.int .i64 x.Own.Target::D.int .i64 x.Own.Prev::D.int .i64 x.Own.Spill::D.int .i64 x.Own.Percent::D.int .i64 x.Own.Stamp::D.int .i64 x.Own.Since::D.int .i64 x.Own.Ramped::D.int .u64 x.Own.Up::D.int .u64 x.Own.Sup::D.sl false 1 (List.map (d7 .i64) x.Own.Pen)::D.sl false 1 (List.map (d7 .i64) x.Own.Changes)::D.int .i64 x.Best::D.int .i64 x.Value.Epoch::D.int .i64 x.Value.Target::D.int .i64 x.Value.Prev::D.int .i64 x.Value.Spill::D.int .i64 x.Value.Percent::D.int .i64 x.Value.Stamp::D.int .i64 x.Value.Since::D.int .i64 x.Value.Ramped::D.int .u64 x.Value.Up::D.int .u64 x.Value.Sup::D.sl false 1 (List.map (d7 .i64) x.Value.Pen)::D.sl false 1 (List.map (d7 .i64) x.Value.Changes)::D.int .u64 x.Promises::D.int .u64 x.Accepts::r
def i5.Ok (x:i5):Prop:=n4 .i64 x.Epoch∧n4 .i64 x.Ballot∧n4 .i64 x.Phase∧x.Own.Ok∧n4 .i64 x.Best∧x.Value.Ok∧n4 .u64 x.Promises∧n4 .u64 x.Accepts
structure d9 where
 boot:Int
 known:Plan
 heard:Int
 votes:List i6
 hold:n5
 asked:S0
 prop:i5
 made:Int
 top:Int
 sealed:Int
 told:S0
def d9.enc (x:d9):List D:= [D.int .i64 x.boot,D.int .i64 x.known.Epoch,D.int .i64 x.known.Target,D.int .i64 x.known.Prev,D.int .i64 x.known.Spill,D.int .i64 x.known.Percent,D.int .i64 x.known.Stamp,D.int .i64 x.known.Since,D.int .i64 x.known.Ramped,D.int .u64 x.known.Up,D.int .u64 x.known.Sup,D.sl false 1 (List.map (d7 .i64) x.known.Pen),D.sl false 1 (List.map (d7 .i64) x.known.Changes),D.int .i64 x.heard,D.sl false 3 (List.map i6.enc x.votes),D.int .i64 x.hold.Epoch,D.int .i64 x.hold.Nonce,D.int .u64 x.hold.Grants,D.int .i64 x.hold.Until,D.bool x.asked.ever,D.int .i64 x.asked.at_,D.int .i64 x.prop.Epoch,D.int .i64 x.prop.Ballot,D.int .i64 x.prop.Phase,D.int .i64 x.prop.Own.Epoch,D.int .i64 x.prop.Own.Target,D.int .i64 x.prop.Own.Prev,D.int .i64 x.prop.Own.Spill,D.int .i64 x.prop.Own.Percent,D.int .i64 x.prop.Own.Stamp,D.int .i64 x.prop.Own.Since,D.int .i64 x.prop.Own.Ramped,D.int .u64 x.prop.Own.Up,D.int .u64 x.prop.Own.Sup,D.sl false 1 (List.map (d7 .i64) x.prop.Own.Pen),D.sl false 1 (List.map (d7 .i64) x.prop.Own.Changes),D.int .i64 x.prop.Best,D.int .i64 x.prop.Value.Epoch,D.int .i64 x.prop.Value.Target,D.int .i64 x.prop.Value.Prev,D.int .i64 x.prop.Value.Spill,D.int .i64 x.prop.Value.Percent,D.int .i64 x.prop.Value.Stamp,D.int .i64 x.prop.Value.Since,D.int .i64 x.prop.Value.Ramped,D.int .u64 x.prop.Value.Up,D.int .u64 x.prop.Value.Sup,D.sl false 1 (List.map (d7 .i64) x.prop.Value.Pen),D.sl false 1 (List.map (d7 .i64) x.prop.Value.Changes),D.int .u64 x.prop.Promises,D.int .u64 x.prop.Accepts,D.int .i64 x.made,D.int .i64 x.top,D.int .u64 x.sealed,D.bool x.told.ever,D.int .i64 x.told.at_]
def d9.l (x:d9) (r:List D):List D:=D.int .i64 x.boot::D.int .i64 x.known.Epoch::D.int .i64 x.known.Target::D.int .i64 x.known.Prev::D.int .i64 x.known.Spill::D.int .i64 x.known.Percent::D.int .i64 x.known.Stamp::D.int .i64 x.known.Since::D.int .i64 x.known.Ramped::D.int .u64 x.known.Up::D.int .u64 x.known.Sup::D.sl false 1 (List.map (d7 .i64) x.known.Pen)::D.sl false 1 (List.map (d7 .i64) x.known.Changes)::D.int .i64 x.heard::D.sl false 3 (List.map i6.enc x.votes)::D.int .i64 x.hold.Epoch::D.int .i64 x.hold.Nonce::D.int .u64 x.hold.Grants::D.int .i64 x.hold.Until::D.bool x.asked.ever::D.int .i64 x.asked.at_::D.int .i64 x.prop.Epoch::D.int .i64 x.prop.Ballot::D.int .i64 x.prop.Phase::D.int .i64 x.prop.Own.Epoch::D.int .i64 x.prop.Own.Target::D.int .i64 x.prop.Own.Prev::D.int .i64 x.prop.Own.Spill::D.int .i64 x.prop.Own.Percent::D.int .i64 x.prop.Own.Stamp::D.int .i64 x.prop.Own.Since::D.int .i64 x.prop.Own.Ramped::D.int .u64 x.prop.Own.Up::D.int .u64 x.prop.Own.Sup::D.sl false 1 (List.map (d7 .i64) x.prop.Own.Pen)::D.sl false 1 (List.map (d7 .i64) x.prop.Own.Changes)::D.int .i64 x.prop.Best::D.int .i64 x.prop.Value.Epoch::D.int .i64 x.prop.Value.Target::D.int .i64 x.prop.Value.Prev::D.int .i64 x.prop.Value.Spill::D.int .i64 x.prop.Value.Percent::D.int .i64 x.prop.Value.Stamp::D.int .i64 x.prop.Value.Since::D.int .i64 x.prop.Value.Ramped::D.int .u64 x.prop.Value.Up::D.int .u64 x.prop.Value.Sup::D.sl false 1 (List.map (d7 .i64) x.prop.Value.Pen)::D.sl false 1 (List.map (d7 .i64) x.prop.Value.Changes)::D.int .u64 x.prop.Promises::D.int .u64 x.prop.Accepts::D.int .i64 x.made::D.int .i64 x.top::D.int .u64 x.sealed::D.bool x.told.ever::D.int .i64 x.told.at_::r
def d9.Ok (x:d9):Prop:=n4 .i64 x.boot∧x.known.Ok∧n4 .i64 x.heard∧(x.votes.length*24≤reachBytes∧∀y∈x.votes,y.Ok)∧x.hold.Ok∧x.asked.Ok∧x.prop.Ok∧n4 .i64 x.made∧n4 .i64 x.top∧n4 .u64 x.sealed∧x.told.Ok
structure q0 where
 synced:List Int
 tail:List Int
 fuse:Int
 down:Bool
def q0.enc (x:q0):List D:= [D.sl false 1 (List.map (d7 .u8) x.synced),D.sl false 1 (List.map (d7 .u8) x.tail),D.int .i64 x.fuse,D.bool x.down]
def q0.l (x:q0) (r:List D):List D:=D.sl false 1 (List.map (d7 .u8) x.synced)::D.sl false 1 (List.map (d7 .u8) x.tail)::D.int .i64 x.fuse::D.bool x.down::r
def q0.Ok (x:q0):Prop:=(x.synced.length*1≤reachBytes∧∀y∈x.synced,n4 .u8 y)∧(x.tail.length*1≤reachBytes∧∀y∈x.tail,n4 .u8 y)∧n4 .i64 x.fuse∧True
structure n7 where
 bits:Int
 n:Int
 most:Int
def n7.enc (x:n7):List D:= [D.int .i64 x.bits,D.int .i64 x.n,D.int .i64 x.most]
def n7.l (x:n7) (r:List D):List D:=D.int .i64 x.bits::D.int .i64 x.n::D.int .i64 x.most::r
def n7.Ok (x:n7):Prop:=n4 .i64 x.bits∧n4 .i64 x.n∧n4 .i64 x.most
structure af1 where
 kind:Int
 body:List Int
def af1.enc (x:af1):List D:= [D.int .u8 x.kind,D.sl false 1 (List.map (d7 .u8) x.body)]
def af1.Ok (x:af1):Prop:=n4 .u8 x.kind∧(x.body.length*1≤reachBytes∧∀y∈x.body,n4 .u8 y)
structure bc0 where
 at_:Int
 e:Int
def bc0.enc (x:bc0):List D:= [D.int .i64 x.at_,D.int .i64 x.e]
def bc0.Ok (x:bc0):Prop:=n4 .i64 x.at_∧n4 .i64 x.e
structure l8 where
 place:bc0
 b:List Int
def l8.enc (x:l8):List D:= [D.int .i64 x.place.at_,D.int .i64 x.place.e,D.sl false 1 (List.map (d7 .u8) x.b)]
def l8.l (x:l8) (r:List D):List D:=D.int .i64 x.place.at_::D.int .i64 x.place.e::D.sl false 1 (List.map (d7 .u8) x.b)::r
def l8.Ok (x:l8):Prop:=x.place.Ok∧(x.b.length*1≤reachBytes∧∀y∈x.b,n4 .u8 y)
structure C6 where
 Ballot:Int
 Plan:Plan
def C6.enc (x:C6):List D:= [D.int .i64 x.Ballot,D.int .i64 x.Plan.Epoch,D.int .i64 x.Plan.Target,D.int .i64 x.Plan.Prev,D.int .i64 x.Plan.Spill,D.int .i64 x.Plan.Percent,D.int .i64 x.Plan.Stamp,D.int .i64 x.Plan.Since,D.int .i64 x.Plan.Ramped,D.int .u64 x.Plan.Up,D.int .u64 x.Plan.Sup,D.sl false 1 (List.map (d7 .i64) x.Plan.Pen),D.sl false 1 (List.map (d7 .i64) x.Plan.Changes)]
def C6.l (x:C6) (r:List D):List D:=D.int .i64 x.Ballot::D.int .i64 x.Plan.Epoch::D.int .i64 x.Plan.Target::D.int .i64 x.Plan.Prev::D.int .i64 x.Plan.Spill::D.int .i64 x.Plan.Percent::D.int .i64 x.Plan.Stamp::D.int .i64 x.Plan.Since::D.int .i64 x.Plan.Ramped::D.int .u64 x.Plan.Up::D.int .u64 x.Plan.Sup::D.sl false 1 (List.map (d7 .i64) x.Plan.Pen)::D.sl false 1 (List.map (d7 .i64) x.Plan.Changes)::r
def C6.Ok (x:C6):Prop:=n4 .i64 x.Ballot∧x.Plan.Ok
end Go.RX.L

set_option maxHeartbeats 4000000
namespace Go.RX.L
open Go Go.RX Go.Proofs
attribute [local irreducible] f5
noncomputable def cc3 (y:List i6):D×f3:=((f6 0 (List.map i6.enc y)),[some ⟨3,false,(List.map i6.enc y)⟩])
noncomputable def aA1 (s_:List i6):Option (List i6):=(bif (decide ((0+(List.map i6.enc s_).length)*24≤i7)) then (some s_) else none)
theorem bV9 {s_ r:List i6} (h:aA1 s_=some r):i0 E 37 [.sl false 3 (List.map i6.enc s_)] [] (Rs cc3 r):=so (fn:=Tryz.f37) (k:=true) (m:=0) h<| by
 intro r h;unfold aA1 at h
 refine l5 hm 9 _ ?_
 refine co3 (List.isEmpty (List.map i6.enc s_)) (by kernel_rfl) ?_ (fun h1=> ?_)
 ·--it is not nil
  refine zn 9 h fun h=> ?_
  refine zw 1 (a:=(List.map i6.enc s_)) (b:=(List.map i6.enc s_)) (rfl) ?_
  exact zu 3 h
 ·--nil
  obtain rfl:s_= []:=by simpa using h1
  simp [i7] at h
  subst h
  refine l5 hm 8 _ ?_
  exact aK7 [.mat 0 3] (d:= .msl 0 0 0 0 false) (s:= [some ⟨3,false,[]⟩]) (by kernel_rfl) Cx.fin_of ⟨rfl,rfl⟩
end Go.RX.L

namespace Go.RX.L
open Go Go.RX Go.Proofs
attribute [local irreducible] f5
noncomputable def cS8 (y:Bool):D×f3:=(.bool y,[])
noncomputable def aS2 (v:i6) (t:Int):Option Bool:=(some ((v.Observer:Int)==t))
theorem cK7 {v:i6}{t:Int}{r:Bool} (h:aS2 v t=some r):i0 E 134 [.agg (i6.enc v),.iptr 1 [[.int .i64 t]] 0 0] [] (Rs cS8 r):=so (fn:=Tryz.f134) (k:=false) (m:=0) h<| by
 intro r h;unfold aS2 at h
 exact zu 16 h
end Go.RX.L

namespace Go.RX.L
open Go Go.RX Go.Proofs
attribute [local irreducible] f5
noncomputable def aC5:=n8 (p6 Tryz.f101)
noncomputable def aA8 (y:Int):D×f3:=(.int .i64 y,[])
inductive M0 where
 | s0 (s_:List i6) (f:Int)
 | s1 (s_:List i6) (f t7 t8:Int)
noncomputable def aE8:M0→M
 | .s0 s_ f=>A2 Tryz.f101 [.sl false 3 (List.map i6.enc s_),.fn 134 [] [.iptr 1 [[.int .i64 f]] 0 0]] []
 | .s1 s_ f t7 t8=>⟨[.lpc (aC5 [1,0,1,0,0]) 387,.blk 0,.code (aC5 [1,1])],[(0,.sl false 3 (List.map i6.enc s_)),(1,.fn 134 [] [.iptr 1 [[.int .i64 f]] 0 0]),(7,.int .i64 t7),(8,.int .i64 t8)],[]⟩
abbrev aD0:=SOk E (Cx.of Tryz.f101 false 0) aA8 aE8
noncomputable def T5 (s_:List i6) (f:Int):Option (M0⊕Int):=(some (.inl (.s1 s_ f (((List.map i6.enc s_).length:Nat):Int) 0)))
noncomputable def H3 (s_:List i6) (f t7 t8:Int):Option (M0⊕Int):=(bif (decide ((t8:Int)<t7)) then (bif ((decide ((0:Int)≤t8))&&(decide ((t8:Int)<(((List.map i6.enc s_).length:Nat):Int)))) then (((s_)[t8.toNat]?).bind fun y3=>((aS2 y3 f).bind fun y5=>(bif y5 then (some (.inr t8)) else (some (.inl (.s1 s_ f t7 (IntKind.i64.wrap (t8+1)))))))) else none) else (some (.inr (-1))))
noncomputable def E5:M0→Option (M0⊕Int)
 | .s0 s_ f=>T5 s_ f
 | .s1 s_ f t7 t8=>H3 s_ f t7 t8
theorem bc7 {s_ f}:aD0 (.s0 s_ f) (T5 s_ f):=by
 intro r x h ha;unfold T5 at h
 exact zj 14 h ha
theorem bc6 {s_ f t7 t8}:aD0 (.s1 s_ f t7 t8) (H3 s_ f t7 t8):=by
 intro r x h ha;unfold H3 at h
 refine zs 7 h (fun h=> ?_) fun h=> ?_
 ·
  refine zn 14 h fun h=> ?_
  refine zr 1 i6.enc h fun y3 h=> ?_
  refine zc 1 [] h (fun _=>cK7) fun y5 h=> ?_
  refine zs 2 h (fun h=> ?_) fun h=> ?_
  ·
   exact zt 6 h ha
  exact zj 7 h ha
 exact zt 6 h ha
noncomputable def Y4 (s_:List i6) (f:Int):Option Int:=U9 E5 (.s0 s_ f)
theorem az4 {s_:List i6}{f r:Int} (h:Y4 s_ f=some r):i0 E 101 [.sl false 3 (List.map i6.enc s_),.fn 134 [] [.iptr 1 [[.int .i64 f]] 0 0]] [] (Rs aA8 r):=sc (fn:=Tryz.f101) (k:=false) (m:=0) (stM:=aE8) h fun s=>by
 cases s with
 | s0=>exact bc7
 | s1=>exact bc6
end Go.RX.L

namespace Go.RX.L
open Go Go.RX Go.Proofs
attribute [local irreducible] f5
noncomputable def di1 (observer:Int) (y:Unit):D×f3:=(.fn 134 [] [.iptr 1 [[.int .i64 observer]] 0 0],[])
noncomputable def aX3 (observer:Int):Option Unit:=(some ())
theorem ce1 {observer:Int}{r:Unit} (h:aX3 observer=some r):i0 E 102 [.int .i64 observer] [] (Rs (di1 observer) r):=so (fn:=Tryz.f102) (k:=false) (m:=0) h<| by
 intro r h;unfold aX3 at h
 exact zu 11 h
end Go.RX.L

namespace Go.RX.L
open Go Go.RX Go.Proofs
attribute [local irreducible] f5
noncomputable def dd7 (y:List i6):D×f3:=(.sl false 3 (List.map i6.enc y),[])
noncomputable def bc9 (l_:List i6) (v:i6):Option (List i6):=((aA1 l_).bind fun y1=>((aX3 v.Observer).bind fun y2=>((Y4 y1 v.Observer).bind fun y3=>(bif (decide ((y3:Int)≥0)) then (bif ((decide ((0:Int)≤y3))&&(decide ((y3:Int)<(((List.map i6.enc y1).length:Nat):Int)))) then (((y1)[(0+y3.toNat)]?).bind fun y6=>(some (List.set y1 (0+y3.toNat) v))) else none) else (bif (decide (((List.map i6.enc y1).length+1)*24≤i7)) then (some (y1++ [v])) else none)))))
theorem cR1 {l_:List i6}{v:i6}{r:List i6} (h:bc9 l_ v=some r):i0 E 60 [.sl false 3 (List.map i6.enc l_),.agg (i6.enc v)] [] (Rs dd7 r):=so (fn:=Tryz.f60) (k:=false) (m:=0) h<| by
 intro r h;unfold bc9 at h
 refine zc 9 [] h (fun _=>bV9) fun y1 h=> ?_
 refine zc 10 [] h (fun _=>ce1) fun y2 h=> ?_
 refine zm 1 (u7 ((List.map i6.enc y1).length)) ?_
 refine zcE 0 [] (args1:= [.sl false 3 (List.take ((List.map i6.enc y1).length) (List.drop 0 (List.map i6.enc y1))),.fn 134 [] [.iptr 1 [[.int .i64 v.Observer]] 0 0]]) h (fun _=>az4) ⟨by simp [d8.enc,d8.l,i5.enc,i5.l,n5.enc,n5.l,q0.enc,q0.l,e9.enc,e9.l,Op.enc,Op.l,Plan.enc,Plan.l,C6.enc,C6.l,i6.enc,i6.l,n7.enc,n7.l,l8.enc,l8.l,d9.enc,d9.l,List.take_of_length_le,List.map_take,List.map_drop],rfl⟩ fun y3 h=> ?_
 refine zs 8 h (fun h=> ?_) fun h=> ?_
 ·
  refine zn 7 h fun h=> ?_
  refine zr 1 i6.enc h fun y6 h=> ?_
  refine zw 0 (a:=(List.set (List.map i6.enc y1) (0+y3.toNat) (i6.enc v))) (b:=(List.map i6.enc (List.set y1 (0+y3.toNat) v))) (bs7 _ _ _ _) ?_
  refine zm 7 (b:=(Nat.ble (0+(List.map i6.enc y1).length) ((List.map i6.enc (List.set y1 (0+y3.toNat) v)).length))) (by simp) ?_
  obtain rfl:=Option.some.inj h
  exact ar9 [] (d1:= .sl false 3 (List.take ((List.map i6.enc y1).length) (List.drop 0 (List.map i6.enc (List.set y1 (0+y3.toNat) v))))) (d:= .sl false 3 (List.map i6.enc (List.set y1 (0+y3.toNat) v))) (s1:= []) (s:= []) (by kernel_rfl) ⟨by simp [d8.enc,d8.l,i5.enc,i5.l,n5.enc,n5.l,q0.enc,q0.l,e9.enc,e9.l,Op.enc,Op.l,Plan.enc,Plan.l,C6.enc,C6.l,i6.enc,i6.l,n7.enc,n7.l,l8.enc,l8.l,d9.enc,d9.l,List.take_of_length_le,List.map_take,List.map_drop],rfl⟩ ⟨rfl,rfl⟩ Cx.fin_of
 refine zn 9 h fun h=> ?_
 refine za 0 i6.enc y1 ([v]) ?_
 refine zm 3 (u7 ((List.map i6.enc (y1++ [v])).length)) ?_
 obtain rfl:=Option.some.inj h
 exact ar9 [] (d1:= .sl false 3 (List.take ((List.map i6.enc (y1++ [v])).length) (List.drop 0 (List.map i6.enc (y1++ [v]))))) (d:= .sl false 3 (List.map i6.enc (y1++ [v]))) (s1:= []) (s:= []) (by kernel_rfl) ⟨by simp [d8.enc,d8.l,i5.enc,i5.l,n5.enc,n5.l,q0.enc,q0.l,e9.enc,e9.l,Op.enc,Op.l,Plan.enc,Plan.l,C6.enc,C6.l,i6.enc,i6.l,n7.enc,n7.l,l8.enc,l8.l,d9.enc,d9.l,List.take_of_length_le,List.map_take,List.map_drop],rfl⟩ ⟨rfl,rfl⟩ Cx.fin_of
end Go.RX.L

namespace Go.RX.L
open Go Go.RX Go.Proofs
attribute [local irreducible] f5
noncomputable def cW2 (y:Bool):D×f3:=(.bool y,[])
noncomputable def au9 (n:Int):Option Bool:=(bif (decide ((n:Int)≥0)) then (some (decide ((n:Int)≤1099511627776))) else (some false))
theorem bf5 {n:Int}{r:Bool} (h:au9 n=some r):i0 E 114 [.int .i64 n] [] (Rs cW2 r):=so (fn:=Tryz.f114) (k:=false) (m:=0) h<| by
 intro r h;unfold au9 at h
 refine zs 10 h (fun h=> ?_) fun h=> ?_
 ·
  exact zu 7 h
 exact zu 7 h
end Go.RX.L

namespace Go.RX.L
open Go Go.RX Go.Proofs
attribute [local irreducible] f5
noncomputable def B6:=n8 (p6 Tryz.f80)
noncomputable def bM0 (y:Int):D×f3:=(.int .u64 y,[])
inductive M3 where
 | s0
 | s1 (t27:Bool)
 | s2 (t29 t30:Int) (count:List Int)
 | s3 (t29 t30:Int) (t72:Bool) (count:List Int) (v:i6)
 | s4 (up:Int) (t89:List Int) (t90:Int)
 | s5 (t29 t30 t73:Int) (count:List Int) (v:i6)
noncomputable def bM4 (l_:List i6) (observers now fresh:Int):M3→M
 | .s0=>A2 Tryz.f80 [.sl false 3 (List.map i6.enc l_),.int .i64 observers,.int .i64 now,.int .i64 fresh] []
 | .s1 t27=>⟨[.code (B6 [1,1,0,1]),.code (B6 [1,1,1])],[(0,.sl false 3 (List.map i6.enc l_)),(1,.int .i64 observers),(2,.int .i64 now),(3,.int .i64 fresh),(9,.ptr 0 0 0),(27,.bool t27)],[some ⟨1,false,[[.int .i64 0],[.int .i64 0],[.int .i64 0],[.int .i64 0],[.int .i64 0],[.int .i64 0],[.int .i64 0],[.int .i64 0],[.int .i64 0],[.int .i64 0],[.int .i64 0],[.int .i64 0],[.int .i64 0],[.int .i64 0],[.int .i64 0],[.int .i64 0],[.int .i64 0],[.int .i64 0],[.int .i64 0],[.int .i64 0],[.int .i64 0],[.int .i64 0],[.int .i64 0],[.int .i64 0],[.int .i64 0],[.int .i64 0],[.int .i64 0],[.int .i64 0],[.int .i64 0],[.int .i64 0],[.int .i64 0],[.int .i64 0],[.int .i64 0],[.int .i64 0],[.int .i64 0],[.int .i64 0],[.int .i64 0],[.int .i64 0],[.int .i64 0],[.int .i64 0],[.int .i64 0],[.int .i64 0],[.int .i64 0],[.int .i64 0],[.int .i64 0],[.int .i64 0],[.int .i64 0],[.int .i64 0],[.int .i64 0],[.int .i64 0],[.int .i64 0],[.int .i64 0],[.int .i64 0],[.int .i64 0],[.int .i64 0],[.int .i64 0],[.int .i64 0],[.int .i64 0],[.int .i64 0],[.int .i64 0],[.int .i64 0],[.int .i64 0],[.int .i64 0],[.int .i64 0]]⟩]⟩
 | .s2 t29 t30 count=>⟨[.lpc (B6 [1,1,1,0,1,0,0]) 1879048719,.blk 0,.code (B6 [1,1,1,1])],[(0,.sl false 3 (List.map i6.enc l_)),(1,.int .i64 observers),(2,.int .i64 now),(3,.int .i64 fresh),(9,.ptr 0 0 0),(28,.sl false 3 (List.map i6.enc l_)),(29,.int .i64 t29),(30,.int .i64 t30)],[some ⟨1,false,(List.map (d7 .i64) count)⟩]⟩
 | .s3 t29 t30 t72 count v=>⟨[.code (B6 [1,1,1,0,1,0,0,1,1,0,0,1,0,1]),.code (B6 [1,1,1,0,1,0,0,1,1,0,0,1,1]),.blk 1,.code (B6 [1,1,1,0,1,0,0,1,1,1]),.lp (B6 [1,1,1,0,1,0,0]) 1879048719,.blk 0,.code (B6 [1,1,1,1])],[(0,.sl false 3 (List.map i6.enc l_)),(1,.int .i64 observers),(2,.int .i64 now),(3,.int .i64 fresh),(9,.ptr 0 0 0),(11,.ptr 1 0 0),(28,.sl false 3 (List.map i6.enc l_)),(29,.int .i64 t29),(30,.int .i64 t30),(72,.bool t72)],[some ⟨1,false,(List.map (d7 .i64) count)⟩,some ⟨3,false,[(i6.enc v)]⟩]⟩
 | .s4 up t89 t90=>⟨[.lpc (B6 [1,1,1,1,1,0,1,0,0]) 1856910058928070412348694530,.blk 4,.code (B6 [1,1,1,1,1,1])],[(1,.int .i64 observers),(13,.int .u64 up),(89,.arr (List.flatten (List.map (d7 .i64) t89))),(90,.int .i64 t90)],[]⟩
 | .s5 t29 t30 t73 count v=>⟨[.lpc (B6 [1,1,1,0,1,0,0,1,1,0,0,1,1,1,0,0]) 9444732965741169478159,.blk 2,.blk 1,.code (B6 [1,1,1,0,1,0,0,1,1,1]),.lp (B6 [1,1,1,0,1,0,0]) 1879048719,.blk 0,.code (B6 [1,1,1,1])],[(0,.sl false 3 (List.map i6.enc l_)),(1,.int .i64 observers),(2,.int .i64 now),(3,.int .i64 fresh),(9,.ptr 0 0 0),(11,.ptr 1 0 0),(28,.sl false 3 (List.map i6.enc l_)),(29,.int .i64 t29),(30,.int .i64 t30),(73,.int .i64 t73)],[some ⟨1,false,(List.map (d7 .i64) count)⟩,some ⟨3,false,[(i6.enc v)]⟩]⟩
abbrev ak5 (l_:List i6) (observers now fresh:Int):=SOk E (Cx.of Tryz.f80 false 0) bM0 (bM4 l_ observers now fresh)
noncomputable def ab4 (l_:List i6) (observers now fresh:Int):Option (M3⊕Int):=((au9 now).bind fun y1=>(bif (!y1) then (some (.inl (.s1 true))) else ((au9 fresh).bind fun y3=>(bif (!y3) then (some (.inl (.s1 true))) else (some (.inl (.s1 (decide ((observers:Int)<1)))))))))
noncomputable def aM4 (l_:List i6) (observers now fresh:Int) (t27:Bool):Option (M3⊕Int):=(bif t27 then (some (.inr 0)) else (some (.inl (.s2 (((List.map i6.enc l_).length:Nat):Int) 0 ([0,0,0,0,0,0,0,0,0,0,0,0,0,0,0,0,0,0,0,0,0,0,0,0,0,0,0,0,0,0,0,0,0,0,0,0,0,0,0,0,0,0,0,0,0,0,0,0,0,0,0,0,0,0,0,0,0,0,0,0,0,0,0,0])))))
noncomputable def aw6 (l_:List i6) (observers now:Int) (fresh t29 t30:Int) (count:List Int):Option (M3⊕Int):=(bif (decide ((t30:Int)<t29)) then (bif ((decide ((0:Int)≤t30))&&(decide ((t30:Int)<(((List.map i6.enc l_).length:Nat):Int)))) then (((l_)[t30.toNat]?).bind fun y3=>(bif (decide ((y3.Observer:Int)<0)) then (some (.inl (.s3 t29 t30 true count y3))) else (bif (decide ((y3.Observer:Int)≥observers)) then (some (.inl (.s3 t29 t30 true count y3))) else ((au9 y3.At).bind fun y7=>(bif (!y7) then (some (.inl (.s3 t29 t30 true count y3))) else (bif (decide ((y3.At:Int)>now)) then (some (.inl (.s3 t29 t30 true count y3))) else (bif (decide ((y3.At:Int)<(IntKind.i64.wrap (now-fresh)))) then (some (.inl (.s3 t29 t30 true count y3))) else ((aX3 y3.Observer).bind fun y11=>((Y4 l_ y3.Observer).bind fun y12=>(some (.inl (.s3 t29 t30 (decide ((y12:Int)<t30)) count y3)))))))))))) else none) else (bif (Nat.ble (0+64) ((List.map (d7 .i64) count).length)) then (some (.inl (.s4 0 (List.take 64 (List.drop 0 count)) 0))) else none))
noncomputable def ax4 (l_:List i6) (observers now:Int) (fresh t29 t30:Int) (t72:Bool) (count:List Int) (v:i6):Option (M3⊕Int):=(bif t72 then (some (.inl (.s2 t29 (IntKind.i64.wrap (t30+1)) count))) else (some (.inl (.s5 t29 t30 0 count v))))
noncomputable def aL7 (l_:List i6) (observers now:Int) (fresh up:Int) (t89:List Int) (t90:Int):Option (M3⊕Int):=(bif (decide ((t90:Int)<64)) then (bif ((decide ((0:Int)≤t90))&&(decide ((t90:Int)<((64:Nat):Int)))) then (((t89)[t90.toNat]?).bind fun y3=>(bif (decide ((y3:Int)>(IntKind.i64.wrap (observers-y3)))) then (bif (!decide ((t90:Int)<0)) then (some (.inl (.s4 (orI .u64 up (E6 .u64 1 t90)) t89 (IntKind.i64.wrap (t90+1))))) else none) else (some (.inl (.s4 up t89 (IntKind.i64.wrap (t90+1))))))) else none) else (some (.inr up)))
noncomputable def aw4 (l_:List i6) (observers now:Int) (fresh t29:Int) (t30 t73:Int) (count:List Int) (v:i6):Option (M3⊕Int):=(bif (decide ((t73:Int)<64)) then (bif ((decide ((0:Int)≤t73))&&(decide ((t73:Int)<((64:Nat):Int)))) then (((count)[(0+t73.toNat)]?).bind fun y3=>(bif (!decide ((t73:Int)<0)) then (bif ((decide ((0:Int)≤t73))&&(decide ((t73:Int)<((64:Nat):Int)))) then (((count)[(0+t73.toNat)]?).bind fun y7=>(some (.inl (.s5 t29 t30 (IntKind.i64.wrap (t73+1)) (List.set count (0+t73.toNat) (IntKind.i64.wrap (y3+(IntKind.i64.wrap ((i9 .u64 (m7 .u64 v.Up t73) 1)))))) v)))) else none) else none)) else none) else (some (.inl (.s2 t29 (IntKind.i64.wrap (t30+1)) count))))
noncomputable def r5 (l_:List i6) (observers now fresh:Int):M3→Option (M3⊕Int)
 | .s0=>ab4 l_ observers now fresh
 | .s1 t27=>aM4 l_ observers now fresh t27
 | .s2 t29 t30 count=>aw6 l_ observers now fresh t29 t30 count
 | .s3 t29 t30 t72 count v=>ax4 l_ observers now fresh t29 t30 t72 count v
 | .s4 up t89 t90=>aL7 l_ observers now fresh up t89 t90
 | .s5 t29 t30 t73 count v=>aw4 l_ observers now fresh t29 t30 t73 count v
theorem ck2 {l_ observers now fresh}:ak5 l_ observers now fresh .s0 (ab4 l_ observers now fresh):=by
 intro r x h ha;unfold ab4 at h
 refine zc 13 [] h (fun _=>bf5) fun y1 h=> ?_
 refine zs 3 h (fun h=> ?_) fun h=> ?_
 ·
  exact zk 14 h ha
 refine zc 2 [] h (fun _=>bf5) fun y3 h=> ?_
 refine zs 6 h (fun h=> ?_) fun h=> ?_
 ·
  exact zk 5 h ha
 exact zk 5 h ha
theorem cg2 {l_ observers now fresh t27}:ak5 l_ observers now fresh (.s1 t27) (aM4 l_ observers now fresh t27):=by
 intro r x h ha;unfold aM4 at h
 refine zs 1 h (fun h=> ?_) fun h=> ?_
 ·
  exact zt 5 h ha
 exact zj 11 h ha
theorem cl5 {l_ observers now fresh t29 t30 count}:ak5 l_ observers now fresh (.s2 t29 t30 count) (aw6 l_ observers now fresh t29 t30 count):=by
 intro r x h ha;unfold aw6 at h
 refine zs 7 h (fun h=> ?_) fun h=> ?_
 ·
  refine zn 7 h fun h=> ?_
  refine zr 1 i6.enc h fun y3 h=> ?_
  refine zs 15 h (fun h=> ?_) fun h=> ?_
  ·
   exact zk 63 h ha
  refine zs 11 h (fun h=> ?_) fun h=> ?_
  ·
   exact zk 52 h ha
  refine zc 5 [] h (fun _=>bf5) fun y7 h=> ?_
  refine zs 6 h (fun h=> ?_) fun h=> ?_
  ·
   exact zk 41 h ha
  refine zs 11 h (fun h=> ?_) fun h=> ?_
  ·
   exact zk 30 h ha
  refine zs 15 h (fun h=> ?_) fun h=> ?_
  ·
   exact zk 15 h ha
  refine zc 7 [] h (fun _=>ce1) fun y11 h=> ?_
  refine zc 2 [] h (fun _=>az4) fun y12 h=> ?_
  exact zk 7 h ha
 refine zn 9 h fun h=> ?_
 refine zw 0 (a:=(List.take 64 (List.drop 0 (List.map (d7 .i64) count)))) (b:=(List.map (d7 .i64) (List.take 64 (List.drop 0 count)))) (dA3 _ _ _ _) ?_
 refine dX5 89 (cs:=List.flatten (List.map (d7 .i64) (List.take 64 (List.drop 0 count)))) (by kernel_rfl) (dT7 dL2 _) ?_
 exact zj 5 h ha
theorem ci4 {l_ observers now fresh t29 t30 t72 count v}:ak5 l_ observers now fresh (.s3 t29 t30 t72 count v) (ax4 l_ observers now fresh t29 t30 t72 count v):=by
 intro r x h ha;unfold ax4 at h
 refine zs 1 h (fun h=> ?_) fun h=> ?_
 ·
  exact zj 6 h ha
 exact zj 8 h ha
theorem cj8 {l_ observers now fresh up t89 t90}:ak5 l_ observers now fresh (.s4 up t89 t90) (aL7 l_ observers now fresh up t89 t90):=by
 intro r x h ha;unfold aL7 at h
 refine zs 7 h (fun h=> ?_) fun h=> ?_
 ·
  refine zn 7 h fun h=> ?_
  refine dk0 (Option.map (fun d=> [d]) (List.flatten (List.map (d7 .i64) t89))[t90.toNat*1]?) (d7 .i64) h (by kernel_rfl) (dz8 _ _ (fun _=>rfl) _ _) (fun y3 h4 h=> ?_)
  refine zs 12 h (fun h=> ?_) fun h=> ?_
  ·
   refine zn 4 h fun h=> ?_
   exact zj 9 h ha
  exact zj 7 h ha
 exact zt 7 h ha
theorem cj0 {l_ observers now fresh t29 t30 t73 count v}:ak5 l_ observers now fresh (.s5 t29 t30 t73 count v) (aw4 l_ observers now fresh t29 t30 t73 count v):=by
 intro r x h ha;unfold aw4 at h
 refine zs 7 h (fun h=> ?_) fun h=> ?_
 ·
  refine zn 9 h fun h=> ?_
  refine zr 0 (d7 .i64) h fun y3 h=> ?_
  refine zn 1 h fun h=> ?_
  refine zn 0 h fun h=> ?_
  refine zr 0 (d7 .i64) h fun y7 h=> ?_
  refine zw 0 (a:=(List.set (List.map (d7 .i64) count) (0+t73.toNat) ((d7 .i64) (IntKind.i64.wrap (y3+(IntKind.i64.wrap ((i9 .u64 (m7 .u64 v.Up t73) 1)))))))) (b:=(List.map (d7 .i64) (List.set count (0+t73.toNat) (IntKind.i64.wrap (y3+(IntKind.i64.wrap ((i9 .u64 (m7 .u64 v.Up t73) 1)))))))) (bs7 _ _ _ _) ?_
  exact zj 6 h ha
 exact zj 7 h ha
noncomputable def aZ8 (l_:List i6) (observers now fresh:Int):Option Int:=U9 (r5 l_ observers now fresh) (.s0)
theorem cx3 {l_:List i6}{observers now:Int}{fresh r:Int} (h:aZ8 l_ observers now fresh=some r):i0 E 80 [.sl false 3 (List.map i6.enc l_),.int .i64 observers,.int .i64 now,.int .i64 fresh] [] (Rs bM0 r):=sc (fn:=Tryz.f80) (k:=false) (m:=0) (stM:=(bM4 l_ observers now fresh)) h fun s=>by
 cases s with
 | s0=>exact ck2
 | s1=>exact cg2
 | s2=>exact cl5
 | s3=>exact ci4
 | s4=>exact cj8
 | s5=>exact cj0
end Go.RX.L

namespace Go.RX.L
open Go Go.RX
def aH9 (n:Int):Bool:=decide (n≥0)&&decide (n≤1099511627776)
theorem bz8 (n:Int):au9 n=some (aH9 n):=by
 unfold au9 aH9
 cases decide (n≥0)<;>rfl
def bg1:List i6→Int→Int→Int
 | [],_,_=> -1
 | v::r,n,i=>if v.Observer=n then i else bg1 r n (i+1)
def bf9 (u:Int) (b:Nat):Int:=if u.toNat.testBit b then 1 else 0
theorem de4 (u:Int) (b:Nat):0≤bf9 u b∧bf9 u b≤1:=by unfold bf9;split<;>omega
def V2 (p:Nat→Bool):Nat→Nat
 | 0=>0
 | b+1=>if p b then V2 p b ||| 2^b else V2 p b
theorem bn0 (p:Nat→Bool):∀n,V2 p n<2^n
 | 0=>by simp [V2]
 | n+1=>by
  have ih:=bn0 p n
  have h2:2^n<2^(n+1):=Nat.pow_lt_pow_right (by decide) (by omega)
  simp only [V2]
  split
  ·exact Nat.or_lt_two_pow (by omega) h2
  ·omega
def bD1 (l:List i6) (o n f:Int) (i:Nat) (v:i6):Bool:=
 !(decide (v.Observer<0))&&(!(decide (v.Observer≥o))&&(aH9 v.At&&(!(decide (v.At>n))&&(!(decide (v.At<n-f))&& !(decide (bg1 l v.Observer 0<i))))))
def W7 (l:List i6) (o n f:Int) (b:Nat):Nat→Int
 | 0=>0
 | i+1=>W7 l o n f b i+(match l[i]? with | some v=>if bD1 l o n f i v then bf9 v.Up b else 0 | none=>0)
theorem cy7 (l:List i6) (o n f:Int) (b:Nat):∀i,0≤W7 l o n f b i∧W7 l o n f b i≤i
 | 0=>by simp [W7]
 | i+1=>by
  have ih:=cy7 l o n f b i
  simp only [W7]
  split
  ·rename_i v _
   have:=de4 v.Up b
   split<;>omega
  ·omega
def bn9 (l:List i6) (o n f:Int):Nat:=
 if aH9 n&&(aH9 f&& !(decide (o<1))) then V2 (fun b=>decide (W7 l o n f b l.length>o-W7 l o n f b l.length)) 64 else 0
theorem ds6 (l:List i6) (o n f:Int):bn9 l o n f<18446744073709551616:=by
 unfold bn9
 split
 ·exact bn0 _ 64
 ·decide
structure VOk (v:i6):Prop where
 who: -9223372036854775808≤v.Observer∧v.Observer≤9223372036854775807
 up:0≤v.Up∧v.Up≤18446744073709551615
 at_: -9223372036854775808≤v.At∧v.At≤9223372036854775807
theorem wSV {k:Nat} (h:k≤3000000):IntKind.i64.wrap ((k:Int)+1)=((k+1:Nat):Int):=by rw [u4 (by omega) (by omega)];norm_cast
theorem dF5 (l:List i6) (n:Int) (hl:l.length≤300000):∀(j k:Nat),k+j=l.length→Ev E5 (.s1 l n (l.length:Nat) (k:Nat)) (bg1 (l.drop k) n k):=by
 intro j
 induction j with
 | zero=>
  intro k hk
  rw [List.drop_eq_nil_of_le (by omega)]
  refine .done ?_
  simp only [E5,H3,geB (show l.length≤k by omega),cond_false,bg1]
 | succ j ih=>
  intro k hk
  have hkl:k<l.length:=by omega
  rw [List.drop_eq_getElem_cons hkl,bg1]
  by_cases h:l[k].Observer=n
  ·rw [if_pos h]
   refine .done ?_
   simp only [E5,H3,List.length_map,K0 hkl,S5,Bool.and_self,cond_true,Int.toNat_natCast,List.getE hkl,Option.bind_some,aS2,beq_iff_eq.2 h]
  ·rw [if_neg h]
   refine .next (s' := .s1 l n l.length ((k+1:Nat):Int)) ?_ (by have:=ih (k+1) (by omega);simpa using this)
   simp only [E5,H3,List.length_map,K0 hkl,S5,Bool.and_self,cond_true,Int.toNat_natCast,List.getE hkl,Option.bind_some,aS2,beq_eq_false_iff_ne.2 h,cond_false,wSV (show k≤3000000 by omega)]
theorem ixf (l:List i6) (n:Int) (hl:l.length≤300000):Y4 l n=some (bg1 l n 0):=
 u0 (.next (s' := .s1 l n l.length 0) (by simp [E5,T5]) (by have:=dF5 l n hl l.length 0 (by omega);simpa using this))
theorem dW5 (l:List i6) (n:Int):∀(i:Int),bg1 l n i= -1∨∃j:Nat,j<l.length∧bg1 l n i=i+j:=by
 induction l with
 | nil=>intro i;exact .inl rfl
 | cons v l ih=>
  intro i
  by_cases h:v.Observer=n
  ·exact .inr ⟨0,by simp,by rw [bg1,if_pos h];simp⟩
  ·rw [bg1,if_neg h]
   rcases ih (i+1) with h1 | ⟨j,h1,h2⟩
   ·exact .inl h1
   ·exact .inr ⟨j+1,by simp;omega,by rw [h2];push_cast;omega⟩
def bJ3 (l:List i6) (v:i6):List i6:=if bg1 l v.Observer 0= -1 then l++ [v] else l.set (bg1 l v.Observer 0).toNat v
theorem dE3 (l:List i6) (v:i6):(bJ3 l v).length≤l.length+1:=by
 unfold bJ3;split<;>simp
theorem dC7 {l:List i6}{v x:i6} (h:x∈bJ3 l v):x∈l∨x=v:=by
 unfold bJ3 at h
 split at h
 ·rcases List.mem_append.1 h with h | h
  ·exact .inl h
  ·exact .inr (List.mem_singleton.1 h)
 ·exact List.mem_or_eq_of_mem_set h
theorem dM6 (l:List i6) (v:i6) (hl:l.length≤300000):bc9 l v=some (bJ3 l v):=by
 have e0:decide ((0+l.length)*24≤i7)=true:=D3 (by omega)
 have e1:decide ((l.length+1)*24≤i7)=true:=D3 (by omega)
 have e2:aX3 v.Observer=some ():=rfl
 simp only [bc9,aA1,List.length_map,e0,cond_true,Option.bind_some,e2,ixf l v.Observer hl,e1,bJ3]
 rcases dW5 l v.Observer 0 with h | ⟨j,h1,h2⟩
 ·rw [h]
  rfl
 ·rw [h2]
  have a:decide ((0:Int)+(j:Int)≥0)=true:=by simp
  have b:(decide ((0:Int)≤0+(j:Int))&&decide ((0:Int)+(j:Int)<((l.length:Nat):Int)))=true:=by simp;omega
  have c:¬((0:Int)+(j:Int)= -1):=by omega
  have d:((0:Int)+(j:Int)).toNat=j:=by omega
  have b2:decide ((0:Int)+(j:Int)<((l.length:Nat):Int))=true:=by simp;omega
  simp only [a,cond_true,b2,Bool.and_self,d,Nat.zero_add,List.getE h1,Option.bind_some,if_neg c]
/-! ### counts -/
def Z1 (g:Nat→Int):List Int:=(List.range 64).map g
theorem bJ2 {g:Nat→Int}{b:Nat} (h:b<64):(Z1 g)[b]? =some (g b):=by simp [Z1,h]
theorem bq4 (g:Nat→Int):(Z1 g).length=64:=by simp [Z1]
theorem bI0 {g g' :Nat→Int} (h:∀b,b<64→g b=g' b):Z1 g=Z1 g' :=List.map_congr_left fun b hb=>h b (List.mem_range.1 hb)
theorem dB4 {g:Nat→Int}{b:Nat} (h:b<64) (c:Int):(Z1 g).set b c=Z1 fun j=>if j=b then c else g j:=by
 refine List.ext_getElem? fun j=> ?_
 by_cases hj:j<64
 ·rw [bJ2 hj]
  by_cases hjb:b=j
  ·subst hjb
   rw [List.getElem?_set_self (by rw [bq4];exact h)];simp
  ·rw [List.getElem?_set_ne hjb,bJ2 hj,if_neg fun e=>hjb e.symm]
 ·rw [List.getElem?_eq_none (by rw [List.length_set,bq4];omega),List.getElem?_eq_none (by rw [bq4];omega)]
section
variable {l : List i6} {o n f : Int}
theorem ds1 {r:Int}{v:i6} (hv:VOk v) {i:Nat} (hi:i≤300000):∀(j b:Nat) (g:Nat→Int),b+j=64→(∀x,0≤g x∧g x≤300001∧(b≤x→g x≤300000))→
  Ev (r5 l o n f) (.s2 (l.length:Nat) ((i+1:Nat):Int) (Z1 fun x=>if b≤x then g x+bf9 v.Up x else g x)) r→Ev (r5 l o n f) (.s5 (l.length:Nat) (i:Nat) (b:Nat) (Z1 g) v) r:=by
 intro j
 induction j with
 | zero=>
  intro b g hb hg hk
  refine .next (s' := .s2 (l.length:Nat) ((i+1:Nat):Int) (Z1 g)) ?_ ?_
  ·have:decide ((b:Int)<64)=false:=by simp;omega
   simp only [r5,aw4,this,cond_false,wSV (show i≤3000000 by omega)]
  ·rw [bI0 (g' :=g) fun x hx=>if_neg (by omega)] at hk
   exact hk
 | succ j ih=>
  intro b g hb hg hk
  have hlt:b<64:=by omega
  have h1:decide ((b:Int)<64)=true:=by simp;omega
  have h2:decide ((b:Int)<((64:Nat):Int))=true:=by simp;omega
  have h3:(!decide ((b:Int)<0))=true:=nn0 b
  have g1:=hg b
  have hbit:IntKind.i64.wrap (i9 .u64 (m7 .u64 v.Up (b:Int)) 1)=bf9 v.Up b:=by
   obtain ⟨m,hm⟩:=Int.eq_ofNat_of_zero_le hv.up.1
   have:=hv.up.2
   rw [hm,dS2 (by omega) (by omega)]
   unfold bf9
   rw [Int.toNat_natCast]
   split<;>rfl
  have b01:=de4 v.Up b
  have hw:IntKind.i64.wrap (g b+bf9 v.Up b)=g b+bf9 v.Up b:=u4 (by omega) (by omega)
  refine .next (s' := .s5 (l.length:Nat) (i:Nat) ((b+1:Nat):Int) (Z1 fun x=>if x=b then g b+bf9 v.Up b else g x) v) ?_ (ih (b+1) _ (by omega) ?_ ?_)
  ·simp only [r5,aw4,h1,cond_true,S5,h2,Bool.and_self,Int.toNat_natCast,Nat.zero_add,bJ2 hlt,Option.bind_some,h3,hbit,hw,dB4 hlt,wSV (show b≤3000000 by omega)]
  ·intro x
   have g2:=hg x
   by_cases h:x=b
   ·simp only [if_pos h];omega
   ·simp only [if_neg h];omega
  ·rw [bI0 (g' :=fun x=>if b≤x then g x+bf9 v.Up x else g x)]
   ·exact hk
   ·intro x hx
    by_cases h:x=b
    ·subst h;rw [if_neg (by omega),if_pos rfl,if_pos (Nat.le_refl _)]
    ·by_cases h4:b≤x
     ·simp only [if_neg h,if_pos h4,if_pos (show b+1≤x by omega)]
     ·simp only [if_neg h,if_neg h4,if_neg (show ¬b+1≤x by omega)]
theorem dv4 {r:Int} (hl:l.length≤300000) (hv:∀v∈l,VOk v) (tn:aH9 n=true) (tf:aH9 f=true):∀(j i:Nat),i+j=l.length→
  Ev (r5 l o n f) (.s2 (l.length:Nat) (l.length:Nat) (Z1 fun b=>W7 l o n f b l.length)) r→Ev (r5 l o n f) (.s2 (l.length:Nat) (i:Nat) (Z1 fun b=>W7 l o n f b i)) r:=by
 intro j
 induction j with
 | zero=>
  intro i hi hk
  obtain rfl:i=l.length:=by omega
  exact hk
 | succ j ih=>
  intro i hi hk
  have hlt:i<l.length:=by omega
  have hvi:=hv _ (List.getElem_mem hlt)
  have hnf:IntKind.i64.wrap (n-f)=n-f:=by
   simp only [aH9,Bool.and_eq_true,decide_eq_true_eq] at tn tf
   exact u4 (by omega) (by omega)
  have s3:Ev (r5 l o n f) (.s3 (l.length:Nat) (i:Nat) (!(bD1 l o n f i l[i])) (Z1 fun b=>W7 l o n f b i) l[i]) r:=by
   have nx:=ih (i+1) (by omega) hk
   have hc:∀b,W7 l o n f b (i+1)=W7 l o n f b i+if bD1 l o n f i l[i] then bf9 l[i].Up b else 0:=fun b=>by
    simp only [W7,List.getE hlt]
   cases hb:bD1 l o n f i l[i] with
   | false=>
    refine .next (s' := .s2 (l.length:Nat) ((i+1:Nat):Int) (Z1 fun b=>W7 l o n f b i)) ?_ ?_
    ·simp only [r5,ax4,Bool.not_false,cond_true,wSV (show i≤3000000 by omega)]
    ·rw [bI0 (g' :=fun b=>W7 l o n f b (i+1)) fun b _=>by rw [hc,hb];simp]
     exact nx
   | true=>
    refine .next (s' := .s5 (l.length:Nat) (i:Nat) ((0:Nat):Int) (Z1 fun b=>W7 l o n f b i) l[i]) ?_ (ds1 hvi (by omega) 64 0 _ rfl (fun x=> ?_) ?_)
    ·simp only [r5,ax4,Bool.not_true,cond_false];rfl
    ·have:=cy7 l o n f x i
     omega
    ·rw [bI0 (g' :=fun b=>W7 l o n f b (i+1)) fun b _=>by rw [hc,hb];simp]
     exact nx
  have hbr:∀{b:Bool}{A:Option (M3⊕Int)},(bif b then some (.inl (.s3 (l.length:Nat) (i:Nat) true (Z1 fun b=>W7 l o n f b i) l[i])) else A)=(if b=true then some (.inl (.s3 (l.length:Nat) (i:Nat) true (Z1 fun b=>W7 l o n f b i) l[i])) else A):=fun {b A}=>by cases b<;>rfl
  refine .next (s' := .s3 (l.length:Nat) (i:Nat) (!(bD1 l o n f i l[i])) (Z1 fun b=>W7 l o n f b i) l[i]) ?_ s3
  have e0:aX3 l[i].Observer=some ():=rfl
  simp only [r5,aw6,K0 hlt,cond_true,List.length_map,S5,Bool.and_self,Int.toNat_natCast,List.getE hlt,Option.bind_some,bz8,hnf,e0,ixf l _ hl,bD1]
  cases decide (l[i].Observer<0) with
  | true=>rfl
  | false=>
   cases decide (l[i].Observer≥o) with
   | true=>rfl
   | false=>
    cases aH9 l[i].At with
    | false=>rfl
    | true=>
     cases decide (l[i].At>n) with
     | true=>rfl
     | false=>
      cases decide (l[i].At<n-f) with
      | true=>rfl
      | false=>simp
theorem dE4 (g:Nat→Int) (hg:∀b,0≤g b∧g b≤300000) (ho:1≤o∧o≤9223372036854775807):∀(j b:Nat),b+j=64→
  Ev (r5 l o n f) (.s4 (V2 (fun b=>decide (g b>o-g b)) b:Nat) (Z1 g) (b:Nat)) ((V2 (fun b=>decide (g b>o-g b)) 64:Nat):Int):=by
 intro j
 induction j with
 | zero=>
  intro b hb
  obtain rfl:b=64:=by omega
  exact .done rfl
 | succ j ih=>
  intro b hb
  have hlt:b<64:=by omega
  have h1:decide ((b:Int)<64)=true:=by simp;omega
  have h2:decide ((b:Int)<((64:Nat):Int))=true:=by simp;omega
  have g1:=hg b
  have hw:IntKind.i64.wrap (o-g b)=o-g b:=u4 (by omega) (by omega)
  refine .next (s' := .s4 (V2 (fun b=>decide (g b>o-g b)) (b+1):Nat) (Z1 g) ((b+1:Nat):Int)) ?_ (ih (b+1) (by omega))
  simp only [r5,aL7,h1,cond_true,S5,h2,Bool.and_self,Int.toNat_natCast,bJ2 hlt,Option.bind_some,hw,nn0,wSV (show b≤3000000 by omega),V2]
  have hu:=bn0 (fun b=>decide (g b>o-g b)) b
  have hp:(2:Nat)^b≤2^63:=Nat.pow_le_pow_right (by decide) (by omega)
  by_cases h:g b>o-g b
  ·simp only [decide_eq_true h,cond_true,if_true]
   rw [bd8 hlt,bX7 (by omega) (by omega)]
  ·simp only [decide_eq_false h,cond_false,if_false,Bool.false_eq_true]
theorem dU0 (hl:l.length≤300000) (hv:∀v∈l,VOk v) (ho:o≤9223372036854775807):aZ8 l o n f=some ((bn9 l o n f:Nat):Int):=by
 have out:∀{s},Ev (r5 l o n f) s 0→r5 l o n f .s0=some (.inl s)→¬((aH9 n&&(aH9 f&& !(decide (o<1))))=true)→aZ8 l o n f=some ((bn9 l o n f:Nat):Int):=fun {s} h1 h2 h3=>by
  unfold bn9
  rw [if_neg h3]
  exact u0 (.next h2 h1)
 have t1:Ev (r5 l o n f) (.s1 true) 0:= .done rfl
 cases tn:aH9 n with
 | false=>exact out t1 (by simp only [r5,ab4,bz8,tn,Option.bind_some,Bool.not_false,cond_true]) (by rw [tn];simp)
 | true=>
  cases tf:aH9 f with
  | false=>exact out t1 (by simp only [r5,ab4,bz8,tn,tf,Option.bind_some,Bool.not_false,Bool.not_true,cond_false,cond_true]) (by rw [tn,tf];simp)
  | true=>
   by_cases h1:o<1
   ·exact out t1 (by simp only [r5,ab4,bz8,tn,tf,Option.bind_some,Bool.not_true,cond_false,decide_eq_true h1]) (by rw [tn,tf,decide_eq_true h1];simp)
   ·unfold bn9
    rw [if_pos (by rw [tn,tf,decide_eq_false h1];rfl)]
    refine u0 (.next (s' := .s1 false) (by simp only [r5,ab4,bz8,tn,tf,Option.bind_some,Bool.not_true,cond_false,decide_eq_false h1]) (.next (s' := .s2 (l.length:Nat) ((0:Nat):Int) (Z1 fun b=>W7 l o n f b 0)) ?_ (dv4 hl hv tn tf l.length 0 (by omega) (.next (s' := .s4 ((V2 (fun b=>decide (W7 l o n f b l.length>o-W7 l o n f b l.length)) 0:Nat):Int) (Z1 fun b=>W7 l o n f b l.length) ((0:Nat):Int)) ?_ (dE4 (fun b=>W7 l o n f b l.length) (fun b=> ?_) ⟨by omega,ho⟩ 64 0 rfl)))))
    ·simp only [r5,aM4,cond_false,List.length_map]
     rfl
    ·simp only [r5,aw6,geB (Nat.le_refl _),cond_false,List.length_map,bq4]
     have:List.take 64 (List.drop 0 (Z1 fun b=>W7 l o n f b l.length))=Z1 fun b=>W7 l o n f b l.length:=by
      rw [List.drop_zero,List.take_of_length_le (by rw [bq4];decide)]
     rw [this]
     rfl
    ·have:=cy7 l o n f b l.length
     omega
end
end Go.RX.L

namespace Go.RX.L
open Go Go.RX Go.Proofs
attribute [local irreducible] f5
noncomputable def aI2:=n8 (p6 Tryz.f139)
noncomputable def bg5 (y:Int):D×f3:=(.int .i64 y,[])
abbrev aI5:=AOk E (Cx.of Tryz.f139 false 0) bg5
noncomputable def bU2 (x_2 n:Int):M:=⟨[.code (aI2 [1,1,1,1])],[(0,.int .u64 x_2),(2,.int .i64 n)],[]⟩
noncomputable def T8 (x_2 n:Int):Option Int:=(bif ((decide ((0:Int)≤(IntKind.u8.wrap (x_2))))&&(decide (((IntKind.u8.wrap (x_2)):Int)<((256:Nat):Int)))) then (((bf1)[(IntKind.u8.wrap (x_2)).toNat]?).bind fun y2=>(some (IntKind.i64.wrap (n+(IntKind.i64.wrap (((UInt8.toNat y2:Nat):Int))))))) else none)
theorem aR7 {x_2 n}:aI5 (bU2 x_2 n) (T8 x_2 n):=by
 intro r h;unfold T8 at h
 refine zn 6 h fun h=> ?_
 refine dk0 (Option.map s8 (bf1)[(IntKind.u8.wrap (x_2)).toNat]?) s8 h (by kernel_rfl) rfl (fun y2 h3 h=> ?_)
 exact zu 5 h
noncomputable def bQ4 (x_2 n:Int):M:=⟨[.code (aI2 [1,1,1])],[(0,.int .u64 x_2),(2,.int .i64 n)],[]⟩
noncomputable def ae0 (x_2 n:Int):Option Int:=(bif (decide ((x_2:Int)≥256)) then (T8 (m7 .u64 x_2 8) (IntKind.i64.wrap (n+8))) else (T8 x_2 n))
theorem aU5 {x_2 n}:aI5 (bQ4 x_2 n) (ae0 x_2 n):=by
 intro r h;unfold ae0 at h
 refine zs 7 h (fun h=> ?_) fun h=> ?_
 ·
  exact zg 12 (aR7 h)
 exact zg 1 (aR7 h)
noncomputable def bO9 (x_2 n:Int):M:=⟨[.code (aI2 [1,1])],[(0,.int .u64 x_2),(2,.int .i64 n)],[]⟩
noncomputable def ad2 (x_2 n:Int):Option Int:=(bif (decide ((x_2:Int)≥65536)) then (ae0 (m7 .u64 x_2 16) (IntKind.i64.wrap (n+16))) else (ae0 x_2 n))
theorem aT2 {x_2 n}:aI5 (bO9 x_2 n) (ad2 x_2 n):=by
 intro r h;unfold ad2 at h
 refine zs 7 h (fun h=> ?_) fun h=> ?_
 ·
  exact zg 12 (aU5 h)
 exact zg 1 (aU5 h)
noncomputable def am1 (x_:Int):Option Int:=(bif (decide ((x_:Int)≥4294967296)) then (ad2 (m7 .u64 x_ 32) 32) else (ad2 x_ 0))
theorem bW9 {x_ r:Int} (h:am1 x_=some r):i0 E 139 [.int .u64 x_] [] (Rs bg5 r):=so (fn:=Tryz.f139) (k:=false) (m:=0) h<| by
 intro r h;unfold am1 at h
 refine zs 11 h (fun h=> ?_) fun h=> ?_
 ·
  exact zg 10 (aT2 h)
 exact zg 1 (aT2 h)
end Go.RX.L

namespace Go.RX.L
open Go Go.RX Go.Proofs
attribute [local irreducible] f5
noncomputable def bb9 (y:Int):D×f3:=(.int .i64 y,[])
noncomputable def L2 (x_:Int):Option Int:=(bif ((x_:Int)==0) then (some 64) else (bif ((decide ((0:Int)≤(m7 .u64 (IntKind.u64.wrap ((i9 .u64 x_ (IntKind.u64.wrap ((0:Int)-x_)))*285870213051353865)) 58)))&&(decide (((m7 .u64 (IntKind.u64.wrap ((i9 .u64 x_ (IntKind.u64.wrap ((0:Int)-x_)))*285870213051353865)) 58):Int)<((64:Nat):Int)))) then (((gl_deBruijn64tab)[(0+(m7 .u64 (IntKind.u64.wrap ((i9 .u64 x_ (IntKind.u64.wrap ((0:Int)-x_)))*285870213051353865)) 58).toNat)]?).bind fun y3=>(some (IntKind.i64.wrap (y3)))) else none))
theorem aX4 {x_ r:Int} (h:L2 x_=some r):i0 E 158 [.int .u64 x_] [] (Rs bb9 r):=so (fn:=Tryz.f158) (k:=false) (m:=0) h<| by
 intro r h;unfold L2 at h
 refine zs 11 h (fun h=> ?_) fun h=> ?_
 ·
  exact zu 5 h
 refine zn 11 h fun h=> ?_
 refine zr 1 (d7 .u8) h fun y3 h=> ?_
 exact zu 4 h
end Go.RX.L

namespace Go.RX.L
open Go Go.RX Go.Proofs
attribute [local irreducible] f5
noncomputable def bW0:=n8 (p6 Tryz.f157)
def G7 (y:Int):List D:= [D.int .i64 y]
inductive I5 where
 | s0 (b0:Int)
 | s1 (b02:Int)
noncomputable def L9 (l:Nat):I5→M
 | .s0 b0=>⟨[.code (p6 Tryz.f157)],[(0,D.yld l),(1,D.ptr 0 0 0)],[some ⟨1,false,[[D.int .u64 b0]]⟩]⟩
 | .s1 b02=>⟨[.lpc (bW0 [0,0]) 3,.blk 0],[(0,D.yld l),(1,D.ptr 0 0 0)],[some ⟨1,false,[[D.int .u64 b02]]⟩]⟩
noncomputable def aC3 (b0:Int):Option (List Int×Option I5):=(some ([],some (.s1 b0)))
noncomputable def al6 (b02:Int):Option (List Int×Option I5):=(bif ((b02:Int) !=0) then ((L2 b02).bind fun y2=>(Option.map (fun p=>(y2::p.1,p.2)) (some ([],some (.s1 (i9 .u64 b02 (IntKind.u64.wrap (b02-1)))))))) else (some ([],none)))
noncomputable def V8:I5→f3
 | .s0 b0=> []
 | .s1 b02=> []
noncomputable def R3:I5→Option (List Int×Option I5)
 | .s0 b0=>aC3 b0
 | .s1 b02=>al6 b02
theorem bz5 {l:Nat}{ln:f3}{φ0:p9}{J:Option (List (List D))→World→(Nat→Prop)→(Nat→Prop)→Prop}{b0:Int}{x:List Int×Option I5}{Y:List (List D)} (hl:V8 (.s0 b0)=ln) (h:aC3 b0=some x) (ha:Z4 E ln (Cx.seq Tryz.f157 1 ln l φ0 J) G7 (L9 l) V8 x Y):f5 E (Cx.seq Tryz.f157 1 ln l φ0 J (some Y)) (fun _ s=>O0 ln s) (.go (L9 l (.s0 b0))):=by
 subst hl
 unfold aC3 at h
 refine l5 hm 3 _ ?_
 obtain rfl:=Option.some.inj h
 exact aP7 (q' := .go (L9 l (.s1 b0))) (by kernel_rfl) (K3 (by kernel_rfl) ha)
theorem bz3 {l:Nat}{ln:f3}{φ0:p9}{J:Option (List (List D))→World→(Nat→Prop)→(Nat→Prop)→Prop}{b02:Int}{x:List Int×Option I5}{Y:List (List D)} (hl:V8 (.s1 b02)=ln) (h:al6 b02=some x) (ha:Z4 E ln (Cx.seq Tryz.f157 1 ln l φ0 J) G7 (L9 l) V8 x Y):f5 E (Cx.seq Tryz.f157 1 ln l φ0 J (some Y)) (fun _ s=>O0 ln s) (.go (L9 l (.s1 b02))):=by
 subst hl
 unfold al6 at h
 refine zs 9 h (fun h=> ?_) fun h=> ?_
 ·
  refine zc 9 [] h (fun _=>aX4) fun y2 h=> ?_
  refine l5 hm 1 _ ?_
  refine bJ7 (x:=y2) (s:= [some ⟨1,false,[[D.int .u64 b02]]⟩]) h ha (by kernel_rfl) (by kernel_rfl) ?_ (fun p Y h ha=> ?_)
  ·--it is stopped
   refine l5 hm 5 _ ?_
   exact bo1 (d:=D.tup []) (s:= [some ⟨1,false,[[D.int .u64 b02]]⟩]) (by kernel_rfl) (by kernel_rfl)
  ·--it goes on
   refine l5 hm 18 _ ?_
   obtain rfl:=Option.some.inj h
   exact aP7 (q' := .go (L9 l (.s1 (i9 .u64 b02 (IntKind.u64.wrap (b02-1)))))) (by kernel_rfl) (K3 (by kernel_rfl) ha)
 refine l5 hm 2 _ ?_
 obtain rfl:=Option.some.inj h
 exact bE4 (d:=D.tup []) (s:= [some ⟨1,false,[[D.int .u64 b02]]⟩]) (by kernel_rfl) (by kernel_rfl) ha
noncomputable def au5 (b0:Int):Option (List Int):=evl R3 (.s0 b0)
theorem bO0 {b0:Int}{r:List Int} (h:au5 b0=some r):ah7 E 157 [D.ptr 0 0 0] [some ⟨1,false,[[D.int .u64 b0]]⟩] [] (List.map G7 r):=
 bz1 (m:=fun l=>L9 l (.s0 b0)) (fn:=Tryz.f157) (by kernel_rfl) (fun l=>by kernel_rfl) (show List.take _ _=_ by kernel_rfl) (show A9 _ _=_ by kernel_rfl) (fun l φ0 J=>bn3 (step:=R3) (lnS:=V8) (fun s x Y hl hs ha=>by
  cases s with
  | s0=>exact bz5 hl hs ha
  | s1=>exact bz3 hl hs ha) (by kernel_rfl) (bE3 h))
end Go.RX.L

namespace Go.RX.L
open Go Go.RX Go.Proofs
attribute [local irreducible] f5
noncomputable def dc6 (y:Bool):D×f3:=(.bool y,[])
noncomputable def ag1 (mask_ i:Int):Option Bool:=(bif (decide ((i:Int)≥0)) then (bif (!decide ((i:Int)<0)) then (some (((i9 .u64 mask_ (E6 .u64 1 i)):Int) !=0)) else none) else (some false))
theorem bo6 {mask_ i:Int}{r:Bool} (h:ag1 mask_ i=some r):i0 E 112 [.int .u64 mask_,.int .i64 i] [] (Rs dc6 r):=so (fn:=Tryz.f112) (k:=false) (m:=0) h<| by
 intro r h;unfold ag1 at h
 refine zs 10 h (fun h=> ?_) fun h=> ?_
 ·
  refine zn 4 h fun h=> ?_
  exact zu 9 h
 exact zu 13 h
end Go.RX.L

namespace Go.RX.L
open Go Go.RX
/-! ### how long -/
def bS4 (x:Nat):Nat:=match bf1[x]? with | some y=>y.toNat | none=>0
noncomputable def dx1:Bool:=decide (bf1.length=256)&&bf1.zipIdx.all fun p=>(List.range 9).all fun t=>Nat.ble p.1.toNat t==Nat.blt p.2 (2^t)
theorem dr7:dx1=true:=by kernel_rfl
theorem df6 {x:Nat} (h:x<256):(∃y,bf1[x]? =some y∧y.toNat=bS4 x)∧∀t,t≤8→(bS4 x≤t↔x<2^t):=by
 have h0:=dr7
 simp only [dx1,Bool.and_eq_true,decide_eq_true_eq] at h0
 obtain ⟨h1,h2⟩:=h0
 have hx:x<bf1.length:=by omega
 have he:bf1[x]? =some bf1[x]:=List.getE hx
 have hl:bS4 x=(bf1[x]).toNat:=by simp only [bS4,he]
 refine ⟨⟨_,he,hl.symm⟩,fun t ht=> ?_⟩
 have h3:=List.all_eq_true.1 h2 (bf1[x],x) (by rw [List.mem_zipIdx_iff_getElem?];exact he)
 have h4:=List.all_eq_true.1 h3 t (List.mem_range.2 (by omega))
 simp only [beq_iff_eq] at h4
 rw [hl]
 constructor
 ·intro h5
  have:Nat.blt x (2^t)=true:=by rw [←h4];exact Nat.ble_eq_true_of_le h5
  exact Nat.le_of_ble_eq_true this
 ·intro h5
  have:Nat.ble (bf1[x]).toNat t=true:=by rw [h4];exact Nat.ble_eq_true_of_le h5
  exact Nat.le_of_ble_eq_true this
theorem dz2 {x:Nat} (h:x<65536):∃n:Nat,am1 x=some (n:Int)∧∀t,t≤16→(n≤t↔x<2^t):=by
 have a1:decide ((x:Int)≥4294967296)=false:=by simp;omega
 have a2:decide ((x:Int)≥65536)=false:=by simp;omega
 unfold am1
 simp only [a1,cond_false,ad2,a2,ae0]
 by_cases h2:x<256
 ·have a3:decide ((x:Int)≥256)=false:=by simp;omega
  obtain ⟨⟨y,y1,y2⟩,hl⟩:=df6 h2
  have hw:IntKind.u8.wrap (x:Int)=x:=wU8 (by omega) (by omega)
  have hy:y.toNat<256:=y.toNat_lt
  have a4:(decide ((0:Int)≤x)&&decide ((x:Int)<((256:Nat):Int)))=true:=by simp;omega
  refine ⟨bS4 x,?_,fun t ht=> ?_⟩
  ·simp only [a3,cond_false,T8,hw,a4,cond_true,Int.toNat_natCast,y1,Option.bind_some,y2]
   rw [u4 (n:=((bS4 x:Nat):Int)) (by omega) (by omega),u4 (by omega) (by omega)];simp
  ·by_cases h8:t≤8
   ·exact hl t h8
   ·have:x<2^t:=Nat.lt_of_lt_of_le h2 (by have:(2:Nat)^8≤2^t:=Nat.pow_le_pow_right (by decide) (by omega);exact this)
    have:=(hl 8 (by omega)).2 h2
    omega
 ·have a3:decide ((x:Int)≥256)=true:=by simp;omega
  have e1:m7 .u64 (x:Int) 8=((x/2^8:Nat):Int):=bR0 (by decide)
  have hq:x/2^8<256:=by omega
  obtain ⟨⟨y,y1,y2⟩,hl⟩:=df6 hq
  have hw:IntKind.u8.wrap ((x/2^8:Nat):Int)=((x/2^8:Nat):Int):=wU8 (by omega) (by omega)
  have hy:y.toNat<256:=y.toNat_lt
  have a4:(decide ((0:Int)≤((x/2^8:Nat):Int))&&decide (((x/2^8:Nat):Int)<((256:Nat):Int)))=true:=by simp;omega
  refine ⟨bS4 (x/2^8)+8,?_,fun t ht=> ?_⟩
  ·simp only [a3,cond_true,T8,e1,hw,a4,Int.toNat_natCast,y1,Option.bind_some,y2]
   rw [u4 (n:=((bS4 (x/2^8):Nat):Int)) (by omega) (by omega),u4 (n:=(0:Int)+8) (by omega) (by omega),u4 (by omega) (by omega)]
   congr 1;push_cast;omega
  ·by_cases h8:t<8
   ·have p:(2:Nat)^t≤2^8:=Nat.pow_le_pow_right (by decide) (by omega)
    omega
   ·have:=hl (t-8) (by omega)
    have e:(2:Nat)^t=2^(t-8)*2^8:=by rw [←Nat.pow_add];congr 1;omega
    rw [e,←Nat.div_lt_iff_lt_mul (by decide)]
    omega
/-! ### the lowest -/
theorem dU5:∀(m:Nat),m≠0→∃k a,m=2^k*(2*a+1):=by
 intro m
 induction m using Nat.strongRecOn with
 | _ m ih=>
  intro h
  rcases Nat.mod_two_eq_zero_or_one m with h2 | h2
  ·obtain ⟨k,a,e⟩:=ih (m/2) (by omega) (by omega)
   refine ⟨k+1,a,?_⟩
   have:m=2*(m/2):=by omega
   rw [this,e,Nat.pow_succ,←Nat.mul_assoc,Nat.mul_comm 2]
  ·exact ⟨0,m/2,by omega⟩
theorem bm7 {k a j:Nat}:(2^k*(2*a+1)).testBit j=(if j<k then false else if j=k then true else a.testBit (j-k-1)):=by
 rw [Nat.testBit_two_pow_mul]
 by_cases h:j<k
 ·have:¬j≥k:=by omega
  rw [if_pos h,decide_eq_false this,Bool.false_and]
 ·rw [if_neg h,decide_eq_true (by omega:j≥k),Bool.true_and]
  by_cases h2:j=k
  ·subst h2;simp
  ·rw [if_neg h2,show j-k=(j-k-1)+1 by omega,Nat.testBit_succ]
   congr 1
   omega
theorem dz1 {k a:Nat}:(2^k*(2*a+1))&&&(2^k*(2*a+1)-1)=2^k*(2*a+1)-2^k:=by
 have e1:2^k*(2*a+1)-1=2^k*(2*a)+(2^k-1):=by
  have:0<2^k:=Nat.pow_pos (by decide)
  rw [Nat.mul_add];omega
 have e2:2^k*(2*a+1)-2^k=2^k*(2*a):=by rw [Nat.mul_add];omega
 rw [e1,e2]
 refine Nat.eq_of_testBit_eq fun j=> ?_
 have hp:2^k-1<2^k:=Nat.sub_lt (Nat.pow_pos (by decide)) (by decide)
 rw [Nat.testBit_and,bm7,Nat.testBit_two_pow_mul_add _ hp,Nat.testBit_two_pow_mul]
 by_cases h:j<k
 ·have:¬j≥k:=by omega
  rw [if_pos h,decide_eq_false this];rfl
 ·rw [if_neg h,if_neg h,decide_eq_true (by omega:j≥k),Bool.true_and]
  by_cases h2:j=k
  ·subst h2;simp
  ·rw [if_neg h2,show j-k=(j-k-1)+1 by omega,Nat.testBit_succ]
   have:2*a/2=a:=by omega
   rw [this,Nat.add_sub_cancel,Bool.and_self]
theorem dQ1 {k a n:Nat} (hk:k+n+1=64) (ha:a<2^n):(2^k*(2*a+1))&&&(18446744073709551616-2^k*(2*a+1))=2^k:=by
 have e1:18446744073709551616-2^k*(2*a+1)=2^k*(2*(2^n-(a+1))+1):=by
  have p:(18446744073709551616:Nat)=2^k*(2*2^n):=by
   rw [show (2:Nat)*2^n=2^(n+1) by rw [Nat.pow_succ,Nat.mul_comm],←Nat.pow_add,show k+(n+1)=64 by omega]
  rw [p,←Nat.mul_sub]
  congr 1
  omega
 rw [e1]
 refine Nat.eq_of_testBit_eq fun j=> ?_
 rw [Nat.testBit_and,bm7,bm7,Nat.testBit_two_pow]
 by_cases h:j<k
 ·rw [if_pos h]
  simp;omega
 ·rw [if_neg h,if_neg h]
  by_cases h2:j=k
  ·subst h2;simp
  ·rw [if_neg h2,if_neg h2,Nat.testBit_two_pow_sub_succ ha]
   have:¬k=j:=fun e=>h2 e.symm
   rw [decide_eq_false this]
   cases a.testBit (j-k-1)<;>simp
noncomputable def dX3:Bool:=(List.range 64).all fun k=>match (gl_deBruijn64tab)[(2^k*285870213051353865%18446744073709551616)/2^58]? with | some y=>decide (y=(k:Int)) | none=>false
theorem dC6:dX3=true:=by kernel_rfl
theorem eb2 {m:Nat} (h0:0<m) (h:m<18446744073709551616):IntKind.u64.wrap ((0:Int)-m)=((18446744073709551616-m:Nat):Int):=by
 simp only [IntKind.wrap,IntKind.signed,IntKind.bits]
 simp
 omega
theorem eb4 (n:Nat):IntKind.u64.wrap (n:Int)=((n%18446744073709551616:Nat):Int):=by
 simp only [IntKind.wrap,IntKind.signed,IntKind.bits]
 simp
theorem dY7 {k a n:Nat} (hk:k+n+1=64) (ha:a<2^n):2^k*(2*a+1)<18446744073709551616:=by
 have p:2^k*(2*2^n)=2^64:=by
  rw [show (2:Nat)*2^n=2^(n+1) by rw [Nat.pow_succ,Nat.mul_comm],←Nat.pow_add,show k+(n+1)=64 by omega]
 have:2^k*(2*a+1)<2^k*(2*2^n):=Nat.mul_lt_mul_of_pos_left (by omega) (Nat.pow_pos (by decide))
 omega
theorem dV8 {k:Nat} (hk:k<64):∃x:Nat,x<18446744073709551616∧x=2^k*285870213051353865%18446744073709551616∧(gl_deBruijn64tab)[x/2^58]? =some (k:Int):=by
 have ht:=List.all_eq_true.1 dC6 k (List.mem_range.2 hk)
 refine ⟨_,Nat.mod_lt _ (by omega),rfl,?_⟩
 revert ht
 generalize 2^k*285870213051353865%18446744073709551616=x
 intro ht
 cases hy:(gl_deBruijn64tab)[x/2^58]? with
 | none=>simp only [hy] at ht;cases ht
 | some y=>
  simp only [hy] at ht
  rw [of_decide_eq_true ht]
theorem dY2 {k a n:Nat} (hk:k+n+1=64) (ha:a<2^n):L2 ((2^k*(2*a+1):Nat):Int)=some (k:Int):=by
 have hlt:=dY7 hk ha
 have hpos:0<2^k*(2*a+1):=Nat.mul_pos (Nat.pow_pos (by decide)) (by omega)
 have hand:=dQ1 hk ha
 revert hlt hpos hand
 generalize 2^k*(2*a+1)=m
 intro hlt hpos hand
 have e0:((m:Int)==0)=false:=beq_eq_false_iff_ne.2 (by omega)
 have e2:i9 .u64 (m:Int) ((18446744073709551616-m:Nat):Int)=((2^k:Nat):Int):=by
  rw [bp6 hlt (by omega),hand]
 have hk64:k<64:=by omega
 obtain ⟨x,hx,hxe,ht⟩:=dV8 hk64
 have e3:IntKind.u64.wrap (((2^k:Nat):Int)*285870213051353865)=(x:Int):=by
  have hc:((2^k:Nat):Int)*285870213051353865=((2^k*285870213051353865:Nat):Int):=(Int.natCast_mul _ _).symm
  rw [hc,eb4,←hxe]
 have e4:m7 .u64 (x:Int) 58=((x/2^58:Nat):Int):=bR0 (by decide)
 have hq:x/2^58<64:=by omega
 revert e4 ht hq
 generalize x/2^58=z
 intro ht e4 hq
 have a4:(decide ((0:Int)≤(z:Int))&&decide ((z:Int)<((64:Nat):Int)))=true:=by simp;omega
 unfold L2
 simp only [e0,cond_false,eb2 hpos hlt,e2,e3,e4,a4,cond_true,Int.toNat_natCast,Nat.zero_add,ht,Option.bind_some]
 rw [u4 (by omega) (by omega)]
/-! ### members -/
def aL6 (m:Nat):List Int:=((List.range 16).filter fun i=>m.testBit i).map fun (i:Nat)=>(i:Int)
theorem dj6 {k a:Nat} (hk:k<16):(List.range 16).filter (fun i=>(2^k*(2*a+1)).testBit i)=k::(List.range 16).filter (fun i=>(2^k*(2*a+1)-2^k).testBit i):=by
 have e2:2^k*(2*a+1)-2^k=2^k*(2*a):=by rw [Nat.mul_add];omega
 rw [e2]
 have sp:List.range 16=List.range k++k::(List.range' (k+1) (15-k)):=by
  rw [List.range_eq_range',List.range_eq_range']
  have h1:=List.range'_append_1 (s:=0) (m:=k) (n:=16-k)
  rw [show k+(16-k)=16 by omega] at h1
  rw [←h1,Nat.zero_add,show 16-k=(15-k)+1 by omega,List.range'_succ]
 have b1:∀i,(2^k*(2*a)).testBit i=(decide (k<i)&&a.testBit (i-k-1)):=fun i=>by
  rw [Nat.testBit_two_pow_mul]
  by_cases h:i≤k
  ·rw [decide_eq_false (by omega:¬k<i),Bool.false_and]
   by_cases h2:i=k
   ·subst h2;simp
   ·rw [decide_eq_false (by omega:¬i≥k),Bool.false_and]
  ·rw [decide_eq_true (by omega:i≥k),decide_eq_true (by omega:k<i),Bool.true_and,Bool.true_and,show i-k=(i-k-1)+1 by omega,Nat.testBit_succ]
   congr 1
   omega
 rw [sp,List.filter_append,List.filter_append]
 have z1:(List.range k).filter (fun i=>(2^k*(2*a+1)).testBit i)= []:=List.filter_eq_nil_iff.2 fun i hi=>by
  rw [bm7,if_pos (List.mem_range.1 hi)];simp
 have z2:(List.range k).filter (fun i=>(2^k*(2*a)).testBit i)= []:=List.filter_eq_nil_iff.2 fun i hi=>by
  rw [b1,decide_eq_false (by have:=List.mem_range.1 hi;omega)];simp
 rw [z1,z2,List.nil_append,List.nil_append,List.filter_cons,List.filter_cons]
 have c1:(2^k*(2*a+1)).testBit k=true:=by rw [bm7];simp
 have c2:(2^k*(2*a)).testBit k=false:=by rw [b1];simp
 rw [c1,c2]
 simp only [if_true,Bool.false_eq_true,if_false]
 congr 1
 refine List.filter_congr fun i hi=> ?_
 have:=(List.mem_range'_1.1 hi).1
 rw [bm7,b1,if_neg (by omega),if_neg (by omega),decide_eq_true (by omega:k<i),Bool.true_and]
theorem dj9 {m:Nat} (hm:m<65536):au5 (m:Int)=some (aL6 m):=by
 have key:∀(m:Nat),m<65536→EvL R3 (.s1 (m:Int)) (aL6 m):=by
  intro m
  induction m using Nat.strongRecOn with
  | _ m ih=>
   intro hm
   by_cases h0:m=0
   ·subst h0
    exact .done (l:= []) rfl
   ·obtain ⟨k,a,e⟩:=dU5 m h0
    have hk:k<16:=by
     rcases Nat.lt_or_ge k 16 with h | h
     ·exact h
     ·have h1:(2:Nat)^16≤2^k:=Nat.pow_le_pow_right (by decide) h
      have h2:2^k*1≤2^k*(2*a+1):=Nat.mul_le_mul_left _ (by omega)
      omega
    have ha:a<2^(63-k):=by
     have h1:(2:Nat)^16≤2^(63-k):=Nat.pow_le_pow_right (by decide) (by omega)
     have h2:1*(2*a+1)≤2^k*(2*a+1):=Nat.mul_le_mul_right _ (Nat.pow_pos (by decide))
     omega
    have htz:=dY2 (k:=k) (a:=a) (n:=63-k) (by omega) ha
    have hf:=dj6 (a:=a) hk
    have hap:=dz1 (k:=k) (a:=a)
    have hp:0<2^k:=Nat.pow_pos (by decide)
    rw [←e] at htz hf hap
    have e0:((m:Int) !=0)=true:=by
     rw [bne_iff_ne];omega
    have e1:IntKind.u64.wrap ((m:Int)-1)=((m-1:Nat):Int):=by
     rw [cC9 (by omega) (by omega)];omega
    have e2:i9 .u64 (m:Int) ((m-1:Nat):Int)=((m-2^k:Nat):Int):=by
     rw [bp6 (by omega) (by omega),hap]
    have hb:aL6 m= [(k:Int)]++aL6 (m-2^k):=by
     unfold aL6
     rw [hf];rfl
    rw [hb]
    refine .next (s' := .s1 ((m-2^k:Nat):Int)) ?_ (ih (m-2^k) (by omega) (by omega))
    simp only [R3,al6,e0,cond_true,htz,Option.bind_some,e1,e2,Option.map_some]
 have:=EvL.next (step:=R3) (s:= .s0 (m:Int)) (s' := .s1 (m:Int)) (l:= []) rfl (key m hm)
 exact bC6 this
theorem cH9 {m:Nat}{x:Int}:x∈aL6 m↔∃i:Nat,i<16∧m.testBit i=true∧x=i:=by
 simp only [aL6,List.mem_map,List.mem_filter,List.mem_range]
 constructor
 ·rintro ⟨i,⟨h1,h2⟩,rfl⟩;exact ⟨i,h1,h2,rfl⟩
 ·rintro ⟨i,h1,h2,rfl⟩;exact ⟨i,⟨h1,h2⟩,rfl⟩
def bp8 (m:Nat) (i:Int):Bool:=decide (0≤i)&&m.testBit i.toNat
theorem cT5 {m:Nat}{i:Int} (hm:m<18446744073709551616) (hi:i<64):ag1 (m:Int) i=some (bp8 m i):=by
 unfold ag1 bp8
 by_cases h:i≥0
 ·obtain ⟨k,rfl⟩:=Int.eq_ofNat_of_zero_le h
  have hp:(2:Nat)^k<2^64:=Nat.pow_lt_pow_right (by decide) (by omega)
  rw [decide_eq_true h,nn0]
  simp only [cond_true,Bool.true_and,Int.toNat_natCast]
  rw [bd8 (by omega),bp6 hm (by omega)]
  congr 1
  cases hb:m.testBit k with
  | false=>
   rw [cs4.2 hb];rfl
  | true=>
   rw [bne_iff_ne]
   intro he
   have:m&&&2^k=0:=by exact_mod_cast he
   rw [cs4.1 this] at hb;cases hb
 ·rw [decide_eq_false h]
  rfl
end Go.RX.L

namespace Go.RX.L
open Go Go.RX Go.Proofs
attribute [local irreducible] f5
noncomputable def O3:=n8 (p6 Tryz.f145)
noncomputable def bh6 (y:Int×Bool):D×f3:=(.tup [.int .i64 y.1,.bool y.2],[])
inductive T9 where
 | s0
 | s1 (b t8 t9:Int)
 | s2 (b t8 t9:Int) (t22:Bool) (p_:n7)
noncomputable def bi1 (l_:List n7):T9→M
 | .s0=>A2 Tryz.f145 [.sl false 3 (List.map n7.enc l_)] []
 | .s1 b t8 t9=>⟨[.lpc (O3 [1,1,0,1,0,0]) 912,.blk 0,.code (O3 [1,1,1])],[(4,.int .i64 b),(7,.sl false 3 (List.map n7.enc l_)),(8,.int .i64 t8),(9,.int .i64 t9)],[]⟩
 | .s2 b t8 t9 t22 p_=>⟨[.code (O3 [1,1,0,1,0,0,1,1,0,0,1,0,1]),.code (O3 [1,1,0,1,0,0,1,1,0,0,1,1]),.blk 1,.code (O3 [1,1,0,1,0,0,1,1,1]),.lp (O3 [1,1,0,1,0,0]) 912,.blk 0,.code (O3 [1,1,1])],[(4,.int .i64 b),(6,.ptr 0 0 0),(7,.sl false 3 (List.map n7.enc l_)),(8,.int .i64 t8),(9,.int .i64 t9),(22,.bool t22)],[some ⟨3,false,[(n7.enc p_)]⟩]⟩
abbrev aI1 (l_:List n7):=SOk E (Cx.of Tryz.f145 false 0) bh6 (bi1 l_)
noncomputable def aI4 (l_:List n7):Option (T9⊕(Int×Bool)):=(some (.inl (.s1 0 (((List.map n7.enc l_).length:Nat):Int) 0)))
noncomputable def ad3 (l_:List n7) (b t8 t9:Int):Option (T9⊕(Int×Bool)):=(bif (decide ((t9:Int)<t8)) then (bif ((decide ((0:Int)≤t9))&&(decide ((t9:Int)<(((List.map n7.enc l_).length:Nat):Int)))) then (((l_)[t9.toNat]?).bind fun y3=>(bif (decide ((y3.n:Int)<0)) then (some (.inl (.s2 b t8 t9 true y3))) else (some (.inl (.s2 b t8 t9 (decide ((y3.n:Int)>y3.most)) y3))))) else none) else (some (.inr (b,true))))
noncomputable def aq2 (l_:List n7) (b t8 t9:Int) (t22:Bool) (p_:n7):Option (T9⊕(Int×Bool)):=(bif t22 then (some (.inr (0,false))) else (bif (!decide ((p_.bits:Int)<0)) then (some (.inl (.s1 (orI .i64 (E6 .i64 b p_.bits) p_.n) t8 (IntKind.i64.wrap (t9+1))))) else none))
noncomputable def N4 (l_:List n7):T9→Option (T9⊕(Int×Bool))
 | .s0=>aI4 l_
 | .s1 b t8 t9=>ad3 l_ b t8 t9
 | .s2 b t8 t9 t22 p_=>aq2 l_ b t8 t9 t22 p_
theorem bH8 {l_}:aI1 l_ .s0 (aI4 l_):=by
 intro r x h ha;unfold aI4 at h
 exact zj 19 h ha
theorem bG6 {l_ b t8 t9}:aI1 l_ (.s1 b t8 t9) (ad3 l_ b t8 t9):=by
 intro r x h ha;unfold ad3 at h
 refine zs 7 h (fun h=> ?_) fun h=> ?_
 ·
  refine zn 6 h fun h=> ?_
  refine zr 1 n7.enc h fun y3 h=> ?_
  refine zs 14 h (fun h=> ?_) fun h=> ?_
  ·
   exact zk 11 h ha
  exact zk 13 h ha
 exact zt 8 h ha
theorem bJ6 {l_ b t8 t9 t22 p_}:aI1 l_ (.s2 b t8 t9 t22 p_) (aq2 l_ b t8 t9 t22 p_):=by
 intro r x h ha;unfold aq2 at h
 refine zs 1 h (fun h=> ?_) fun h=> ?_
 ·
  exact zt 6 h ha
 refine zn 3 h fun h=> ?_
 exact zj 7 h ha
noncomputable def aS0 (l_:List n7):Option (Int×Bool):=U9 (N4 l_) (.s0)
theorem bR5 {l_:List n7}{r:Int×Bool} (h:aS0 l_=some r):i0 E 145 [.sl false 3 (List.map n7.enc l_)] [] (Rs bh6 r):=sc (fn:=Tryz.f145) (k:=false) (m:=0) (stM:=(bi1 l_)) h fun s=>by
 cases s with
 | s0=>exact bH8
 | s1=>exact bG6
 | s2=>exact bJ6
end Go.RX.L

namespace Go.RX.L
open Go Go.RX Go.Proofs
attribute [local irreducible] f5
noncomputable def cN7 (y:Int×Int):D×f3:=(.tup [.int .i64 y.1,.int .i64 y.2],[])
noncomputable def aJ5 (round boot index:Int):Option (Int×Int):=((aS0 ([(⟨30,round,1073741823⟩:n7),(⟨20,boot,1048575⟩:n7),(⟨4,index,15⟩:n7)])).bind fun y1=>(bif (!y1.2) then (some (0,1)) else (some (y1.1,0))))
theorem cB1 {round boot index:Int}{r:Int×Int} (h:aJ5 round boot index=some r):i0 E 115 [.int .i64 round,.int .i64 boot,.int .i64 index] [] (Rs cN7 r):=so (fn:=Tryz.f115) (k:=false) (m:=0) h<| by
 intro r h;unfold aJ5 at h
 refine zc 16 [] h (fun _=>bR5) fun y1 h=> ?_
 refine zs 13 h (fun h=> ?_) fun h=> ?_
 ·
  exact zu 6 h
 exact zu 8 h
end Go.RX.L

namespace Go.RX.L
open Go Go.RX Go.Proofs
attribute [local irreducible] f5
noncomputable def cO8:=n8 (p6 Tryz.f81)
noncomputable def bL3 (y:Int×Int):D×f3:=(.tup [.int .i64 y.1,.int .i64 y.2],[])
abbrev cJ5:=AOk E (Cx.of Tryz.f81 false 0) bL3
noncomputable def cz5 (n:Int):M:=⟨[.code (cO8 [1,1,1,1])],[(8,.int .i64 n)],[]⟩
noncomputable def al3 (n:Int):Option (Int×Int):=(bif (decide ((n:Int)≥18014398509481984)) then (some (0,2)) else (some (n,0)))
theorem bq0 {n}:cJ5 (cz5 n) (al3 n):=by
 intro r h;unfold al3 at h
 refine zs 7 h (fun h=> ?_) fun h=> ?_
 ·
  exact zu 6 h
 exact zu 8 h
noncomputable def aJ7 (b boot index:Int):Option (Int×Int):=((aJ5 0 boot index).bind fun y1=>(bif ((y1.2:Int) !=0) then (some (0,y1.2)) else (bif (decide ((b:Int)<y1.1)) then (some (y1.1,0)) else (bif (decide ((b:Int)≥18014398509481984)) then (some (0,2)) else (bif (decide (((IntKind.i64.wrap (y1.1+(E6 .i64 (m7 .i64 b 24) 24))):Int)≤b)) then (al3 (IntKind.i64.wrap ((IntKind.i64.wrap (y1.1+(E6 .i64 (m7 .i64 b 24) 24)))+16777216))) else (al3 (IntKind.i64.wrap (y1.1+(E6 .i64 (m7 .i64 b 24) 24)))))))))
theorem cB6 {b boot index:Int}{r:Int×Int} (h:aJ7 b boot index=some r):i0 E 81 [.int .i64 b,.int .i64 boot,.int .i64 index] [] (Rs bL3 r):=so (fn:=Tryz.f81) (k:=false) (m:=0) h<| by
 intro r h;unfold aJ7 at h
 refine zc 10 [] h (fun _=>cB1) fun y1 h=> ?_
 refine zs 15 h (fun h=> ?_) fun h=> ?_
 ·
  exact zu 7 h
 refine zs 8 h (fun h=> ?_) fun h=> ?_
 ·
  exact zu 7 h
 refine zs 7 h (fun h=> ?_) fun h=> ?_
 ·
  exact zu 6 h
 refine zs 21 h (fun h=> ?_) fun h=> ?_
 ·
  exact zg 5 (bq0 h)
 exact zg 1 (bq0 h)
end Go.RX.L

namespace Go.RX.L
open Go Go.RX
theorem dG2 {n:Nat} (h:n<9223372036854775808):(BitVec.ofInt IntKind.i64.bits (n:Int)).toNat=n:=by
 rw [BitVec.ofInt_natCast,BitVec.toNat_ofNat]
 exact Nat.mod_eq_of_lt (by show n<2^64;omega)
theorem dG8 {a b:Nat} (ha:a<9223372036854775808) (hb:b<9223372036854775808):orI .i64 a b=((a ||| b:Nat):Int):=by
 have:=Nat.or_lt_two_pow (n:=63) (x:=a) (y:=b) (by omega) (by omega)
 unfold orI
 rw [BitVec.toNat_or,dG2 ha,dG2 hb,u4 (by omega) (by omega)]
theorem dV7 {a b k:Nat} (h:b<2^k):(a*2^k ||| b)=a*2^k+b:=by
 have:=Nat.two_pow_add_eq_or_of_lt h a
 rw [Nat.mul_comm a];exact this.symm
theorem dG9 {a k:Nat} (hk:k<64) (h:a*2^k<9223372036854775808):E6 .i64 a k=((a*2^k:Nat):Int):=by
 unfold E6
 rw [show min ((k:Int)).toNat IntKind.i64.bits=k by simp [IntKind.bits];omega]
 have:(a:Int)*2^k=((a*2^k:Nat):Int):=by push_cast;rfl
 rw [this,u4 (by omega) (by omega)]
theorem dl5 {a k:Nat} (hk:k≤64):m7 .i64 a k=((a/2^k:Nat):Int):=by
 unfold m7
 rw [show min ((k:Int)).toNat IntKind.i64.bits=k by simp [IntKind.bits];omega]
 rw [Int.fdiv_eq_ediv_of_nonneg _ (by exact Int.le_of_lt (Int.pow_pos (by decide)))]
 norm_cast
theorem dI6 {boot index:Int} (hb:0≤boot∧boot≤1048575) (hi:0≤index∧index≤15):aJ5 0 boot index=some (boot*16+index,0):=by
 obtain ⟨b,rfl⟩:=Int.eq_ofNat_of_zero_le hb.1
 obtain ⟨i,rfl⟩:=Int.eq_ofNat_of_zero_le hi.1
 have hb2:b≤1048575:=by omega
 have hi2:i≤15:=by omega
 have t:aS0 [(⟨30,0,1073741823⟩:n7),(⟨20,(b:Int),1048575⟩:n7),(⟨4,(i:Int),15⟩:n7)]=some ((b:Int)*16+i,true):=by
  have s:∀(x:n7) (k:Nat) (a a' :Nat) (r:Int×Bool),k≤2→ [(⟨30,0,1073741823⟩:n7),(⟨20,(b:Int),1048575⟩:n7),(⟨4,(i:Int),15⟩:n7)][k]? =some x→0≤x.n∧x.n≤x.most→0≤x.bits→orI .i64 (E6 .i64 a x.bits) x.n=(a' :Nat)→
    Ev (N4 [(⟨30,0,1073741823⟩:n7),(⟨20,(b:Int),1048575⟩:n7),(⟨4,(i:Int),15⟩:n7)]) (.s1 (a' :Nat) 3 ((k+1:Nat):Int)) r→
    Ev (N4 [(⟨30,0,1073741823⟩:n7),(⟨20,(b:Int),1048575⟩:n7),(⟨4,(i:Int),15⟩:n7)]) (.s1 (a:Nat) 3 (k:Nat)) r:=fun x k a a' r hk hx hn hbits ho h=>by
   have h1:decide ((k:Int)<3)=true:=by simp;omega
   have h2:decide ((k:Int)<((3:Nat):Int))=true:=by simp;omega
   have h3:decide (x.n<0)=false:=by simp;omega
   have h4:decide (x.n>x.most)=false:=by simp;omega
   have h5:(!decide (x.bits<0))=true:=by simp;omega
   refine .next (s' := .s2 (a:Nat) 3 (k:Nat) false x) ?_ (.next (s' := .s1 (a' :Nat) 3 ((k+1:Nat):Int)) ?_ h)
   ·simp only [N4,ad3,h1,cond_true,S5,List.length_map,List.length_cons,List.length_nil,h2,Bool.and_self,Int.toNat_natCast,hx,Option.bind_some,h3,cond_false,h4]
   ·simp only [N4,aq2,cond_false,h5,cond_true,ho]
    rw [u4 (by omega) (by omega)];norm_cast
  refine u0 (.next (s' := .s1 ((0:Nat):Int) 3 ((0:Nat):Int)) rfl (s _ 0 0 0 _ (by decide) rfl (by simp) (by simp) rfl (s _ 1 0 b _ (by decide) rfl ⟨by simp,by simp;omega⟩ (by simp) ?_ (s _ 2 b (b*16+i) _ (by decide) rfl ⟨by simp,by simp;omega⟩ (by simp) ?_ ?_))))
  ·have:=dG8 (a:=0) (b:=b) (by decide) (by omega)
   rw [show E6 .i64 ((0:Nat):Int) 20=((0:Nat):Int) from rfl,this,Nat.zero_or]
  ·have h1:=dG9 (a:=b) (k:=4) (by decide) (by omega)
   have h2:=dG8 (a:=b*2^4) (b:=i) (by omega) (by omega)
   rw [dV7 (by omega)] at h2
   simp only at h1 h2 ⊢
   rw [show ((4:Int))=((4:Nat):Int) from rfl,h1,h2]
  ·refine .done ?_
   simp only [N4,ad3]
   rfl
 unfold aJ5
 rw [t]
 rfl
theorem dM0 {b boot index:Int} (h0:0≤b) (hb:0≤boot∧boot≤1048575) (hi:0≤index∧index≤15):
  ∃r,aJ7 b boot index=some r∧(r.2=0→b<r.1∧r.1%16777216=boot*16+index∧r.1<18014398509481984):=by
 unfold aJ7
 rw [dI6 hb hi]
 simp only [Option.bind_some,bne_self_eq_false,cond_false]
 by_cases h1:b<boot*16+index
 ·exact ⟨_,by rw [decide_eq_true h1];rfl,fun _=>⟨h1,by simp only;omega,by simp only;omega⟩⟩
 rw [decide_eq_false h1]
 simp only [cond_false]
 by_cases h2:b≥18014398509481984
 ·exact ⟨_,by rw [decide_eq_true h2];rfl,fun h=>by simp at h⟩
 rw [decide_eq_false h2]
 simp only [cond_false]
 obtain ⟨m,rfl⟩:=Int.eq_ofNat_of_zero_le h0
 have e1:m7 .i64 (m:Int) 24=((m/2^24:Nat):Int):=dl5 (by decide)
 have hd:m/2^24*2^24≤m:=Nat.div_mul_le_self _ _
 have hd9:m/2^24*2^24<9223372036854775808:=by omega
 have e2:E6 .i64 ((m/2^24:Nat):Int) 24=((m/2^24*2^24:Nat):Int):=dG9 (by decide) hd9
 have hlt:m<m/2^24*2^24+2^24:=by omega
 rw [e1,e2]
 have hq:(m/2^24*2^24:Nat)=16777216*(m/16777216):=by omega
 rw [hq] at hd hlt ⊢
 rw [u4 (n:=boot*16+index+((16777216*(m/16777216):Nat):Int)) (by omega) (by omega)]
 have fin:∀x:Int,(m:Int)<x→x%16777216=boot*16+index→∃r,al3 x=some r∧(r.2=0→(m:Int)<r.1∧r.1%16777216=boot*16+index∧r.1<18014398509481984):=fun x h3 h4=>by
  unfold al3
  by_cases h5:x≥18014398509481984
  ·exact ⟨_,by rw [decide_eq_true h5];rfl,fun h=>by simp at h⟩
  ·exact ⟨_,by rw [decide_eq_false h5];rfl,fun _=>⟨h3,h4,by simp only;omega⟩⟩
 by_cases h3:boot*16+index+((16777216*(m/16777216):Nat):Int)≤m
 ·rw [decide_eq_true h3,u4 (by omega) (by omega)]
  simp only [cond_true]
  exact fin _ (by omega) (by omega)
 ·rw [decide_eq_false h3]
  simp only [cond_false]
  exact fin _ (by omega) (by omega)
end Go.RX.L

namespace Go.RX.L
open Go Go.RX Go.Proofs
attribute [local irreducible] f5
noncomputable def cy2 (y:Bool):D×f3:=(.bool y,[])
noncomputable def ar3 (n t t2:Int):Option Bool:=(bif (decide ((n:Int)<t)) then (some true) else (some (decide ((n:Int)>t2))))
theorem cp5 {n t t2:Int}{r:Bool} (h:ar3 n t t2=some r):i0 E 96 [.int .i64 n,.iptr 1 [[.int .i64 t]] 0 0,.iptr 1 [[.int .i64 t2]] 0 0] [] (Rs cy2 r):=so (fn:=Tryz.f96) (k:=false) (m:=0) h<| by
 intro r h;unfold ar3 at h
 refine zs 12 h (fun h=> ?_) fun h=> ?_
 ·
  exact zu 9 h
 exact zu 10 h
end Go.RX.L

namespace Go.RX.L
open Go Go.RX Go.Proofs
attribute [local irreducible] f5
noncomputable def ai3:=n8 (p6 Tryz.f127)
noncomputable def ai7 (y:Int):D×f3:=(.int .i64 y,[])
inductive D9 where
 | s0 (s_:List Int) (f f2:Int)
 | s1 (s_:List Int) (f f2:Int) (t7 t8:Int)
noncomputable def ai6:D9→M
 | .s0 s_ f f2=>A2 Tryz.f127 [.sl false 1 (List.map (d7 .i64) s_),.fn 96 [] [.iptr 1 [[.int .i64 f]] 0 0,.iptr 1 [[.int .i64 f2]] 0 0]] []
 | .s1 s_ f f2 t7 t8=>⟨[.lpc (ai3 [1,0,1,0,0]) 387,.blk 0,.code (ai3 [1,1])],[(0,.sl false 1 (List.map (d7 .i64) s_)),(1,.fn 96 [] [.iptr 1 [[.int .i64 f]] 0 0,.iptr 1 [[.int .i64 f2]] 0 0]),(7,.int .i64 t7),(8,.int .i64 t8)],[]⟩
abbrev ah4:=SOk E (Cx.of Tryz.f127 false 0) ai7 ai6
noncomputable def J5 (s_:List Int) (f f2:Int):Option (D9⊕Int):=(some (.inl (.s1 s_ f f2 (((List.map (d7 .i64) s_).length:Nat):Int) 0)))
noncomputable def A0 (s_:List Int) (f f2:Int) (t7 t8:Int):Option (D9⊕Int):=(bif (decide ((t8:Int)<t7)) then (bif ((decide ((0:Int)≤t8))&&(decide ((t8:Int)<(((List.map (d7 .i64) s_).length:Nat):Int)))) then (((s_)[t8.toNat]?).bind fun y3=>((ar3 y3 f f2).bind fun y5=>(bif y5 then (some (.inr t8)) else (some (.inl (.s1 s_ f f2 t7 (IntKind.i64.wrap (t8+1)))))))) else none) else (some (.inr (-1))))
noncomputable def y0:D9→Option (D9⊕Int)
 | .s0 s_ f f2=>J5 s_ f f2
 | .s1 s_ f f2 t7 t8=>A0 s_ f f2 t7 t8
theorem aG2 {s_ f f2}:ah4 (.s0 s_ f f2) (J5 s_ f f2):=by
 intro r x h ha;unfold J5 at h
 exact zj 14 h ha
theorem aH1 {s_ f f2 t7 t8}:ah4 (.s1 s_ f f2 t7 t8) (A0 s_ f f2 t7 t8):=by
 intro r x h ha;unfold A0 at h
 refine zs 7 h (fun h=> ?_) fun h=> ?_
 ·
  refine zn 14 h fun h=> ?_
  refine zr 1 (d7 .i64) h fun y3 h=> ?_
  refine zc 1 [] h (fun _=>cp5) fun y5 h=> ?_
  refine zs 2 h (fun h=> ?_) fun h=> ?_
  ·
   exact zt 6 h ha
  exact zj 7 h ha
 exact zt 6 h ha
noncomputable def T7 (s_:List Int) (f f2:Int):Option Int:=U9 y0 (.s0 s_ f f2)
theorem aI9 {s_:List Int}{f f2 r:Int} (h:T7 s_ f f2=some r):i0 E 127 [.sl false 1 (List.map (d7 .i64) s_),.fn 96 [] [.iptr 1 [[.int .i64 f]] 0 0,.iptr 1 [[.int .i64 f2]] 0 0]] [] (Rs ai7 r):=sc (fn:=Tryz.f127) (k:=false) (m:=0) (stM:=ai6) h fun s=>by
 cases s with
 | s0=>exact aG2
 | s1=>exact aH1
end Go.RX.L

namespace Go.RX.L
open Go Go.RX Go.Proofs
attribute [local irreducible] f5
noncomputable def aH0 (y:Bool):D×f3:=(.bool y,[])
noncomputable def H7 (s_:List Int) (f f2:Int):Option Bool:=((T7 s_ f f2).bind fun y1=>(some (decide ((y1:Int)≥0))))
theorem aD8 {s_:List Int}{f f2:Int}{r:Bool} (h:H7 s_ f f2=some r):i0 E 95 [.sl false 1 (List.map (d7 .i64) s_),.fn 96 [] [.iptr 1 [[.int .i64 f]] 0 0,.iptr 1 [[.int .i64 f2]] 0 0]] [] (Rs aH0 r):=so (fn:=Tryz.f95) (k:=false) (m:=0) h<| by
 intro r h;unfold H7 at h
 refine zc 9 [] h (fun _=>aI9) fun y1 h=> ?_
 exact zu 4 h
end Go.RX.L

namespace Go.RX.L
open Go Go.RX Go.Proofs
attribute [local irreducible] f5
noncomputable def cZ1 (y:Bool):D×f3:=(.bool y,[])
noncomputable def E1 (low high:Int) (l_:List Int):Option Bool:=((H7 l_ low high).bind fun y1=>(some (!y1)))
theorem F1 {low high:Int}{l_:List Int}{r:Bool} (h:E1 low high l_=some r):i0 E 56 [.int .i64 low,.int .i64 high,.sl false 1 (List.map (d7 .i64) l_)] [] (Rs cZ1 r):=so (fn:=Tryz.f56) (k:=false) (m:=0) h<| by
 intro r h;unfold E1 at h
 refine zc 11 [] h (fun _=>aD8) fun y1 h=> ?_
 exact zu 4 h
end Go.RX.L

namespace Go.RX.L
open Go Go.RX Go.Proofs
attribute [local irreducible] f5
noncomputable def cc8 (y:Bool):D×f3:=(.bool y,[])
noncomputable def aa7 (n t t2:Int):Option Bool:=(bif (decide ((n:Int)<t)) then (some true) else (some (decide ((n:Int)>t2))))
theorem bP7 {n t t2:Int}{r:Bool} (h:aa7 n t t2=some r):i0 E 98 [.int .i64 n,.iptr 1 [[.int .i64 t]] 0 0,.iptr 1 [[.int .i64 t2]] 0 0] [] (Rs cc8 r):=so (fn:=Tryz.f98) (k:=false) (m:=0) h<| by
 intro r h;unfold aa7 at h
 refine zs 12 h (fun h=> ?_) fun h=> ?_
 ·
  exact zu 9 h
 exact zu 10 h
end Go.RX.L

namespace Go.RX.L
open Go Go.RX Go.Proofs
attribute [local irreducible] f5
noncomputable def aa8:=n8 (p6 Tryz.f128)
noncomputable def ab0 (y:Int):D×f3:=(.int .i64 y,[])
inductive B3 where
 | s0 (s_:List Int) (f f2:Int)
 | s1 (s_:List Int) (f f2:Int) (t7 t8:Int)
noncomputable def Z9:B3→M
 | .s0 s_ f f2=>A2 Tryz.f128 [.sl false 1 (List.map (d7 .i64) s_),.fn 98 [] [.iptr 1 [[.int .i64 f]] 0 0,.iptr 1 [[.int .i64 f2]] 0 0]] []
 | .s1 s_ f f2 t7 t8=>⟨[.lpc (aa8 [1,0,1,0,0]) 387,.blk 0,.code (aa8 [1,1])],[(0,.sl false 1 (List.map (d7 .i64) s_)),(1,.fn 98 [] [.iptr 1 [[.int .i64 f]] 0 0,.iptr 1 [[.int .i64 f2]] 0 0]),(7,.int .i64 t7),(8,.int .i64 t8)],[]⟩
abbrev ab1:=SOk E (Cx.of Tryz.f128 false 0) ab0 Z9
noncomputable def F9 (s_:List Int) (f f2:Int):Option (B3⊕Int):=(some (.inl (.s1 s_ f f2 (((List.map (d7 .i64) s_).length:Nat):Int) 0)))
noncomputable def z0 (s_:List Int) (f f2:Int) (t7 t8:Int):Option (B3⊕Int):=(bif (decide ((t8:Int)<t7)) then (bif ((decide ((0:Int)≤t8))&&(decide ((t8:Int)<(((List.map (d7 .i64) s_).length:Nat):Int)))) then (((s_)[t8.toNat]?).bind fun y3=>((aa7 y3 f f2).bind fun y5=>(bif y5 then (some (.inr t8)) else (some (.inl (.s1 s_ f f2 t7 (IntKind.i64.wrap (t8+1)))))))) else none) else (some (.inr (-1))))
noncomputable def v6:B3→Option (B3⊕Int)
 | .s0 s_ f f2=>F9 s_ f f2
 | .s1 s_ f f2 t7 t8=>z0 s_ f f2 t7 t8
theorem ay6 {s_ f f2}:ab1 (.s0 s_ f f2) (F9 s_ f f2):=by
 intro r x h ha;unfold F9 at h
 exact zj 14 h ha
theorem az1 {s_ f f2 t7 t8}:ab1 (.s1 s_ f f2 t7 t8) (z0 s_ f f2 t7 t8):=by
 intro r x h ha;unfold z0 at h
 refine zs 7 h (fun h=> ?_) fun h=> ?_
 ·
  refine zn 14 h fun h=> ?_
  refine zr 1 (d7 .i64) h fun y3 h=> ?_
  refine zc 1 [] h (fun _=>bP7) fun y5 h=> ?_
  refine zs 2 h (fun h=> ?_) fun h=> ?_
  ·
   exact zt 6 h ha
  exact zj 7 h ha
 exact zt 6 h ha
noncomputable def P6 (s_:List Int) (f f2:Int):Option Int:=U9 v6 (.s0 s_ f f2)
theorem aD4 {s_:List Int}{f f2 r:Int} (h:P6 s_ f f2=some r):i0 E 128 [.sl false 1 (List.map (d7 .i64) s_),.fn 98 [] [.iptr 1 [[.int .i64 f]] 0 0,.iptr 1 [[.int .i64 f2]] 0 0]] [] (Rs ab0 r):=sc (fn:=Tryz.f128) (k:=false) (m:=0) (stM:=Z9) h fun s=>by
 cases s with
 | s0=>exact ay6
 | s1=>exact az1
end Go.RX.L

namespace Go.RX.L
open Go Go.RX Go.Proofs
attribute [local irreducible] f5
noncomputable def az0 (y:Bool):D×f3:=(.bool y,[])
noncomputable def F5 (s_:List Int) (f f2:Int):Option Bool:=((P6 s_ f f2).bind fun y1=>(some (decide ((y1:Int)≥0))))
theorem ax3 {s_:List Int}{f f2:Int}{r:Bool} (h:F5 s_ f f2=some r):i0 E 97 [.sl false 1 (List.map (d7 .i64) s_),.fn 98 [] [.iptr 1 [[.int .i64 f]] 0 0,.iptr 1 [[.int .i64 f2]] 0 0]] [] (Rs az0 r):=so (fn:=Tryz.f97) (k:=false) (m:=0) h<| by
 intro r h;unfold F5 at h
 refine zc 9 [] h (fun _=>aD4) fun y1 h=> ?_
 exact zu 4 h
end Go.RX.L

namespace Go.RX.L
open Go Go.RX Go.Proofs
attribute [local irreducible] f5
noncomputable def co5 (y:Bool):D×f3:=(.bool y,[])
noncomputable def ac2 (low high:Int) (l_:List Int):Option Bool:=((F5 l_ low high).bind fun y1=>(some (!y1)))
theorem bo3 {low high:Int}{l_:List Int}{r:Bool} (h:ac2 low high l_=some r):i0 E 57 [.int .i64 low,.int .i64 high,.sl false 1 (List.map (d7 .i64) l_)] [] (Rs co5 r):=so (fn:=Tryz.f57) (k:=false) (m:=0) h<| by
 intro r h;unfold ac2 at h
 refine zc 11 [] h (fun _=>ax3) fun y1 h=> ?_
 exact zu 4 h
end Go.RX.L

namespace Go.RX.L
open Go Go.RX Go.Proofs
attribute [local irreducible] f5
noncomputable def db8 (y:Bool):D×f3:=(.bool y,[])
noncomputable def bd0 (x_:Int):Option Bool:=(some ((x_:Int) !=x_))
theorem bT0 {x_:Int}{r:Bool} (h:bd0 x_=some r):i0 E 162 [.int .i64 x_] [] (Rs db8 r):=so (fn:=Tryz.f162) (k:=false) (m:=0) h<| by
 intro r h;unfold bd0 at h
 exact zu 12 h
end Go.RX.L

namespace Go.RX.L
open Go Go.RX Go.Proofs
attribute [local irreducible] f5
noncomputable def dm9 (y:Bool):D×f3:=(.bool y,[])
noncomputable def bq8 (x_ y_:Int):Option Bool:=((bd0 x_).bind fun y1=>(bif y1 then ((bd0 y_).bind fun y3=>(bif (!y3) then (some true) else (some (decide ((x_:Int)<y_))))) else (some (decide ((x_:Int)<y_)))))
theorem de0 {x_ y_:Int}{r:Bool} (h:bq8 x_ y_=some r):i0 E 155 [.int .i64 x_,.int .i64 y_] [] (Rs dm9 r):=so (fn:=Tryz.f155) (k:=false) (m:=0) h<| by
 intro r h;unfold bq8 at h
 refine zc 8 [] h (fun _=>bT0) fun y1 h=> ?_
 refine zs 2 h (fun h=> ?_) fun h=> ?_
 ·
  refine zc 2 [] h (fun _=>bT0) fun y3 h=> ?_
  refine zs 6 h (fun h=> ?_) fun h=> ?_
  ·
   exact zu 9 h
  exact zu 9 h
 exact zu 18 h
end Go.RX.L

namespace Go.RX.L
open Go Go.RX Go.Proofs
attribute [local irreducible] f5
noncomputable def cZ8 (y:Bool):D×f3:=(.bool y,[])
noncomputable def aF6 (n t t2:Int):Option Bool:=(bif (decide ((n:Int)<t)) then (some true) else (some (decide ((n:Int)>t2))))
theorem cK0 {n t t2:Int}{r:Bool} (h:aF6 n t t2=some r):i0 E 150 [.int .i64 n,.iptr 1 [[.int .i64 t]] 0 0,.iptr 1 [[.int .i64 t2]] 0 0] [] (Rs cZ8 r):=so (fn:=Tryz.f150) (k:=false) (m:=0) h<| by
 intro r h;unfold aF6 at h
 refine zs 12 h (fun h=> ?_) fun h=> ?_
 ·
  exact zu 9 h
 exact zu 10 h
end Go.RX.L

namespace Go.RX.L
open Go Go.RX Go.Proofs
attribute [local irreducible] f5
noncomputable def aA0:=n8 (p6 Tryz.f128)
noncomputable def az6 (y:Int):D×f3:=(.int .i64 y,[])
inductive L0 where
 | s0 (s_:List Int) (f f2:Int)
 | s1 (s_:List Int) (f f2:Int) (t7 t8:Int)
noncomputable def aA4:L0→M
 | .s0 s_ f f2=>A2 Tryz.f128 [.sl false 1 (List.map (d7 .i64) s_),.fn 150 [] [.iptr 1 [[.int .i64 f]] 0 0,.iptr 1 [[.int .i64 f2]] 0 0]] []
 | .s1 s_ f f2 t7 t8=>⟨[.lpc (aA0 [1,0,1,0,0]) 387,.blk 0,.code (aA0 [1,1])],[(0,.sl false 1 (List.map (d7 .i64) s_)),(1,.fn 150 [] [.iptr 1 [[.int .i64 f]] 0 0,.iptr 1 [[.int .i64 f2]] 0 0]),(7,.int .i64 t7),(8,.int .i64 t8)],[]⟩
abbrev az7:=SOk E (Cx.of Tryz.f128 false 0) az6 aA4
noncomputable def S3 (s_:List Int) (f f2:Int):Option (L0⊕Int):=(some (.inl (.s1 s_ f f2 (((List.map (d7 .i64) s_).length:Nat):Int) 0)))
noncomputable def F7 (s_:List Int) (f f2:Int) (t7 t8:Int):Option (L0⊕Int):=(bif (decide ((t8:Int)<t7)) then (bif ((decide ((0:Int)≤t8))&&(decide ((t8:Int)<(((List.map (d7 .i64) s_).length:Nat):Int)))) then (((s_)[t8.toNat]?).bind fun y3=>((aF6 y3 f f2).bind fun y5=>(bif y5 then (some (.inr t8)) else (some (.inl (.s1 s_ f f2 t7 (IntKind.i64.wrap (t8+1)))))))) else none) else (some (.inr (-1))))
noncomputable def D2:L0→Option (L0⊕Int)
 | .s0 s_ f f2=>S3 s_ f f2
 | .s1 s_ f f2 t7 t8=>F7 s_ f f2 t7 t8
theorem aW6 {s_ f f2}:az7 (.s0 s_ f f2) (S3 s_ f f2):=by
 intro r x h ha;unfold S3 at h
 exact zj 14 h ha
theorem aX6 {s_ f f2 t7 t8}:az7 (.s1 s_ f f2 t7 t8) (F7 s_ f f2 t7 t8):=by
 intro r x h ha;unfold F7 at h
 refine zs 7 h (fun h=> ?_) fun h=> ?_
 ·
  refine zn 14 h fun h=> ?_
  refine zr 1 (d7 .i64) h fun y3 h=> ?_
  refine zc 1 [] h (fun _=>cK0) fun y5 h=> ?_
  refine zs 2 h (fun h=> ?_) fun h=> ?_
  ·
   exact zt 6 h ha
  exact zj 7 h ha
 exact zt 6 h ha
noncomputable def aj5 (s_:List Int) (f f2:Int):Option Int:=U9 D2 (.s0 s_ f f2)
theorem bf6 {s_:List Int}{f f2 r:Int} (h:aj5 s_ f f2=some r):i0 E 128 [.sl false 1 (List.map (d7 .i64) s_),.fn 150 [] [.iptr 1 [[.int .i64 f]] 0 0,.iptr 1 [[.int .i64 f2]] 0 0]] [] (Rs az6 r):=sc (fn:=Tryz.f128) (k:=false) (m:=0) (stM:=aA4) h fun s=>by
 cases s with
 | s0=>exact aW6
 | s1=>exact aX6
end Go.RX.L

namespace Go.RX.L
open Go Go.RX Go.Proofs
attribute [local irreducible] f5
noncomputable def aX9 (y:Bool):D×f3:=(.bool y,[])
noncomputable def Q6 (s_:List Int) (f f2:Int):Option Bool:=((aj5 s_ f f2).bind fun y1=>(some (decide ((y1:Int)≥0))))
theorem aU8 {s_:List Int}{f f2:Int}{r:Bool} (h:Q6 s_ f f2=some r):i0 E 97 [.sl false 1 (List.map (d7 .i64) s_),.fn 150 [] [.iptr 1 [[.int .i64 f]] 0 0,.iptr 1 [[.int .i64 f2]] 0 0]] [] (Rs aX9 r):=so (fn:=Tryz.f97) (k:=false) (m:=0) h<| by
 intro r h;unfold Q6 at h
 refine zc 9 [] h (fun _=>bf6) fun y1 h=> ?_
 exact zu 4 h
end Go.RX.L

namespace Go.RX.L
open Go Go.RX Go.Proofs
attribute [local irreducible] f5
noncomputable def dk8 (y:Bool):D×f3:=(.bool y,[])
noncomputable def av8 (low high:Int) (l_:List Int):Option Bool:=((Q6 l_ low high).bind fun y1=>(some (!y1)))
theorem aK8 {low high:Int}{l_:List Int}{r:Bool} (h:av8 low high l_=some r):i0 E 119 [.int .i64 low,.int .i64 high,.sl false 1 (List.map (d7 .i64) l_)] [] (Rs dk8 r):=so (fn:=Tryz.f119) (k:=false) (m:=0) h<| by
 intro r h;unfold av8 at h
 refine zc 11 [] h (fun _=>aU8) fun y1 h=> ?_
 exact zu 4 h
end Go.RX.L

namespace Go.RX.L
open Go Go.RX Go.Proofs
attribute [local irreducible] f5
noncomputable def cs2 (y:Bool):D×f3:=(.bool y,[])
noncomputable def ak1 (n t t2:Int):Option Bool:=(bif (decide ((n:Int)<t)) then (some true) else (some (decide ((n:Int)>t2))))
theorem cl1 {n t t2:Int}{r:Bool} (h:ak1 n t t2=some r):i0 E 154 [.int .i64 n,.iptr 1 [[.int .i64 t]] 0 0,.iptr 1 [[.int .i64 t2]] 0 0] [] (Rs cs2 r):=so (fn:=Tryz.f154) (k:=false) (m:=0) h<| by
 intro r h;unfold ak1 at h
 refine zs 12 h (fun h=> ?_) fun h=> ?_
 ·
  exact zu 9 h
 exact zu 10 h
end Go.RX.L

namespace Go.RX.L
open Go Go.RX Go.Proofs
attribute [local irreducible] f5
noncomputable def aq3:=n8 (p6 Tryz.f127)
noncomputable def ar1 (y:Int):D×f3:=(.int .i64 y,[])
inductive H5 where
 | s0 (s_:List Int) (f f2:Int)
 | s1 (s_:List Int) (f f2:Int) (t7 t8:Int)
noncomputable def at2:H5→M
 | .s0 s_ f f2=>A2 Tryz.f127 [.sl false 1 (List.map (d7 .i64) s_),.fn 154 [] [.iptr 1 [[.int .i64 f]] 0 0,.iptr 1 [[.int .i64 f2]] 0 0]] []
 | .s1 s_ f f2 t7 t8=>⟨[.lpc (aq3 [1,0,1,0,0]) 387,.blk 0,.code (aq3 [1,1])],[(0,.sl false 1 (List.map (d7 .i64) s_)),(1,.fn 154 [] [.iptr 1 [[.int .i64 f]] 0 0,.iptr 1 [[.int .i64 f2]] 0 0]),(7,.int .i64 t7),(8,.int .i64 t8)],[]⟩
abbrev aq9:=SOk E (Cx.of Tryz.f127 false 0) ar1 at2
noncomputable def N2 (s_:List Int) (f f2:Int):Option (H5⊕Int):=(some (.inl (.s1 s_ f f2 (((List.map (d7 .i64) s_).length:Nat):Int) 0)))
noncomputable def D0 (s_:List Int) (f f2:Int) (t7 t8:Int):Option (H5⊕Int):=(bif (decide ((t8:Int)<t7)) then (bif ((decide ((0:Int)≤t8))&&(decide ((t8:Int)<(((List.map (d7 .i64) s_).length:Nat):Int)))) then (((s_)[t8.toNat]?).bind fun y3=>((ak1 y3 f f2).bind fun y5=>(bif y5 then (some (.inr t8)) else (some (.inl (.s1 s_ f f2 t7 (IntKind.i64.wrap (t8+1)))))))) else none) else (some (.inr (-1))))
noncomputable def A6:H5→Option (H5⊕Int)
 | .s0 s_ f f2=>N2 s_ f f2
 | .s1 s_ f f2 t7 t8=>D0 s_ f f2 t7 t8
theorem aP3 {s_ f f2}:aq9 (.s0 s_ f f2) (N2 s_ f f2):=by
 intro r x h ha;unfold N2 at h
 exact zj 14 h ha
theorem aP1 {s_ f f2 t7 t8}:aq9 (.s1 s_ f f2 t7 t8) (D0 s_ f f2 t7 t8):=by
 intro r x h ha;unfold D0 at h
 refine zs 7 h (fun h=> ?_) fun h=> ?_
 ·
  refine zn 14 h fun h=> ?_
  refine zr 1 (d7 .i64) h fun y3 h=> ?_
  refine zc 1 [] h (fun _=>cl1) fun y5 h=> ?_
  refine zs 2 h (fun h=> ?_) fun h=> ?_
  ·
   exact zt 6 h ha
  exact zj 7 h ha
 exact zt 6 h ha
noncomputable def ac0 (s_:List Int) (f f2:Int):Option Int:=U9 A6 (.s0 s_ f f2)
theorem aU7 {s_:List Int}{f f2 r:Int} (h:ac0 s_ f f2=some r):i0 E 127 [.sl false 1 (List.map (d7 .i64) s_),.fn 154 [] [.iptr 1 [[.int .i64 f]] 0 0,.iptr 1 [[.int .i64 f2]] 0 0]] [] (Rs ar1 r):=sc (fn:=Tryz.f127) (k:=false) (m:=0) (stM:=at2) h fun s=>by
 cases s with
 | s0=>exact aP3
 | s1=>exact aP1
end Go.RX.L

namespace Go.RX.L
open Go Go.RX Go.Proofs
attribute [local irreducible] f5
noncomputable def aP2 (y:Bool):D×f3:=(.bool y,[])
noncomputable def L5 (s_:List Int) (f f2:Int):Option Bool:=((ac0 s_ f f2).bind fun y1=>(some (decide ((y1:Int)≥0))))
theorem aN5 {s_:List Int}{f f2:Int}{r:Bool} (h:L5 s_ f f2=some r):i0 E 95 [.sl false 1 (List.map (d7 .i64) s_),.fn 154 [] [.iptr 1 [[.int .i64 f]] 0 0,.iptr 1 [[.int .i64 f2]] 0 0]] [] (Rs aP2 r):=so (fn:=Tryz.f95) (k:=false) (m:=0) h<| by
 intro r h;unfold L5 at h
 refine zc 9 [] h (fun _=>aU7) fun y1 h=> ?_
 exact zu 4 h
end Go.RX.L

namespace Go.RX.L
open Go Go.RX Go.Proofs
attribute [local irreducible] f5
noncomputable def cN0 (y:Bool):D×f3:=(.bool y,[])
noncomputable def ao2 (low high:Int) (l_:List Int):Option Bool:=((L5 l_ low high).bind fun y1=>(some (!y1)))
theorem aW1 {low high:Int}{l_:List Int}{r:Bool} (h:ao2 low high l_=some r):i0 E 129 [.int .i64 low,.int .i64 high,.sl false 1 (List.map (d7 .i64) l_)] [] (Rs cN0 r):=so (fn:=Tryz.f129) (k:=false) (m:=0) h<| by
 intro r h;unfold ao2 at h
 refine zc 11 [] h (fun _=>aN5) fun y1 h=> ?_
 exact zu 4 h
end Go.RX.L

namespace Go.RX.L
open Go Go.RX Go.Proofs
attribute [local irreducible] f5
noncomputable def bh4:=n8 (p6 Tryz.f130)
noncomputable def bg3 (y:Bool):D×f3:=(.bool y,[])
inductive ac8 where
 | s0 (x_:List Int)
 | s1 (x_:List Int) (i:Int)
noncomputable def bi3:ac8→M
 | .s0 x_=>A2 Tryz.f130 [.sl false 1 (List.map (d7 .i64) x_)] []
 | .s1 x_ i=>⟨[.lpc (bh4 [1,0,1,0,0]) 9,.blk 0,.code (bh4 [1,1])],[(0,.sl false 1 (List.map (d7 .i64) x_)),(3,.int .i64 i)],[]⟩
abbrev bh0:=SOk E (Cx.of Tryz.f130 false 0) bg3 bi3
noncomputable def ae3 (x_:List Int):Option (ac8⊕Bool):=(some (.inl (.s1 x_ (IntKind.i64.wrap ((((List.map (d7 .i64) x_).length:Nat):Int)-1)))))
noncomputable def O4 (x_:List Int) (i:Int):Option (ac8⊕Bool):=(bif (decide ((i:Int)>0)) then (bif ((decide ((0:Int)≤i))&&(decide ((i:Int)<(((List.map (d7 .i64) x_).length:Nat):Int)))) then (((x_)[i.toNat]?).bind fun y3=>(bif ((decide ((0:Int)≤(IntKind.i64.wrap (i-1))))&&(decide (((IntKind.i64.wrap (i-1)):Int)<(((List.map (d7 .i64) x_).length:Nat):Int)))) then (((x_)[(IntKind.i64.wrap (i-1)).toNat]?).bind fun y6=>((bq8 y3 y6).bind fun y8=>(bif y8 then (some (.inr false)) else (some (.inl (.s1 x_ (IntKind.i64.wrap (i-1)))))))) else none)) else none) else (some (.inr true)))
noncomputable def F2:ac8→Option (ac8⊕Bool)
 | .s0 x_=>ae3 x_
 | .s1 x_ i=>O4 x_ i
theorem bK4 {x_}:bh0 (.s0 x_) (ae3 x_):=by
 intro r x h ha;unfold ae3 at h
 exact zj 15 h ha
theorem bK5 {x_ i}:bh0 (.s1 x_ i) (O4 x_ i):=by
 intro r x h ha;unfold O4 at h
 refine zs 8 h (fun h=> ?_) fun h=> ?_
 ·
  refine zn 5 h fun h=> ?_
  refine zr 0 (d7 .i64) h fun y3 h=> ?_
  refine zn 0 h fun h=> ?_
  refine zr 0 (d7 .i64) h fun y6 h=> ?_
  refine zd 0 [] h (fun _=>de0) fun y8 h=> ?_
  refine zs 1 h (fun h=> ?_) fun h=> ?_
  ·
   exact zt 5 h ha
  exact zj 8 h ha
 exact zt 6 h ha
noncomputable def aS1 (x_:List Int):Option Bool:=U9 F2 (.s0 x_)
theorem bV8 {x_:List Int}{r:Bool} (h:aS1 x_=some r):i0 E 130 [.sl false 1 (List.map (d7 .i64) x_)] [] (Rs bg3 r):=sc (fn:=Tryz.f130) (k:=false) (m:=0) (stM:=bi3) h fun s=>by
 cases s with
 | s0=>exact bK4
 | s1=>exact bK5
end Go.RX.L

namespace Go.RX.L
open Go Go.RX Go.Proofs
attribute [local irreducible] f5
noncomputable def as5:=n8 (p6 Tryz.f99)
noncomputable def bU8 (y:Bool):D×f3:=(.bool y,[])
abbrev br9:=AOk E (Cx.of Tryz.f99 false 0) bU8
noncomputable def cN9 (t37:Bool) (p_:Plan):M:=⟨[.code (as5 [1,0,0,1,1,1,1,1]),.blk 0,.code (as5 [1,1])],[(1,.ptr 0 0 0),(37,.bool t37)],[some ⟨12,false,[(Plan.enc p_)]⟩]⟩
noncomputable def ar5 (t37:Bool) (p_:Plan):Option Bool:=(bif t37 then (some false) else ((ao2 0 1000000 p_.Pen).bind fun y2=>(bif y2 then ((av8 0 1099511627776 p_.Changes).bind fun y4=>(bif y4 then ((aS1 p_.Changes).bind fun y6=>(some y6)) else (some false))) else (some false))))
theorem bu5 {t37 p_}:br9 (cN9 t37 p_) (ar5 t37 p_):=by
 intro r h;unfold ar5 at h
 refine zs 1 h (fun h=> ?_) fun h=> ?_
 ·
  exact zu 5 h
 refine zc 8 [] h (fun _=>aW1) fun y2 h=> ?_
 refine zs 2 h (fun h=> ?_) fun h=> ?_
 ·
  refine zc 5 [] h (fun _=>aK8) fun y4 h=> ?_
  refine zs 4 h (fun h=> ?_) fun h=> ?_
  ·
   refine zc 5 [] h (fun _=>bV8) fun y6 h=> ?_
   exact zu 5 h
  exact zu 9 h
 exact zu 18 h
noncomputable def cM0 (t21:Bool) (p_:Plan):M:=⟨[.code (as5 [1,0,0,1,1,1]),.blk 0,.code (as5 [1,1])],[(1,.ptr 0 0 0),(21,.bool t21)],[some ⟨12,false,[(Plan.enc p_)]⟩]⟩
noncomputable def at4 (t21:Bool) (p_:Plan):Option Bool:=(bif t21 then (some false) else (bif (decide (((((List.map (d7 .i64) p_.Pen).length:Nat):Int):Int)>16)) then (ar5 (decide (((((List.map (d7 .i64) p_.Pen).length:Nat):Int):Int)>16)) p_) else (ar5 (decide (((((List.map (d7 .i64) p_.Changes).length:Nat):Int):Int)>8)) p_)))
theorem bw1 {t21 p_}:br9 (cM0 t21 p_) (at4 t21 p_):=by
 intro r h;unfold at4 at h
 refine zs 1 h (fun h=> ?_) fun h=> ?_
 ·
  exact zu 5 h
 refine zs 11 h (fun h=> ?_) fun h=> ?_
 ·
  exact zg 1 (bu5 h)
 exact zg 8 (bu5 h)
noncomputable def cN8 (t3:Bool) (p_:Plan):M:=⟨[.code (as5 [1,0,0,1]),.blk 0,.code (as5 [1,1])],[(1,.ptr 0 0 0),(3,.bool t3)],[some ⟨12,false,[(Plan.enc p_)]⟩]⟩
noncomputable def ai2 (t3:Bool) (p_:Plan):Option Bool:=(bif t3 then (some false) else ((av8 0 1099511627776 ([p_.Stamp,p_.Since,p_.Ramped])).bind fun y2=>(bif (!y2) then (at4 (!y2) p_) else (at4 (decide (((u5 p_.Up p_.Sup):Int)≥65536)) p_))))
theorem aQ4 {t3 p_}:br9 (cN8 t3 p_) (ai2 t3 p_):=by
 intro r h;unfold ai2 at h
 refine zs 1 h (fun h=> ?_) fun h=> ?_
 ·
  exact zu 5 h
 refine zc 15 [] h (fun _=>aK8) fun y2 h=> ?_
 refine zs 4 h (fun h=> ?_) fun h=> ?_
 ·
  exact zg 1 (bw1 h)
 exact zg 11 (bw1 h)
noncomputable def ae6 (p_:Plan):Option Bool:=(bif (decide ((p_.Epoch:Int)<0)) then (ai2 (decide ((p_.Epoch:Int)<0)) p_) else ((ao2 (-1) 15 ([p_.Target,p_.Prev,p_.Spill])).bind fun y2=>(bif (!y2) then (ai2 (!y2) p_) else ((ao2 0 100 ([p_.Percent])).bind fun y4=>(ai2 (!y4) p_)))))
theorem ax0 {p_:Plan}{r:Bool} (h:ae6 p_=some r):i0 E 99 [.agg (Plan.enc p_)] [] (Rs bU8 r):=so (fn:=Tryz.f99) (k:=false) (m:=0) h<| by
 intro r h;unfold ae6 at h
 refine zs 17 h (fun h=> ?_) fun h=> ?_
 ·
  exact zg 1 (aQ4 h)
 refine zc 14 [] h (fun _=>aW1) fun y2 h=> ?_
 refine zs 4 h (fun h=> ?_) fun h=> ?_
 ·
  exact zg 1 (aQ4 h)
 refine zc 7 [] h (fun _=>aW1) fun y4 h=> ?_
 exact zg 3 (aQ4 h)
end Go.RX.L

namespace Go.RX.L
open Go Go.RX Go.Proofs
attribute [local irreducible] f5
end Go.RX.L

namespace Go.RX.L
open Go Go.RX Go.Proofs
attribute [local irreducible] f5
noncomputable def U5:=n8 (p6 Tryz.f35)
noncomputable def cO3 (y:Bool):D×f3:=(.bool y,[])
inductive cI8 where
 | s0 (p_:Plan)
 | s1 (t47:Bool) (p_:Plan)
 | s2 (t85:Bool) (p_:Plan)
 | s3 (i:Int) (p_:Plan)
 | s4 (i:Int) (p_:Plan)
noncomputable def cN3:cI8→M
 | .s0 p_=>A2 Tryz.f35 [.agg (Plan.enc p_)] []
 | .s1 t47 p_=>⟨[.code (U5 [1,0,1]),.code (U5 [1,1])],[(1,.ptr 0 0 0),(47,.bool t47)],[some ⟨12,false,[(Plan.enc p_)]⟩]⟩
 | .s2 t85 p_=>⟨[.code (U5 [1,1,0,1]),.code (U5 [1,1,1])],[(1,.ptr 0 0 0),(85,.bool t85)],[some ⟨12,false,[(Plan.enc p_)]⟩]⟩
 | .s3 i p_=>⟨[.lpc (U5 [1,1,1,0,1,0,0]) 10,.blk 0,.code (U5 [1,1,1,1])],[(1,.ptr 0 0 0),(3,.int .i64 i)],[some ⟨12,false,[(Plan.enc p_)]⟩]⟩
 | .s4 i p_=>⟨[.lpc (U5 [1,1,1,1,0,1,0,0]) 18,.blk 2,.code (U5 [1,1,1,1,1])],[(1,.ptr 0 0 0),(4,.int .i64 i)],[some ⟨12,false,[(Plan.enc p_)]⟩]⟩
abbrev dQ6:=SOk E (Cx.of Tryz.f35 false 0) cO3 cN3
end Go.RX.L

namespace Go.RX.L
open Go Go.RX Go.Proofs
attribute [local irreducible] f5
noncomputable def bz6:=n8 (p6 Tryz.f132)
noncomputable def bB4 (y:Bool):D×f3:=(.bool y,[])
inductive ar7 where
 | s0 (s1 s2:List Int)
 | s1 (s1 s2:List Int) (t12 t13:Int)
noncomputable def bA1:ar7→M
 | .s0 s1 s2=>A2 Tryz.f132 [.sl false 1 (List.map (d7 .i64) s1),.sl false 1 (List.map (d7 .i64) s2)] []
 | .s1 s1 s2 t12 t13=>⟨[.lpc (bz6 [1,1,0,1,0,0]) 12291,.blk 0,.code (bz6 [1,1,1])],[(0,.sl false 1 (List.map (d7 .i64) s1)),(1,.sl false 1 (List.map (d7 .i64) s2)),(12,.int .i64 t12),(13,.int .i64 t13)],[]⟩
abbrev bB2:=SOk E (Cx.of Tryz.f132 false 0) bB4 bA1
noncomputable def aq6 (s1 s2:List Int):Option (ar7⊕Bool):=(bif (((((List.map (d7 .i64) s1).length:Nat):Int):Int) !=(((List.map (d7 .i64) s2).length:Nat):Int)) then (some (.inr false)) else (some (.inl (.s1 s1 s2 (((List.map (d7 .i64) s1).length:Nat):Int) 0))))
noncomputable def ag6 (s1 s2:List Int) (t12 t13:Int):Option (ar7⊕Bool):=(bif (decide ((t13:Int)<t12)) then (bif ((decide ((0:Int)≤t13))&&(decide ((t13:Int)<(((List.map (d7 .i64) s1).length:Nat):Int)))) then (((s1)[t13.toNat]?).bind fun y3=>(bif ((decide ((0:Int)≤t13))&&(decide ((t13:Int)<(((List.map (d7 .i64) s2).length:Nat):Int)))) then (((s2)[t13.toNat]?).bind fun y6=>(bif ((y3:Int) !=y6) then (some (.inr false)) else (some (.inl (.s1 s1 s2 t12 (IntKind.i64.wrap (t13+1))))))) else none)) else none) else (some (.inr true)))
noncomputable def N6:ar7→Option (ar7⊕Bool)
 | .s0 s1 s2=>aq6 s1 s2
 | .s1 s1 s2 t12 t13=>ag6 s1 s2 t12 t13
theorem bZ7 {s1 s2}:bB2 (.s0 s1 s2) (aq6 s1 s2):=by
 intro r x h ha;unfold aq6 at h
 refine zs 14 h (fun h=> ?_) fun h=> ?_
 ·
  exact zt 5 h ha
 exact zj 11 h ha
theorem ca7 {s1 s2 t12 t13}:bB2 (.s1 s1 s2 t12 t13) (ag6 s1 s2 t12 t13):=by
 intro r x h ha;unfold ag6 at h
 refine zs 7 h (fun h=> ?_) fun h=> ?_
 ·
  refine zn 10 h fun h=> ?_
  refine zr 0 (d7 .i64) h fun y3 h=> ?_
  refine zn 0 h fun h=> ?_
  refine zr 0 (d7 .i64) h fun y6 h=> ?_
  refine zs 1 h (fun h=> ?_) fun h=> ?_
  ·
   exact zt 5 h ha
  exact zj 7 h ha
 exact zt 6 h ha
noncomputable def bp5 (s1 s2:List Int):Option Bool:=U9 N6 (.s0 s1 s2)
theorem ct0 {s1 s2:List Int}{r:Bool} (h:bp5 s1 s2=some r):i0 E 132 [.sl false 1 (List.map (d7 .i64) s1),.sl false 1 (List.map (d7 .i64) s2)] [] (Rs bB4 r):=sc (fn:=Tryz.f132) (k:=false) (m:=0) (stM:=bA1) h fun s=>by
 cases s with
 | s0=>exact bZ7
 | s1=>exact ca7
end Go.RX.L

namespace Go.RX.L
open Go Go.RX Go.Proofs
attribute [local irreducible] f5
noncomputable def bh1:=n8 (p6 Tryz.f133)
noncomputable def bg9 (y:Bool):D×f3:=(.bool y,[])
inductive ad6 where
 | s0 (s1 s2:List Int)
 | s1 (s1 s2:List Int) (t12 t13:Int)
noncomputable def bi2:ad6→M
 | .s0 s1 s2=>A2 Tryz.f133 [.sl false 1 (List.map (d7 .i64) s1),.sl false 1 (List.map (d7 .i64) s2)] []
 | .s1 s1 s2 t12 t13=>⟨[.lpc (bh1 [1,1,0,1,0,0]) 12291,.blk 0,.code (bh1 [1,1,1])],[(0,.sl false 1 (List.map (d7 .i64) s1)),(1,.sl false 1 (List.map (d7 .i64) s2)),(12,.int .i64 t12),(13,.int .i64 t13)],[]⟩
abbrev bg7:=SOk E (Cx.of Tryz.f133 false 0) bg9 bi2
noncomputable def ad5 (s1 s2:List Int):Option (ad6⊕Bool):=(bif (((((List.map (d7 .i64) s1).length:Nat):Int):Int) !=(((List.map (d7 .i64) s2).length:Nat):Int)) then (some (.inr false)) else (some (.inl (.s1 s1 s2 (((List.map (d7 .i64) s1).length:Nat):Int) 0))))
noncomputable def U1 (s1 s2:List Int) (t12 t13:Int):Option (ad6⊕Bool):=(bif (decide ((t13:Int)<t12)) then (bif ((decide ((0:Int)≤t13))&&(decide ((t13:Int)<(((List.map (d7 .i64) s1).length:Nat):Int)))) then (((s1)[t13.toNat]?).bind fun y3=>(bif ((decide ((0:Int)≤t13))&&(decide ((t13:Int)<(((List.map (d7 .i64) s2).length:Nat):Int)))) then (((s2)[t13.toNat]?).bind fun y6=>(bif ((y3:Int) !=y6) then (some (.inr false)) else (some (.inl (.s1 s1 s2 t12 (IntKind.i64.wrap (t13+1))))))) else none)) else none) else (some (.inr true)))
noncomputable def J6:ad6→Option (ad6⊕Bool)
 | .s0 s1 s2=>ad5 s1 s2
 | .s1 s1 s2 t12 t13=>U1 s1 s2 t12 t13
theorem bK0 {s1 s2}:bg7 (.s0 s1 s2) (ad5 s1 s2):=by
 intro r x h ha;unfold ad5 at h
 refine zs 14 h (fun h=> ?_) fun h=> ?_
 ·
  exact zt 5 h ha
 exact zj 11 h ha
theorem bI5 {s1 s2 t12 t13}:bg7 (.s1 s1 s2 t12 t13) (U1 s1 s2 t12 t13):=by
 intro r x h ha;unfold U1 at h
 refine zs 7 h (fun h=> ?_) fun h=> ?_
 ·
  refine zn 10 h fun h=> ?_
  refine zr 0 (d7 .i64) h fun y3 h=> ?_
  refine zn 0 h fun h=> ?_
  refine zr 0 (d7 .i64) h fun y6 h=> ?_
  refine zs 1 h (fun h=> ?_) fun h=> ?_
  ·
   exact zt 5 h ha
  exact zj 7 h ha
 exact zt 6 h ha
noncomputable def aT0 (s1 s2:List Int):Option Bool:=U9 J6 (.s0 s1 s2)
theorem bW1 {s1 s2:List Int}{r:Bool} (h:aT0 s1 s2=some r):i0 E 133 [.sl false 1 (List.map (d7 .i64) s1),.sl false 1 (List.map (d7 .i64) s2)] [] (Rs bg9 r):=sc (fn:=Tryz.f133) (k:=false) (m:=0) (stM:=bi2) h fun s=>by
 cases s with
 | s0=>exact bK0
 | s1=>exact bI5
end Go.RX.L

namespace Go.RX.L
open Go Go.RX Go.Proofs
attribute [local irreducible] f5
noncomputable def cK4 (y:Int):D×f3:=(.fn 163 [] [.iptr 1 [[.int .i64 y]] 0 0],[])
noncomputable def ax7 (n:Int):Option Int:=(some n)
theorem bB5 {n r:Int} (h:ax7 n=some r):i0 E 160 [.int .i64 n] [] (Rs cK4 r):=so (fn:=Tryz.f160) (k:=false) (m:=0) h<| by
 intro r h;unfold ax7 at h
 exact zu 11 h
end Go.RX.L

namespace Go.RX.L
open Go Go.RX Go.Proofs
attribute [local irreducible] f5
noncomputable def bv5:=n8 (p6 Tryz.f163)
def A1 (y:Int):List D:= [D.int .u8 y]
inductive P0 where
 | s0 (t:Int)
 | s1 (u:Int)
noncomputable def T4 (l:Nat):P0→M
 | .s0 t=>⟨[.code (p6 Tryz.f163)],[(0,D.yld l),(1,D.iptr 1 [[D.int .i64 t]] 0 0)],[]⟩
 | .s1 u=>⟨[.lpc (bv5 [1,0,0,0]) 9,.blk 0,.code (bv5 [1,1])],[(0,D.yld l),(3,D.int .u64 u)],[]⟩
noncomputable def aS5 (t:Int):Option (List Int×Option P0):=(some ([],some (.s1 (O1 .u64 (IntKind.u64.wrap ((E6 .i64 t 1))) (IntKind.u64.wrap ((m7 .i64 t 63)))))))
noncomputable def am4 (u:Int):Option (List Int×Option P0):=(bif (decide ((u:Int)>127)) then (Option.map (fun p=>((orI .u8 (IntKind.u8.wrap (u)) 128)::p.1,p.2)) (some ([],some (.s1 (m7 .u64 u 7))))) else (Option.map (fun p=>((IntKind.u8.wrap (u))::p.1,p.2)) (some ([],none))))
noncomputable def aj2:P0→f3
 | .s0 t=> []
 | .s1 u=> []
noncomputable def Y7:P0→Option (List Int×Option P0)
 | .s0 t=>aS5 t
 | .s1 u=>am4 u
theorem bV3 {l:Nat}{ln:f3}{φ0:p9}{J:Option (List (List D))→World→(Nat→Prop)→(Nat→Prop)→Prop}{t:Int}{x:List Int×Option P0}{Y:List (List D)} (hl:aj2 (.s0 t)=ln) (h:aS5 t=some x) (ha:Z4 E ln (Cx.seq Tryz.f163 0 ln l φ0 J) A1 (T4 l) aj2 x Y):f5 E (Cx.seq Tryz.f163 0 ln l φ0 J (some Y)) (fun _ s=>O0 ln s) (.go (T4 l (.s0 t))):=by
 subst hl
 unfold aS5 at h
 refine l5 hm 19 _ ?_
 obtain rfl:=Option.some.inj h
 exact aP7 (q' := .go (T4 l (.s1 (O1 .u64 (IntKind.u64.wrap ((E6 .i64 t 1))) (IntKind.u64.wrap ((m7 .i64 t 63))))))) (by kernel_rfl) (K3 (by kernel_rfl) ha)
theorem bT1 {l:Nat}{ln:f3}{φ0:p9}{J:Option (List (List D))→World→(Nat→Prop)→(Nat→Prop)→Prop}{u:Int}{x:List Int×Option P0}{Y:List (List D)} (hl:aj2 (.s1 u)=ln) (h:am4 u=some x) (ha:Z4 E ln (Cx.seq Tryz.f163 0 ln l φ0 J) A1 (T4 l) aj2 x Y):f5 E (Cx.seq Tryz.f163 0 ln l φ0 J (some Y)) (fun _ s=>O0 ln s) (.go (T4 l (.s1 u))):=by
 subst hl
 unfold am4 at h
 refine zs 8 h (fun h=> ?_) fun h=> ?_
 ·
  refine l5 hm 10 _ ?_
  refine bJ7 (x:=(orI .u8 (IntKind.u8.wrap (u)) 128)) (s:= []) h ha (by kernel_rfl) (by kernel_rfl) ?_ (fun p Y h ha=> ?_)
  · --it is stopped
    refine l5 hm 5 _ ?_
    exact bo1 (d:=D.tup []) (s:= []) (by kernel_rfl) (by kernel_rfl)
  · --it goes on
    refine l5 hm 13 _ ?_
    obtain rfl:=Option.some.inj h
    exact aP7 (q' := .go (T4 l (.s1 (m7 .u64 u 7)))) (by kernel_rfl) (K3 (by kernel_rfl) ha)
 refine l5 hm 6 _ ?_
 refine bJ7 (x:=(IntKind.u8.wrap (u))) (s:= []) h ha (by kernel_rfl) (by kernel_rfl) ?_ (fun p Y h ha=> ?_)
 · --it is stopped
   refine l5 hm 2 _ ?_
   exact bo1 (d:=D.tup []) (s:= []) (by kernel_rfl) (by kernel_rfl)
 · --it goes on
   refine l5 hm 2 _ ?_
   obtain rfl:=Option.some.inj h
   exact bE4 (d:=D.tup []) (s:= []) (by kernel_rfl) (by kernel_rfl) ha
noncomputable def ak6 (t:Int):Option (List Int):=evl Y7 (.s0 t)
theorem bs5 {t:Int}{r:List Int} (h:ak6 t=some r):ah7 E 163 [D.iptr 1 [[D.int .i64 t]] 0 0] [] [] (List.map A1 r):=
 bz1 (m:=fun l=>T4 l (.s0 t)) (fn:=Tryz.f163) (by kernel_rfl) (fun l=>by kernel_rfl) (show List.take _ _=_ by kernel_rfl) (show A9 _ _=_ by kernel_rfl) (fun l φ0 J=>bn3 (step:=Y7) (lnS:=aj2) (fun s x Y hl hs ha=>by
  cases s with
  | s0=>exact bV3 hl hs ha
  | s1=>exact bT1 hl hs ha) (by kernel_rfl) (bE3 h))
end Go.RX.L

namespace Go.RX.L
open Go Go.RX Go.Proofs
attribute [local irreducible] f5
noncomputable def J0:=n8 (p6 Tryz.f149)
noncomputable def cr4 (y:Int×Int×Int):D×f3:=(.tup [.int .i64 y.1,.int .i64 y.2.1,.int .i64 y.2.2],[])
inductive am9 where
 | s0 (b:List Int) (at_:Int)
 | s1 (b:List Int) (at_:Int) (t19:Bool)
 | s2 (at_ u shift:Int) (t22:List Int) (t23 t24:Int)
 | s4 (at_ u:Int) (shift i c:Int) (t22:List Int) (t23 t24:Int) (t36:Bool)
 | s3 (at_ u:Int) (shift i c:Int) (t22:List Int) (t23 t24:Int) (t36:Bool)
noncomputable def cm8:am9→M
 | .s0 b at_=>A2 Tryz.f149 [.sl false 1 (List.map (d7 .u8) b),.int .i64 at_] []
 | .s1 b at_ t19=>⟨[.code (J0 [1,0,0,1]),.code (J0 [1,0,1]),.sc],[(0,.sl false 1 (List.map (d7 .u8) b)),(1,.int .i64 at_),(19,.bool t19)],[]⟩
 | .s2 at_ u shift t22 t23 t24=>⟨[.lpc (J0 [1,0,1,1,1,1,0,1,0,0]) 29361026,.blk 0,.code (J0 [1,0,1,1,1,1,1]),.sc],[(1,.int .i64 at_),(7,.int .i64 11),(8,.int .u64 u),(9,.int .i64 shift),(22,.sl false 1 (List.map (d7 .u8) t22)),(23,.int .i64 t23),(24,.int .i64 t24)],[]⟩
 | .s4 at_ u shift i c t22 t23 t24 t36=>⟨[.code (J0 [1,0,1,1,1,1,0,1,0,0,1,1,0,0,1,1,0,0,0,1]),.code (J0 [1,0,1,1,1,1,0,1,0,0,1,1,0,0,1,1,0,0,1]),.blk 2,.code (J0 [1,0,1,1,1,1,0,1,0,0,1,1,0,0,1,1,1]),.blk 1,.code (J0 [1,0,1,1,1,1,0,1,0,0,1,1,1]),.lp (J0 [1,0,1,1,1,1,0,1,0,0]) 29361026,.blk 0,.code (J0 [1,0,1,1,1,1,1]),.sc],[(1,.int .i64 at_),(7,.int .i64 11),(8,.int .u64 u),(9,.int .i64 shift),(10,.int .i64 i),(11,.int .u8 c),(22,.sl false 1 (List.map (d7 .u8) t22)),(23,.int .i64 t23),(24,.int .i64 t24),(36,.bool t36)],[]⟩
 | .s3 at_ u shift i c t22 t23 t24 t36=>⟨[.code (J0 [1,0,1,1,1,1,0,1,0,0,1,1,0,0,1,1,0,0,1]),.blk 2,.code (J0 [1,0,1,1,1,1,0,1,0,0,1,1,0,0,1,1,1]),.blk 1,.code (J0 [1,0,1,1,1,1,0,1,0,0,1,1,1]),.lp (J0 [1,0,1,1,1,1,0,1,0,0]) 29361026,.blk 0,.code (J0 [1,0,1,1,1,1,1]),.sc],[(1,.int .i64 at_),(7,.int .i64 11),(8,.int .u64 u),(9,.int .i64 shift),(10,.int .i64 i),(11,.int .u8 c),(22,.sl false 1 (List.map (d7 .u8) t22)),(23,.int .i64 t23),(24,.int .i64 t24),(36,.bool t36)],[]⟩
abbrev aP5:=SOk E (Cx.of Tryz.f149 false 0) cr4 cm8
noncomputable def bm0 (b:List Int) (at_:Int):Option (am9⊕(Int×Int×Int)):=(bif (decide ((at_:Int)<0)) then (some (.inl (.s1 b at_ true))) else (some (.inl (.s1 b at_ (decide ((at_:Int)>(((List.map (d7 .u8) b).length:Nat):Int)))))))
noncomputable def bl1 (b:List Int) (at_:Int) (t19:Bool):Option (am9⊕(Int×Int×Int)):=(bif t19 then (some (.inr (0,0,1))) else (bif ((decide (((0:Nat):Int)≤at_))&&(decide ((at_:Int)≤(((List.map (d7 .u8) b).length:Nat):Int)))) then (some (.inl (.s2 at_ 0 0 (List.drop at_.toNat (List.take ((List.map (d7 .u8) b).length) b)) (((List.map (d7 .u8) (List.drop at_.toNat (List.take ((List.map (d7 .u8) b).length) b))).length:Nat):Int) 0))) else none))
noncomputable def aQ9 (at_ u shift:Int) (t22:List Int) (t23 t24:Int):Option (am9⊕(Int×Int×Int)):=(bif (decide ((t24:Int)<t23)) then (bif ((decide ((0:Int)≤t24))&&(decide ((t24:Int)<(((List.map (d7 .u8) t22).length:Nat):Int)))) then (((t22)[t24.toNat]?).bind fun y3=>(bif (!decide ((shift:Int)<0)) then (bif ((shift:Int)==63) then (some (.inl (.s4 at_ (orI .u64 u (E6 .u64 (IntKind.u64.wrap ((i9 .u8 y3 127))) shift)) shift t24 y3 t22 t23 t24 (decide ((y3:Int)>1))))) else (some (.inl (.s4 at_ (orI .u64 u (E6 .u64 (IntKind.u64.wrap ((i9 .u8 y3 127))) shift)) shift t24 y3 t22 t23 t24 false)))) else none)) else none) else (some (.inr (0,0,11))))
noncomputable def av7 (at_ u:Int) (shift i c:Int) (t22:List Int) (t23 t24:Int) (t36:Bool):Option (am9⊕(Int×Int×Int)):=(bif t36 then (some (.inl (.s3 at_ u shift i c t22 t23 t24 t36))) else (bif ((c:Int)==0) then (some (.inl (.s3 at_ u shift i c t22 t23 t24 (decide ((i:Int)>0))))) else (some (.inl (.s3 at_ u shift i c t22 t23 t24 false)))))
noncomputable def aG3 (at_ u:Int) (shift i c:Int) (t22:List Int) (t23 t24:Int) (t36:Bool):Option (am9⊕(Int×Int×Int)):=(bif t36 then (some (.inr (0,0,12))) else (bif (decide ((c:Int)<128)) then (some (.inr ((O1 .i64 (IntKind.i64.wrap ((m7 .u64 u 1))) (IntKind.i64.wrap ((0:Int)-(IntKind.i64.wrap ((i9 .u64 u 1)))))),(IntKind.i64.wrap ((IntKind.i64.wrap (at_+i))+1)),0))) else (some (.inl (.s2 at_ u (IntKind.i64.wrap (shift+7)) t22 t23 (IntKind.i64.wrap (t24+1)))))))
noncomputable def D4:am9→Option (am9⊕(Int×Int×Int))
 | .s0 b at_=>bm0 b at_
 | .s1 b at_ t19=>bl1 b at_ t19
 | .s2 at_ u shift t22 t23 t24=>aQ9 at_ u shift t22 t23 t24
 | .s4 at_ u shift i c t22 t23 t24 t36=>av7 at_ u shift i c t22 t23 t24 t36
 | .s3 at_ u shift i c t22 t23 t24 t36=>aG3 at_ u shift i c t22 t23 t24 t36
theorem cL0 {b at_}:aP5 (.s0 b at_) (bm0 b at_):=by
 intro r x h ha;unfold bm0 at h
 refine zs 14 h (fun h=> ?_) fun h=> ?_
 ·
  exact zk 9 h ha
 exact zk 9 h ha
theorem cJ2 {b at_ t19}:aP5 (.s1 b at_ t19) (bl1 b at_ t19):=by
 intro r x h ha;unfold bl1 at h
 refine zs 1 h (fun h=> ?_) fun h=> ?_
 ·
  exact zt 7 h ha
 refine zn 18 h fun h=> ?_
 refine zw 0 (a:=(List.drop at_.toNat (List.take ((List.map (d7 .u8) b).length) (List.map (d7 .u8) b)))) (b:=(List.map (d7 .u8) (List.drop at_.toNat (List.take ((List.map (d7 .u8) b).length) b)))) (ci0 _ _ _ _) ?_
 exact zj 6 h ha
theorem cO7 {at_ u shift t22 t23 t24}:aP5 (.s2 at_ u shift t22 t23 t24) (aQ9 at_ u shift t22 t23 t24):=by
 intro r x h ha;unfold aQ9 at h
 refine zs 7 h (fun h=> ?_) fun h=> ?_
 ·
  refine zn 7 h fun h=> ?_
  refine zr 1 (d7 .u8) h fun y3 h=> ?_
  refine zn 11 h fun h=> ?_
  refine zs 12 h (fun h=> ?_) fun h=> ?_
  ·
   exact zk 6 h ha
  exact zk 6 h ha
 exact zt 9 h ha
theorem cK9 {at_ u shift i c t22 t23 t24 t36}:aP5 (.s4 at_ u shift i c t22 t23 t24 t36) (av7 at_ u shift i c t22 t23 t24 t36):=by
 intro r x h ha;unfold av7 at h
 refine zs 1 h (fun h=> ?_) fun h=> ?_
 ·
  exact zk 1 h ha
 refine zs 5 h (fun h=> ?_) fun h=> ?_
 ·
  exact zk 6 h ha
 exact zk 6 h ha
theorem cL3 {at_ u shift i c t22 t23 t24 t36}:aP5 (.s3 at_ u shift i c t22 t23 t24 t36) (aG3 at_ u shift i c t22 t23 t24 t36):=by
 intro r x h ha;unfold aG3 at h
 refine zs 1 h (fun h=> ?_) fun h=> ?_
 ·
  exact zt 13 h ha
 refine zs 7 h (fun h=> ?_) fun h=> ?_
 ·
  exact zt 20 h ha
 exact zj 13 h ha
noncomputable def bE8 (b:List Int) (at_:Int):Option (Int×Int×Int):=U9 D4 (.s0 b at_)
theorem ce3 {b:List Int}{at_:Int}{r:Int×Int×Int} (h:bE8 b at_=some r):i0 E 149 [.sl false 1 (List.map (d7 .u8) b),.int .i64 at_] [] (Rs cr4 r):=sc (fn:=Tryz.f149) (k:=false) (m:=0) (stM:=cm8) h fun s=>by
 cases s with
 | s0=>exact cL0
 | s1=>exact cJ2
 | s2=>exact cO7
 | s4=>exact cK9
 | s3=>exact cL3
end Go.RX.L

namespace Go.RX.L
open Go Go.RX Go.Proofs
attribute [local irreducible] f5
noncomputable def F4:=n8 (p6 Tryz.f152)
noncomputable def Y5 (y:List Int):D×f3:=((f6 0 (List.map (d7 .u8) y)),[some ⟨1,false,(List.map (d7 .u8) y)⟩])
inductive K9 where
 | s0 (n:Int)
 | s1 (t7:Int) (b1:List Int)
 | s2 (t7:Int) (b1 Y:List Int)
noncomputable def aT4:K9→M
 | .s0 n=>A2 Tryz.f152 [.sl true 0 [],.int .i64 n] []
 | .s1 t7 b1=>⟨[.code (F4 [1,0,1,0]),.blk 0,.code (F4 [1,1])],[(2,.ptr 0 0 0),(7,.fn 163 [] [.iptr 1 [[.int .i64 t7]] 0 0])],[some ⟨1,true,[[(f6 1 (List.map (d7 .u8) b1))]]⟩,some ⟨1,false,(List.map (d7 .u8) b1)⟩]⟩
 | .s2 t7 b1 Y=>⟨[.blk 0,.code (F4 [1,1])],[(2,.ptr 0 0 0),(7,.fn 163 [] [.iptr 1 [[.int .i64 t7]] 0 0])],[some ⟨1,true,[[(f6 1 (List.map (d7 .u8) b1))]]⟩,some ⟨1,false,(List.map (d7 .u8) b1)⟩]⟩
noncomputable def ay1:K9→(List Int)→Prop
 | .s0 n,r_=>f5 E (Cx.of Tryz.f152 true 0) (QW (Rs Y5 r_)) (.go (aT4 (.s0 n)))
 | .s1 t7 b1,r_=>f5 E (Cx.of Tryz.f152 true 0) (QW (Rs Y5 r_)) (.go (aT4 (.s1 t7 b1)))
 | .s2 t7 b1 Y,r_=>L3 E (Cx.of Tryz.f152 true 0) (QW (Rs Y5 r_)) 1 (F4 [1,0,1,0]) [.blk 0,.code (F4 [1,1])] [(2,.ptr 0 0 0),(7,.fn 163 [] [.iptr 1 [[.int .i64 t7]] 0 0])] [] [] (List.map A1 Y) [some ⟨1,true,[[(f6 1 (List.map (d7 .u8) b1))]]⟩,some ⟨1,false,(List.map (d7 .u8) b1)⟩]
noncomputable def bk8 (n:Int):Option (K9⊕(List Int)):=((ax7 n).bind fun y1=>(some (.inl (.s1 y1 ([])))))
noncomputable def bk5 (t7:Int) (b1:List Int):Option (K9⊕(List Int)):=((ak6 t7).bind fun y1=>(some (.inl (.s2 t7 b1 y1))))
noncomputable def ba6 (t7:Int) (b1:List Int):Option (K9⊕(List Int)):=(some (.inr b1))
noncomputable def ba5 (t7:Int) (b1:List Int) (y:Int) (Y:List Int):Option (K9⊕(List Int)):=(bif (decide (((List.map (d7 .u8) b1).length+1)*1≤i7)) then (some (.inl (.s2 t7 (b1++ [y]) Y))) else none)
noncomputable def bl8 (t7:Int) (b1:List Int):List Int→Option (K9⊕(List Int))
 | []=>ba6 t7 b1
 | y::Y=>ba5 t7 b1 y Y
noncomputable def ab6:K9→Option (K9⊕(List Int))
 | .s0 n=>bk8 n
 | .s1 t7 b1=>bk5 t7 b1
 | .s2 t7 b1 Y=>bl8 t7 b1 Y
theorem cO4 {n:Int}{r:List Int}{x:K9⊕(List Int)} (h:bk8 n=some x) (ha:z5 ay1 r x):f5 E (Cx.of Tryz.f152 true 0) (QW (Rs Y5 r)) (.go (aT4 (.s0 n))):=by
 unfold bk8 at h
 refine zc 10 [] h (fun _=>bB5) fun y1 h=> ?_
 refine l5 hm 2 _ ?_
 obtain rfl:=Option.some.inj h
 refine ap9 388 [.matc 0 0 0 1] (m' :=⟨[.code (F4 [1,0,1,0]),.blk 0,.code (F4 [1,1])],[(2,.ptr 0 0 0),(7,.fn 163 [] [.iptr 1 [[.int .i64 y1]] 0 0])],[some ⟨1,true,[[.msl 1 0 0 0 false]]⟩,some ⟨1,false,[]⟩]⟩) (by kernel_rfl) ?_
 refine ae9 (n1:=0) (n2:=(List.map (d7 .u8) ([])).length) (fun n_len=> .go ⟨[.code (F4 [1,0,1,0]),.blk 0,.code (F4 [1,1])],[(2,.ptr 0 0 0),(7,.fn 163 [] [.iptr 1 [[.int .i64 y1]] 0 0])],[some ⟨1,true,[[.msl 1 0 n_len n_len false]]⟩,some ⟨1,false,[]⟩]⟩) (by simp) ?_
 exact ha
theorem cM3 {t7:Int}{b1 r:List Int}{x:K9⊕(List Int)} (h:bk5 t7 b1=some x) (ha:z5 ay1 r x):f5 E (Cx.of Tryz.f152 true 0) (QW (Rs Y5 r)) (.go (aT4 (.s1 t7 b1))):=by
 unfold bk5 at h
 refine l5 hm 1 _ ?_
 have ok1:=fun (y:List Int) (hy:ak6 t7=some y)=>bs5 hy
 refine cP0 (m:=1) (c:=F4 [1,0,1,0]) (t:= [.blk 0,.code (F4 [1,1])]) (fr:= [(2,.ptr 0 0 0),(7,.fn 163 [] [.iptr 1 [[.int .i64 t7]] 0 0])]) (σ:= [some ⟨1,true,[[(f6 1 (List.map (d7 .u8) b1))]]⟩,some ⟨1,false,(List.map (d7 .u8) b1)⟩]) (caps1:= [.iptr 1 [[.int .i64 t7]] 0 0]) (caps:= [.iptr 1 [[.int .i64 t7]] 0 0]) (sub1:= []) (sub:= []) A1 h (by kernel_rfl) ⟨rfl,rfl⟩ (by kernel_rfl) (by kernel_rfl) ok1 (fun y1 h1 h=> ?_)
 obtain rfl:=Option.some.inj h
 exact ha
theorem cA1 {t7:Int}{b1 r:List Int}{x:K9⊕(List Int)} (h:ba6 t7 b1=some x) (ha:z5 ay1 r x):L3 E (Cx.of Tryz.f152 true 0) (QW (Rs Y5 r)) 1 (F4 [1,0,1,0]) [.blk 0,.code (F4 [1,1])] [(2,.ptr 0 0 0),(7,.fn 163 [] [.iptr 1 [[.int .i64 t7]] 0 0])] [] [] ([]) [some ⟨1,true,[[(f6 1 (List.map (d7 .u8) b1))]]⟩,some ⟨1,false,(List.map (d7 .u8) b1)⟩]:=by
 unfold ba6 at h
 refine aW2 ?_
 exact ztP 8 h ha
theorem cC2 {t7:Int}{b1:List Int}{y:Int}{Y r:List Int}{x:K9⊕(List Int)} (h:ba5 t7 b1 y Y=some x) (ha:z5 ay1 r x):L3 E (Cx.of Tryz.f152 true 0) (QW (Rs Y5 r)) 1 (F4 [1,0,1,0]) [.blk 0,.code (F4 [1,1])] [(2,.ptr 0 0 0),(7,.fn 163 [] [.iptr 1 [[.int .i64 t7]] 0 0])] [] [] (A1 y::List.map A1 Y) [some ⟨1,true,[[(f6 1 (List.map (d7 .u8) b1))]]⟩,some ⟨1,false,(List.map (d7 .u8) b1)⟩]:=by
 unfold ba5 at h
 refine aM7 ?_
 refine zn 8 h fun h=> ?_
 refine za 0 (d7 .u8) b1 ([y]) ?_
 refine l5 hm 6 _ ?_
 obtain rfl:=Option.some.inj h
 exact aH6 [] (s1:= [some ⟨1,true,[[.msl 1 0 ((List.map (d7 .u8) (b1++ [y])).length) ((List.map (d7 .u8) (b1++ [y])).length) false]]⟩,some ⟨1,false,(List.map (d7 .u8) (b1++ [y]))⟩]) (s:= [some ⟨1,true,[[.msl 1 0 ((List.map (d7 .u8) (b1++ [y])).length) ((List.map (d7 .u8) (b1++ [y])).length) false]]⟩,some ⟨1,false,(List.map (d7 .u8) (b1++ [y]))⟩]) (by kernel_rfl) (rfl) (by kernel_rfl) ha
theorem cN6 {t7:Int}{b1 Y r:List Int}{x:K9⊕(List Int)} (h:bl8 t7 b1 Y=some x) (ha:z5 ay1 r x):L3 E (Cx.of Tryz.f152 true 0) (QW (Rs Y5 r)) 1 (F4 [1,0,1,0]) [.blk 0,.code (F4 [1,1])] [(2,.ptr 0 0 0),(7,.fn 163 [] [.iptr 1 [[.int .i64 t7]] 0 0])] [] [] (List.map A1 Y) [some ⟨1,true,[[(f6 1 (List.map (d7 .u8) b1))]]⟩,some ⟨1,false,(List.map (d7 .u8) b1)⟩]:=by
 cases Y with
 | nil=>exact cA1 h ha
 | cons y Y=>exact cC2 h ha
noncomputable def ck4 (n:Int):Option (List Int):=U9 ab6 (.s0 n)
theorem db1 {n:Int}{r:List Int} (h:Ev ab6 (.s0 n) r):i0 E 152 [.sl true 0 [],.int .i64 n] [] (Rs Y5 r):=
 am8 (m:=aT4 (.s0 n)) (fn:=Tryz.f152) (by kernel_rfl) (by kernel_rfl) (aW4 (Pd:=ay1) (fun s x r hs ha=>by
  cases s with
  | s0=>exact cO4 hs ha
  | s1=>exact cM3 hs ha
  | s2=>exact cN6 hs ha) h)
theorem db3 {n:Int}{r:List Int} (h:ck4 n=some r):i0 E 152 [.sl true 0 [],.int .i64 n] [] (Rs Y5 r):=db1 (bb7 h)
end Go.RX.L

namespace Go.RX.L
open Go Go.RX Go.Proofs
attribute [local irreducible] f5
noncomputable def E7:=n8 (p6 Tryz.f152)
noncomputable def M5 (y:List Int):D×f3:=((f6 1 (List.map (d7 .u8) y)),[none,some ⟨1,false,(List.map (d7 .u8) y)⟩])
inductive D5 where
 | s0 (n:Int) (b0:List Int)
 | s1 (t7:Int) (b2:List Int)
 | s2 (t7:Int) (b2 Y:List Int)
noncomputable def aw2:D5→M
 | .s0 n b0=>A2 Tryz.f152 [(f6 0 (List.map (d7 .u8) b0)),.int .i64 n] [some ⟨1,false,(List.map (d7 .u8) b0)⟩]
 | .s1 t7 b2=>⟨[.code (E7 [1,0,1,0]),.blk 0,.code (E7 [1,1])],[(2,.ptr 1 0 0),(7,.fn 163 [] [.iptr 1 [[.int .i64 t7]] 0 0])],[none,some ⟨1,true,[[(f6 2 (List.map (d7 .u8) b2))]]⟩,some ⟨1,false,(List.map (d7 .u8) b2)⟩]⟩
 | .s2 t7 b2 Y=>⟨[.blk 0,.code (E7 [1,1])],[(2,.ptr 1 0 0),(7,.fn 163 [] [.iptr 1 [[.int .i64 t7]] 0 0])],[none,some ⟨1,true,[[(f6 2 (List.map (d7 .u8) b2))]]⟩,some ⟨1,false,(List.map (d7 .u8) b2)⟩]⟩
noncomputable def ag8:D5→(List Int)→Prop
 | .s0 n b0,r_=>f5 E (Cx.of Tryz.f152 true 1) (QW (Rs M5 r_)) (.go (aw2 (.s0 n b0)))
 | .s1 t7 b2,r_=>f5 E (Cx.of Tryz.f152 true 1) (QW (Rs M5 r_)) (.go (aw2 (.s1 t7 b2)))
 | .s2 t7 b2 Y,r_=>L3 E (Cx.of Tryz.f152 true 1) (QW (Rs M5 r_)) 2 (E7 [1,0,1,0]) [.blk 0,.code (E7 [1,1])] [(2,.ptr 1 0 0),(7,.fn 163 [] [.iptr 1 [[.int .i64 t7]] 0 0])] [] [] (List.map A1 Y) [none,some ⟨1,true,[[(f6 2 (List.map (d7 .u8) b2))]]⟩,some ⟨1,false,(List.map (d7 .u8) b2)⟩]
noncomputable def aM3 (n:Int) (b0:List Int):Option (D5⊕(List Int)):=((ax7 n).bind fun y1=>(some (.inl (.s1 y1 b0))))
noncomputable def aM2 (t7:Int) (b2:List Int):Option (D5⊕(List Int)):=((ak6 t7).bind fun y1=>(some (.inl (.s2 t7 b2 y1))))
noncomputable def aF5 (t7:Int) (b2:List Int):Option (D5⊕(List Int)):=(some (.inr b2))
noncomputable def aF4 (t7:Int) (b2:List Int) (y:Int) (Y:List Int):Option (D5⊕(List Int)):=(bif (decide (((List.map (d7 .u8) b2).length+1)*1≤i7)) then (some (.inl (.s2 t7 (b2++ [y]) Y))) else none)
noncomputable def aL9 (t7:Int) (b2:List Int):List Int→Option (D5⊕(List Int))
 | []=>aF5 t7 b2
 | y::Y=>aF4 t7 b2 y Y
noncomputable def R1:D5→Option (D5⊕(List Int))
 | .s0 n b0=>aM3 n b0
 | .s1 t7 b2=>aM2 t7 b2
 | .s2 t7 b2 Y=>aL9 t7 b2 Y
theorem cg6 {n:Int}{b0 r:List Int}{x:D5⊕(List Int)} (h:aM3 n b0=some x) (ha:z5 ag8 r x):f5 E (Cx.of Tryz.f152 true 1) (QW (Rs M5 r)) (.go (aw2 (.s0 n b0))):=by
 unfold aM3 at h
 refine zc 10 [] h (fun _=>bB5) fun y1 h=> ?_
 exact zkP 2 h ha id [.mv 0]
theorem ck0 {t7:Int}{b2 r:List Int}{x:D5⊕(List Int)} (h:aM2 t7 b2=some x) (ha:z5 ag8 r x):f5 E (Cx.of Tryz.f152 true 1) (QW (Rs M5 r)) (.go (aw2 (.s1 t7 b2))):=by
 unfold aM2 at h
 refine l5 hm 1 _ ?_
 have ok1:=fun (y:List Int) (hy:ak6 t7=some y)=>bs5 hy
 refine cP0 (m:=2) (c:=E7 [1,0,1,0]) (t:= [.blk 0,.code (E7 [1,1])]) (fr:= [(2,.ptr 1 0 0),(7,.fn 163 [] [.iptr 1 [[.int .i64 t7]] 0 0])]) (σ:= [none,some ⟨1,true,[[(f6 2 (List.map (d7 .u8) b2))]]⟩,some ⟨1,false,(List.map (d7 .u8) b2)⟩]) (caps1:= [.iptr 1 [[.int .i64 t7]] 0 0]) (caps:= [.iptr 1 [[.int .i64 t7]] 0 0]) (sub1:= []) (sub:= []) A1 h (by kernel_rfl) ⟨rfl,rfl⟩ (by kernel_rfl) (by kernel_rfl) ok1 (fun y1 h1 h=> ?_)
 obtain rfl:=Option.some.inj h
 exact ha
theorem cc2 {t7:Int}{b2 r:List Int}{x:D5⊕(List Int)} (h:aF5 t7 b2=some x) (ha:z5 ag8 r x):L3 E (Cx.of Tryz.f152 true 1) (QW (Rs M5 r)) 2 (E7 [1,0,1,0]) [.blk 0,.code (E7 [1,1])] [(2,.ptr 1 0 0),(7,.fn 163 [] [.iptr 1 [[.int .i64 t7]] 0 0])] [] [] ([]) [none,some ⟨1,true,[[(f6 2 (List.map (d7 .u8) b2))]]⟩,some ⟨1,false,(List.map (d7 .u8) b2)⟩]:=by
 unfold aF5 at h
 refine aW2 ?_
 exact ztP 8 h ha
theorem ca5 {t7:Int}{b2:List Int}{y:Int}{Y r:List Int}{x:D5⊕(List Int)} (h:aF4 t7 b2 y Y=some x) (ha:z5 ag8 r x):L3 E (Cx.of Tryz.f152 true 1) (QW (Rs M5 r)) 2 (E7 [1,0,1,0]) [.blk 0,.code (E7 [1,1])] [(2,.ptr 1 0 0),(7,.fn 163 [] [.iptr 1 [[.int .i64 t7]] 0 0])] [] [] (A1 y::List.map A1 Y) [none,some ⟨1,true,[[(f6 2 (List.map (d7 .u8) b2))]]⟩,some ⟨1,false,(List.map (d7 .u8) b2)⟩]:=by
 unfold aF4 at h
 refine aM7 ?_
 refine zn 8 h fun h=> ?_
 refine za 0 (d7 .u8) b2 ([y]) ?_
 refine l5 hm 6 _ ?_
 obtain rfl:=Option.some.inj h
 exact aH6 [] (s1:= [none,some ⟨1,true,[[.msl 2 0 ((List.map (d7 .u8) (b2++ [y])).length) ((List.map (d7 .u8) (b2++ [y])).length) false]]⟩,some ⟨1,false,(List.map (d7 .u8) (b2++ [y]))⟩]) (s:= [none,some ⟨1,true,[[.msl 2 0 ((List.map (d7 .u8) (b2++ [y])).length) ((List.map (d7 .u8) (b2++ [y])).length) false]]⟩,some ⟨1,false,(List.map (d7 .u8) (b2++ [y]))⟩]) (by kernel_rfl) (rfl) (by kernel_rfl) ha
theorem cg7 {t7:Int}{b2 Y r:List Int}{x:D5⊕(List Int)} (h:aL9 t7 b2 Y=some x) (ha:z5 ag8 r x):L3 E (Cx.of Tryz.f152 true 1) (QW (Rs M5 r)) 2 (E7 [1,0,1,0]) [.blk 0,.code (E7 [1,1])] [(2,.ptr 1 0 0),(7,.fn 163 [] [.iptr 1 [[.int .i64 t7]] 0 0])] [] [] (List.map A1 Y) [none,some ⟨1,true,[[(f6 2 (List.map (d7 .u8) b2))]]⟩,some ⟨1,false,(List.map (d7 .u8) b2)⟩]:=by
 cases Y with
 | nil=>exact cc2 h ha
 | cons y Y=>exact ca5 h ha
noncomputable def ba4 (n:Int) (b0:List Int):Option (List Int):=U9 R1 (.s0 n b0)
theorem cA8 {n:Int}{b0 r:List Int} (h:Ev R1 (.s0 n b0) r):i0 E 152 [(f6 0 (List.map (d7 .u8) b0)),.int .i64 n] [some ⟨1,false,(List.map (d7 .u8) b0)⟩] (Rs M5 r):=
 am8 (m:=aw2 (.s0 n b0)) (fn:=Tryz.f152) (by kernel_rfl) (by kernel_rfl) (aW4 (Pd:=ag8) (fun s x r hs ha=>by
  cases s with
  | s0=>exact cg6 hs ha
  | s1=>exact ck0 hs ha
  | s2=>exact cg7 hs ha) h)
theorem cC3 {n:Int}{b0 r:List Int} (h:ba4 n b0=some r):i0 E 152 [(f6 0 (List.map (d7 .u8) b0)),.int .i64 n] [some ⟨1,false,(List.map (d7 .u8) b0)⟩] (Rs M5 r):=cA8 (bb7 h)
end Go.RX.L

namespace Go.RX.L
open Go Go.RX Go.Proofs
attribute [local irreducible] f5
noncomputable def cL4 (y:List Int):D×f3:=((f6 0 (List.map (d7 .u8) y)),[some ⟨1,false,(List.map (d7 .u8) y)⟩])
noncomputable def ay3 (n:Int):Option (List Int):=((ck4 n).bind fun y1=>(some y1))
theorem bB8 {n:Int}{r:List Int} (h:ay3 n=some r):i0 E 151 [.int .i64 n] [] (Rs cL4 r):=so (fn:=Tryz.f151) (k:=true) (m:=0) h<| by
 intro r h;unfold ay3 at h
 refine zc 8 [none] h (fun _=>db3) fun y1 h=> ?_
 exact zu 3 h
end Go.RX.L

namespace Go.RX.L
open Go Go.RX Go.Proofs
attribute [local irreducible] f5
noncomputable def bR1:=n8 (p6 Tryz.f148)
noncomputable def bO5 (y:Int×Int×Int):D×f3:=(.tup [.int .i64 y.1,.int .i64 y.2.1,.int .i64 y.2.2],[])
abbrev cY7:=AOk E (Cx.of Tryz.f148 false 0) bO5
noncomputable def cJ4 (n next:Int) (t23:Bool):M:=⟨[.code (bR1 [1,1,0,0,1,1,1]),.blk 0,.code (bR1 [1,1,1])],[(9,.int .i64 n),(10,.int .i64 next),(23,.bool t23)],[]⟩
noncomputable def L7 (n next:Int) (t23:Bool):Option (Int×Int×Int):=(bif t23 then (some (0,0,2)) else (some (n,next,0)))
theorem bu3 {n next t23}:cY7 (cJ4 n next t23) (L7 n next t23):=by
 intro r h;unfold L7 at h
 refine zs 1 h (fun h=> ?_) fun h=> ?_
 ·
  exact zu 7 h
 exact zu 11 h
noncomputable def J3 (b:List Int) (at_ most:Int):Option (Int×Int×Int):=((bE8 b at_).bind fun y1=>(bif ((y1.2.2:Int) !=0) then (some (0,0,y1.2.2)) else (bif (decide ((y1.1:Int)<0)) then (L7 y1.1 y1.2.1 (decide ((y1.1:Int)<0))) else (L7 y1.1 y1.2.1 (decide ((y1.1:Int)>most))))))
theorem bM3 {b:List Int}{at_ most:Int}{r:Int×Int×Int} (h:J3 b at_ most=some r):i0 E 148 [.sl false 1 (List.map (d7 .u8) b),.int .i64 at_,.int .i64 most] [] (Rs bO5 r):=so (fn:=Tryz.f148) (k:=false) (m:=0) h<| by
 intro r h;unfold J3 at h
 refine zc 11 [] h (fun _=>ce3) fun y1 h=> ?_
 refine zs 17 h (fun h=> ?_) fun h=> ?_
 ·
  exact zu 8 h
 refine zs 8 h (fun h=> ?_) fun h=> ?_
 ·
  exact zg 1 (bu3 h)
 exact zg 6 (bu3 h)
end Go.RX.L

namespace Go.RX
open Go
/-! ### zigzag -/
def zz (n:Int):Nat:=if 0≤n then 2*n.toNat else 2*(-n).toNat-1
def bx0 (u:Nat):Int:=if u%2=0 then ((u/2:Nat):Int) else-((u/2:Nat):Int)-1
theorem dP6 (n:Int):bx0 (zz n)=n:=by
 unfold bx0 zz
 split<;>split<;>omega
theorem dN2 (u:Nat):zz (bx0 u)=u:=by
 unfold bx0 zz
 split<;>split<;>omega
theorem dk2 {n:Int} (h:n4 .i64 n):zz n<18446744073709551616:=by
 have:=aa6.1 h
 unfold zz
 split<;>omega
theorem dP7 {u:Nat} (h:u<18446744073709551616):n4 .i64 (bx0 u):=by
 refine aa6.2 ?_
 unfold bx0
 split<;>omega
/-! ### a number's bytes -/
def ay8 (u:Nat):List Int:=if h:u<128 then [(u:Int)] else ((u%128+128:Nat):Int)::ay8 (u/128)
termination_by u
decreasing_by omega
theorem by6 {u:Nat} (h:u<128):ay8 u= [(u:Int)]:=by rw [ay8,dif_pos h]
theorem bE0 {u:Nat} (h:128≤u):ay8 u=((u%128+128:Nat):Int)::ay8 (u/128):=by rw [ay8,dif_neg (by omega)]
theorem cV4:∀(k u:Nat),u<2^(7*k)→0<k→(ay8 u).length≤k
 | 0,_,_,h=>absurd h (by simp)
 | k+1,u,h,_=>by
  by_cases hu:u<128
  ·rw [by6 hu];simp
  ·rw [bE0 (by omega)]
   have h' :u/128<2^(7*k):=by
    rw [Nat.div_lt_iff_lt_mul (by decide)]
    have:2^(7*(k+1))=2^(7*k)*128:=by rw [Nat.mul_succ,Nat.pow_add]
    omega
   have hk:0<k:=by
    rcases Nat.eq_zero_or_pos k with rfl | hk
    ·simp at h;omega
    ·exact hk
   have:=cV4 k _ h' hk
   simp;omega
theorem dE5 {u:Nat} (h:u<18446744073709551616):(ay8 u).length≤10:=cV4 10 u (by
 have:(2:Nat)^(7*10)=1180591620717411303424:=by decide
 omega) (by decide)
theorem ds5:∀(u:Nat),∀c∈ay8 u,0≤c∧c≤255:=by
 intro u
 induction u using Nat.strongRecOn with
 | ind u ih=>
  intro c hc
  by_cases h:u<128
  ·rw [by6 h] at hc;simp at hc;omega
  ·rw [bE0 (by omega)] at hc
   rcases List.mem_cons.1 hc with rfl | hc
   ·omega
   ·exact ih _ (by omega) c hc
def vd:Nat→List Int→Int⊕(Nat×Nat)
 | _,[]=> .inl 11
 | i,c::l=>if (i=9∧1<c)∨(c=0∧0<i) then .inl 12 else if c<128 then .inr (c.toNat,1) else
  match vd (i+1) l with
  | .inl e=> .inl e
  | .inr (u,k)=> .inr (c.toNat-128+128*u,k+1)
def vS (c:Nat) (r:Int⊕(Nat×Nat)):Int⊕(Nat×Nat):=match r with
 | .inl e=> .inl e
 | .inr (u,k)=> .inr (c-128+128*u,k+1)
theorem dM2 (i:Nat) (c:Int) (l:List Int):vd i (c::l)=if (i=9∧1<c)∨(c=0∧0<i) then .inl 12 else if c<128 then .inr (c.toNat,1) else vS c.toNat (vd (i+1) l):=by
 simp only [vd]
 split
 ·rfl
 ·split
  ·rfl
  ·unfold vS;cases vd (i+1) l<;>rfl
theorem cS2 {i:Nat} (h:i≤8):2^(64-7*i)=2^(64-7*(i+1))*128:=by
 rw [show 64-7*i=(64-7*(i+1))+7 by omega,Nat.pow_add]
theorem dW6:∀(u i:Nat) (rest:List Int),i≤9→u<2^(64-7*i)→(0<u∨i=0)→vd i (ay8 u++rest)= .inr (u,(ay8 u).length):=by
 intro u
 induction u using Nat.strongRecOn with
 | ind u ih=>
  intro i rest hi hu h0
  by_cases h:u<128
  ·rw [by6 h]
   simp only [List.cons_append,List.nil_append,vd]
   rw [if_neg,if_pos (by omega)]
   ·simp
   ·rintro (⟨rfl,h1⟩ | ⟨h1,h2⟩)
    ·simp at hu;omega
    ·omega
  ·have hi8:i≤8:=by
    rcases Nat.lt_or_ge i 9 with h | h
    ·omega
    ·have:i=9:=by omega
     subst this
     simp at hu;omega
   rw [bE0 (by omega)]
   simp only [List.cons_append,vd]
   have hu' :u/128<2^(64-7*(i+1)):=by
    rw [Nat.div_lt_iff_lt_mul (by decide),←cS2 hi8];exact hu
   rw [if_neg,if_neg (by omega),ih (u/128) (by omega) (i+1) rest (by omega) hu' (.inl (by omega))]
   ·simp;omega
   ·rintro (⟨rfl,h1⟩ | ⟨h1,h2⟩)<;>omega
theorem dr9:∀(l:List Int) (i u k:Nat),i≤9→(∀c∈l,0≤c∧c≤255)→vd i l= .inr (u,k)→l.take k=ay8 u∧k≤l.length∧k=(ay8 u).length∧u<2^(64-7*i)∧(0<i→0<u)
 | [],_,_,_,_,_,h=>by simp [vd] at h
 | c::l,i,u,k,hi,hb,h=>by
  simp only [vd] at h
  have hc:=hb c (by simp)
  split at h
  ·cases h
  ·rename_i hno
   simp only [not_or,not_and] at hno
   split at h
   ·rename_i hlt
    simp only [Sum.inr.injEq,Prod.mk.injEq] at h
    obtain ⟨rfl,rfl⟩:=h
    have hv:ay8 c.toNat= [c]:=by rw [by6 (by omega),Int.toNat_of_nonneg hc.1]
    refine ⟨by rw [hv];simp,by simp,by rw [hv];rfl,?_,fun h=> ?_⟩
    ·rcases Nat.lt_or_ge i 9 with h9 | h9
     ·have:2^8≤2^(64-7*i):=Nat.pow_le_pow_right (by decide) (by omega)
      omega
     ·have:i=9:=by omega
      subst this
      have:=hno.1 rfl
      simp;omega
    ·have:=hno.2;omega
   ·rename_i hge
    split at h
    ·cases h
    ·rename_i u' k' hv
     simp only [Sum.inr.injEq,Prod.mk.injEq] at h
     obtain ⟨rfl,rfl⟩:=h
     have hi8:i≤8:=by
      rcases Nat.lt_or_ge i 9 with h9 | h9
      ·omega
      ·have:i=9:=by omega
       have:=hno.1 this
       omega
     obtain ⟨h1,h2,h3,h4,h5⟩:=dr9 l (i+1) u' k' (by omega) (fun c hc=>hb c (by simp [hc])) hv
     have h5:=h5 (by omega)
     have e1:(c.toNat-128+128*u')/128=u' :=by omega
     have e2:(c.toNat-128+128*u')%128+128=c.toNat:=by omega
     have hven:ay8 (c.toNat-128+128*u')=c::ay8 u' :=by
      rw [bE0 (by omega),e1,e2,Int.toNat_of_nonneg hc.1]
     refine ⟨by rw [hven,List.take_succ_cons,h1],by simp;omega,by rw [hven];simp;omega,?_,fun _=>by omega⟩
     rw [cS2 hi8]
     omega
theorem dn6:∀(l:List Int) (i:Nat) (e:Int),vd i l= .inl e→e=11∨e=12
 | [],_,e,h=>by simp [vd] at h;exact .inl h.symm
 | c::l,i,e,h=>by
  simp only [vd] at h
  split at h
  ·simp at h;exact .inr h.symm
  ·split at h
   ·cases h
   ·split at h
    ·rename_i e' hv
     obtain rfl:=Sum.inl.inj h
     exact dn6 l _ _ hv
    ·cases h
/-! ### numbers -/
def ae7 (n:Int):List Int:=ay8 (zz n)
def pI (l:List Int):Int⊕(Int×Nat):=match vd 0 l with | .inl e=> .inl e | .inr (u,k)=> .inr (bx0 u,k)
abbrev r6 (l:List Int):Prop:=∀c∈l,0≤c∧c≤255
theorem aO1 {n:Int} (h:n4 .i64 n):(ae7 n).length≤10:=dE5 (dk2 h)
theorem bF1 (n:Int):r6 (ae7 n):=ds5 _
theorem cS3 {n:Int} (h:n4 .i64 n) (rest:List Int):pI (ae7 n++rest)= .inr (n,(ae7 n).length):=by
 unfold pI ae7
 rw [dW6 (zz n) 0 rest (by omega) (by have:=dk2 h;simpa using this) (.inr rfl)]
 simp [dP6]
theorem bR4 {l:List Int}{n:Int}{k:Nat} (hb:r6 l) (h:pI l= .inr (n,k)):l.take k=ae7 n∧k≤l.length∧k=(ae7 n).length∧n4 .i64 n:=by
 unfold pI at h
 split at h
 ·cases h
 ·rename_i u k' hv
  simp only [Sum.inr.injEq,Prod.mk.injEq] at h
  obtain ⟨rfl,rfl⟩:=h
  obtain ⟨h1,h2,h3,h4,_⟩:=dr9 l 0 u k' (by omega) hb hv
  unfold ae7
  rw [dN2]
  exact ⟨h1,h2,h3,dP7 (by simpa using h4)⟩
theorem dt6 {l:List Int}{e:Int} (h:pI l= .inl e):e=11∨e=12:=by
 unfold pI at h
 split at h
 ·rename_i e' hv
  obtain rfl:=Sum.inl.inj h
  exact dn6 _ _ _ hv
 ·cases h
/-! ### lists -/
def pN:Nat→List Int→Int⊕(List Int×Nat)
 | 0,_=> .inr ([],0)
 | n+1,l=>match pI l with
  | .inl e=> .inl e
  | .inr (x,k)=>(match pN n (l.drop k) with
   | .inl e=> .inl e
   | .inr (xs,m)=> .inr (x::xs,k+m))
def pL (l:List Int):Int⊕(List Int×Nat):=match pI l with
 | .inl e=> .inl e
 | .inr (n,k)=>if n<0∨n>64 then .inl 2 else (match pN n.toNat (l.drop k) with
  | .inl e=> .inl e
  | .inr (xs,m)=> .inr (xs,k+m))
def pS (x:Int) (k:Nat) (r:Int⊕(List Int×Nat)):Int⊕(List Int×Nat):=match r with
 | .inl e=> .inl e
 | .inr (xs,m)=> .inr (x::xs,k+m)
def pK (k:Nat) (r:Int⊕(List Int×Nat)):Int⊕(List Int×Nat):=match r with
 | .inl e=> .inl e
 | .inr (xs,m)=> .inr (xs,k+m)
theorem dU6 {n:Nat}{l:List Int}{e:Int} (h:pI l= .inl e):pN (n+1) l= .inl e:=by simp only [pN,h]
theorem dR3 {n:Nat}{l:List Int}{x:Int}{k:Nat} (h:pI l= .inr (x,k)):pN (n+1) l=pS x k (pN n (l.drop k)):=by
 simp only [pN,h];unfold pS;cases pN n (l.drop k)<;>rfl
theorem dS0 {l:List Int}{e:Int} (h:pI l= .inl e):pL l= .inl e:=by simp only [pL,h]
theorem dU9 {l:List Int}{n:Int}{k:Nat} (h:pI l= .inr (n,k)) (hn:n<0∨n>64):pL l= .inl 2:=by simp only [pL,h,if_pos hn]
theorem dS5 {l:List Int}{n:Int}{k:Nat} (h:pI l= .inr (n,k)) (hn:¬(n<0∨n>64)):pL l=pK k (pN n.toNat (l.drop k)):=by
 simp only [pL,h,if_neg hn];unfold pK;cases pN n.toNat (l.drop k)<;>rfl
def ab2 (xs:List Int):List Int:=xs.flatMap ae7
def encL (xs:List Int):List Int:=ae7 (xs.length:Int)++ab2 xs
abbrev as7 (l:List Int):Prop:=∀x∈l,n4 .i64 x
theorem bX3 {n:Nat} (h:n≤1000000):n4 .i64 (n:Int):=aa6.2 (by omega)
theorem dl9 (xs:List Int):r6 (ab2 xs):=fun c hc=>by
 obtain ⟨x,_,h⟩:=List.mem_flatMap.1 hc
 exact bF1 x c h
theorem bm3 (xs:List Int):r6 (encL xs):=fun c hc=>(List.mem_append.1 hc).elim (bF1 _ c) (dl9 xs c)
theorem ck3:∀{xs:List Int},as7 xs→(ab2 xs).length≤10*xs.length
 | [],_=>by simp [ab2]
 | x::xs,h=>by
  have h1:=aO1 (h x (by simp))
  have h2:=ck3 (xs:=xs) fun y hy=>h y (by simp [hy])
  simp only [ab2,List.flatMap_cons,List.length_append,List.length_cons] at h2 ⊢
  omega
theorem ao0 {xs:List Int} (h:as7 xs) (hl:xs.length≤64):(encL xs).length≤650:=by
 have h1:=aO1 (bX3 (n:=xs.length) (by omega))
 have h2:=ck3 h
 simp only [encL,List.length_append]
 omega
theorem du7:∀(xs rest:List Int),as7 xs→pN xs.length (ab2 xs++rest)= .inr (xs,(ab2 xs).length)
 | [],rest,_=>rfl
 | x::xs,rest,h=>by
  have ih:=du7 xs rest fun y hy=>h y (by simp [hy])
  simp only [ab2,List.flatMap_cons,List.length_cons,pN,List.append_assoc] at ih ⊢
  rw [cS3 (h x (by simp))]
  simp only [List.drop_left,ih,List.length_append]
theorem dv2:∀(n:Nat) (l xs:List Int) (k:Nat),r6 l→pN n l= .inr (xs,k)→l.take k=ab2 xs∧k≤l.length∧k=(ab2 xs).length∧xs.length=n∧as7 xs
 | 0,l,xs,k,_,h=>by
  simp only [pN,Sum.inr.injEq,Prod.mk.injEq] at h
  obtain ⟨rfl,rfl⟩:=h
  exact ⟨by simp [ab2],by simp,by simp [ab2],rfl,fun x hx=>by simp at hx⟩
 | n+1,l,xs,k,hb,h=>by
  simp only [pN] at h
  split at h
  ·cases h
  ·rename_i x k1 hx
   split at h
   ·cases h
   ·rename_i ys m hys
    simp only [Sum.inr.injEq,Prod.mk.injEq] at h
    obtain ⟨rfl,rfl⟩:=h
    obtain ⟨a1,a2,a3,a4⟩:=bR4 hb hx
    obtain ⟨b1,b2,b3,b4,b5⟩:=dv2 n _ _ _ (fun c hc=>hb c (List.mem_of_mem_drop hc)) hys
    simp only [List.length_drop] at b2
    refine ⟨?_,by omega,?_,by simp [b4],fun y hy=> ?_⟩
    ·simp only [ab2,List.flatMap_cons] at b1 ⊢
     rw [←a1,←b1,List.take_add]
    ·simp only [ab2,List.flatMap_cons,List.length_append] at b3 ⊢;omega
    ·rcases List.mem_cons.1 hy with rfl | hy
     ·exact a4
     ·exact b5 y hy
theorem bV6 {xs:List Int} (h:as7 xs) (hl:xs.length≤64) (rest:List Int):pL (encL xs++rest)= .inr (xs,(encL xs).length):=by
 unfold pL encL
 rw [List.append_assoc,cS3 (bX3 (n:=xs.length) (by omega))]
 simp only []
 rw [if_neg (by omega)]
 simp only [List.drop_left,Int.toNat_natCast,du7 xs rest h,List.length_append]
theorem bp3 {l xs:List Int}{k:Nat} (hb:r6 l) (h:pL l= .inr (xs,k)):l.take k=encL xs∧k≤l.length∧k=(encL xs).length∧xs.length≤64∧as7 xs:=by
 unfold pL at h
 split at h
 ·cases h
 ·rename_i n k1 hn
  split at h
  ·cases h
  ·rename_i hno
   split at h
   ·cases h
   ·rename_i ys m hys
    simp only [Sum.inr.injEq,Prod.mk.injEq] at h
    obtain ⟨rfl,rfl⟩:=h
    obtain ⟨a1,a2,a3,a4⟩:=bR4 hb hn
    obtain ⟨b1,b2,b3,b4,b5⟩:=dv2 _ _ _ _ (fun c hc=>hb c (List.mem_of_mem_drop hc)) hys
    simp only [List.length_drop] at b2
    have e:n=(ys.length:Int):=by omega
    unfold encL
    rw [←e]
    exact ⟨by rw [←a1,←b1,List.take_add],by omega,by rw [List.length_append];omega,by omega,b5⟩
end Go.RX

namespace Go.RX
open Go
theorem co9 {n:Nat} (h:n<256):(BitVec.ofInt IntKind.u8.bits (n:Int)).toNat=n:=by
 rw [BitVec.ofInt_natCast,show IntKind.u8.bits=8 from rfl,BitVec.toNat_ofNat,Nat.mod_eq_of_lt (by omega)]
theorem cZ9 {n:Nat} (h:n<256):IntKind.u8.wrap (n:Int)=n:=wU8 (by omega) (by omega)
theorem dT9 {c:Nat} (h:c<256):i9 .u8 c 127=((c%128:Nat):Int):=by
 unfold i9
 rw [show (127:Int)=((127:Nat):Int) from rfl,BitVec.toNat_and,co9 h,co9 (by omega),show (127:Nat)=2^7-1 from rfl,Nat.and_two_pow_sub_one_eq_mod,cZ9 (by omega)]
theorem dR8 {u:Nat} (h:u<18446744073709551616):i9 .u64 u 1=((u%2:Nat):Int):=by
 rw [show (1:Int)=((1:Nat):Int) from rfl,bp6 h (by omega),show (1:Nat)=2^1-1 from rfl,Nat.and_two_pow_sub_one_eq_mod]
theorem dX6 {a:Nat} (h:a<256):orI .u8 a 128=((a%128+128:Nat):Int):=by
 have key:∀a,a<256→a ||| 128=a%128+128:=by decide+kernel
 unfold orI
 rw [show (128:Int)=((128:Nat):Int) from rfl,BitVec.toNat_or,co9 h,co9 (by omega),key a h,cZ9 (by omega)]
theorem au8 (u:Nat):IntKind.u8.wrap (u:Int)=((u%256:Nat):Int):=by
 simp only [IntKind.wrap,IntKind.signed,IntKind.bits]
 simp
theorem ea4 (u:Nat):m7 .u64 u 7=((u/128:Nat):Int):=bR0 (a:=u) (k:=7) (by decide)
theorem ea8 (u:Nat):m7 .u64 u 1=((u/2:Nat):Int):=bR0 (a:=u) (k:=1) (by decide)
theorem dV9 {u p s:Nat} (hu:u<2^s) (hp:u+p*2^s<18446744073709551616) (hs:s≤64):orI .u64 u (E6 .u64 p s)=((u+p*2^s:Nat):Int):=by
 have h1:E6 .u64 p s=((p*2^s:Nat):Int):=by
  unfold E6
  have e:min (s:Int).toNat IntKind.u64.bits=s:=by simp [IntKind.bits];omega
  rw [e,show ((p:Int)*(2:Int)^s)=((p*2^s:Nat):Int) by norm_cast,aH5 (by omega)]
 have hu' :u<18446744073709551616:=by omega
 rw [h1,bX7 hu' (by omega)]
 congr 1
 rw [Nat.or_comm,Nat.mul_comm,←Nat.two_pow_add_eq_or_of_lt hu,Nat.mul_comm,Nat.add_comm]
theorem ba9 (n:Nat) (h:n<18446744073709551616):IntKind.i64.wrap (n:Int)=if n<9223372036854775808 then (n:Int) else (n:Int)-18446744073709551616:=by
 simp only [IntKind.wrap,IntKind.signed,IntKind.bits]
 simp
 split<;>split<;>omega
theorem dq4 {n:Nat} (h:n<9223372036854775808):(BitVec.ofInt IntKind.i64.bits (n:Int)).toNat=n:=by
 rw [BitVec.ofInt_natCast,show IntKind.i64.bits=64 from rfl,BitVec.toNat_ofNat,Nat.mod_eq_of_lt (by omega)]
theorem dI7 {n:Nat} (h:n<9223372036854775808):O1 .i64 n (-1)= -(n:Int)-1:=by
 unfold O1
 have e:BitVec.ofInt IntKind.i64.bits (-1)=BitVec.allOnes IntKind.i64.bits:=by decide
 rw [e,BitVec.xor_allOnes,BitVec.toNat_not,dq4 h,show IntKind.i64.bits=64 from rfl,ba9 _ (by omega),if_neg (by omega)]
 omega
theorem xor_zero {n:Nat} (h:n<9223372036854775808):O1 .i64 n 0=n:=by
 unfold O1
 have e:BitVec.ofInt IntKind.i64.bits 0=0#_:=by decide
 rw [e,BitVec.xor_zero,dq4 h,ba9 _ (by omega),if_pos h]
theorem dC9 {u:Nat} (h:u<18446744073709551616):O1 .i64 (IntKind.i64.wrap (m7 .u64 u 1)) (IntKind.i64.wrap ((0:Int)-(IntKind.i64.wrap (i9 .u64 u 1))))=bx0 u:=by
 rw [ea8,dR8 h,u4 (n:=((u/2:Nat):Int)) (by omega) (by omega),u4 (n:=((u%2:Nat):Int)) (by omega) (by omega)]
 unfold bx0
 rcases Nat.mod_two_eq_zero_or_one u with h1 | h1
 ·rw [h1,if_pos rfl]
  simp only [Int.natCast_zero,Int.sub_zero]
  rw [u4 (by omega) (by omega),xor_zero (by omega)]
 ·rw [h1,if_neg (by omega)]
  rw [u4 (by omega) (by omega),show (0:Int)-((1:Nat):Int)= -1 by omega,dI7 (by omega)]
theorem dU8 (n:Int):IntKind.u64.wrap (IntKind.i64.wrap n)=n%18446744073709551616:=by
 simp only [IntKind.wrap,IntKind.signed,IntKind.bits]
 simp
 split<;>omega
theorem dw7 {n:Nat} (h:n<18446744073709551616):O1 .u64 n 0=n:=by
 unfold O1
 have e:BitVec.ofInt IntKind.u64.bits 0=0#_:=by decide
 rw [e,BitVec.xor_zero,aO5 h,aH5 h]
theorem dr6 {n:Nat} (h:n<18446744073709551616):O1 .u64 n 18446744073709551615=((18446744073709551615-n:Nat):Int):=by
 unfold O1
 have e:BitVec.ofInt IntKind.u64.bits 18446744073709551615=BitVec.allOnes IntKind.u64.bits:=by decide
 rw [e,BitVec.xor_allOnes,BitVec.toNat_not,aO5 h,show IntKind.u64.bits=64 from rfl,show 2^64-1-n=18446744073709551615-n by omega,aH5 (by omega)]
theorem dS8 {t:Int} (h:n4 .i64 t):O1 .u64 (IntKind.u64.wrap (E6 .i64 t 1)) (IntKind.u64.wrap (m7 .i64 t 63))=(zz t:Int):=by
 have ht:=aa6.1 h
 have e1:IntKind.u64.wrap (E6 .i64 t 1)=(t*2)%18446744073709551616:=by
  unfold E6
  rw [show min (1:Int).toNat IntKind.i64.bits=1 from rfl,dU8,show (2:Int)^1=2 from rfl]
 have e2:m7 .i64 t 63=if 0≤t then 0 else-1:=by
  unfold m7
  rw [show min (63:Int).toNat IntKind.i64.bits=63 from rfl]
  have e63:(2:Int)^63=9223372036854775808:=rfl
  rw [e63,Int.fdiv_eq_ediv_of_nonneg _ (by omega)]
  split<;>omega
 rw [e1,e2]
 unfold zz
 split
 ·rename_i h0
  obtain ⟨n,rfl⟩:=Int.eq_ofNat_of_zero_le h0
  rw [show IntKind.u64.wrap 0=0 from rfl,show ((n:Int)*2)%18446744073709551616=((2*n:Nat):Int) by omega,dw7 (by omega)]
  simp
 ·rename_i h0
  obtain ⟨n,hn⟩:=Int.eq_ofNat_of_zero_le (show 0≤ -t by omega)
  have:t= -(n:Int):=by omega
  subst this
  rw [show IntKind.u64.wrap (-1)=18446744073709551615 from rfl,show (-(n:Int)*2)%18446744073709551616=((18446744073709551616-2*n:Nat):Int) by omega,dr6 (by omega)]
  congr 1
  simp
  omega
end Go.RX

namespace Go.RX.L
open Go Go.RX Go.Proofs
attribute [local irreducible] f5
noncomputable def bD0:=n8 (p6 Tryz.f121)
noncomputable def bD3 (y:Int×(List Int)):D×f3:=(.tup [(f6 0 (List.map (d7 .u8) y.2)),.int .i64 y.1],[some ⟨1,false,(List.map (d7 .u8) y.2)⟩])
inductive as4 where
 | s0 (l_:List Int)
 | s1 (t13:List Int) (t14 t15:Int) (b:List Int)
noncomputable def bB9:as4→M
 | .s0 l_=>A2 Tryz.f121 [.sl false 1 (List.map (d7 .i64) l_)] []
 | .s1 t13 t14 t15 b=>⟨[.lpc (bD0 [1,1,1,0,1,0,0]) 57360,.blk 0,.code (bD0 [1,1,1,1])],[(4,(f6 0 (List.map (d7 .u8) b))),(13,.sl false 1 (List.map (d7 .i64) t13)),(14,.int .i64 t14),(15,.int .i64 t15)],[some ⟨1,false,(List.map (d7 .u8) b)⟩]⟩
abbrev bA4:=SOk E (Cx.of Tryz.f121 true 0) bD3 bB9
noncomputable def aH7 (l_:List Int):Option (as4⊕(Int×(List Int))):=(bif (decide (((((List.map (d7 .i64) l_).length:Nat):Int):Int)>64)) then (some (.inr (2,[]))) else ((ay3 (((List.map (d7 .i64) l_).length:Nat):Int)).bind fun y2=>(some (.inl (.s1 l_ (((List.map (d7 .i64) l_).length:Nat):Int) 0 y2)))))
noncomputable def ar4 (t13:List Int) (t14 t15:Int) (b:List Int):Option (as4⊕(Int×(List Int))):=(bif (decide ((t15:Int)<t14)) then (bif ((decide ((0:Int)≤t15))&&(decide ((t15:Int)<(((List.map (d7 .i64) t13).length:Nat):Int)))) then (((t13)[t15.toNat]?).bind fun y3=>((ba4 y3 b).bind fun y5=>(some (.inl (.s1 t13 t14 (IntKind.i64.wrap (t15+1)) y5))))) else none) else (some (.inr (0,b))))
noncomputable def ad1:as4→Option (as4⊕(Int×(List Int)))
 | .s0 l_=>aH7 l_
 | .s1 t13 t14 t15 b=>ar4 t13 t14 t15 b
theorem ca4 {l_}:bA4 (.s0 l_) (aH7 l_):=by
 intro r x h ha;unfold aH7 at h
 refine zs 13 h (fun h=> ?_) fun h=> ?_
 ·
  exact zt 6 h ha [.matt 0 0 1]
 refine zc 6 [] h (fun _=>bB8) fun y2 h=> ?_
 exact zj 12 h ha
theorem cb8 {t13 t14 t15 b}:bA4 (.s1 t13 t14 t15 b) (ar4 t13 t14 t15 b):=by
 intro r x h ha;unfold ar4 at h
 refine zs 7 h (fun h=> ?_) fun h=> ?_
 ·
  refine zn 6 h fun h=> ?_
  refine zr 1 (d7 .i64) h fun y3 h=> ?_
  refine zc 6 [] h (fun _=>cC3) fun y5 h=> ?_
  exact zj 8 h ha
 exact zt 8 h ha
noncomputable def aE9 (l_:List Int):Option (Int×(List Int)):=U9 ad1 (.s0 l_)
theorem aT5 {l_:List Int}{r:Int×(List Int)} (h:aE9 l_=some r):i0 E 121 [.sl false 1 (List.map (d7 .i64) l_)] [] (Rs bD3 r):=sc (fn:=Tryz.f121) (k:=true) (m:=0) (stM:=bB9) h fun s=>by
 cases s with
 | s0=>exact ca4
 | s1=>exact cb8
end Go.RX.L

namespace Go.RX.L
open Go Go.RX Go.Proofs
attribute [local irreducible] f5
noncomputable def ao8:=n8 (p6 Tryz.f118)
noncomputable def cd8 (y:(List Int)×Int×Int):D×f3:=(.tup [.sl false 1 (List.map (d7 .i64) y.1),.int .i64 y.2.1,.int .i64 y.2.2],[])
inductive ay2 where
 | s0 (b:List Int) (at_:Int)
 | s1 (b:List Int) (next e:Int) (t19 t20:Int) (out:List Int)
 | s2 (next e:Int) (out:List Int)
noncomputable def cd3:ay2→M
 | .s0 b at_=>A2 Tryz.f118 [.sl false 1 (List.map (d7 .u8) b),.int .i64 at_] []
 | .s1 b next e t19 t20 out=>⟨[.lpc (ao8 [1,1,1,0,1,0,0]) 1574657,.blk 0,.code (ao8 [1,1,1,1])],[(0,.sl false 1 (List.map (d7 .u8) b)),(8,.int .i64 next),(9,.int .i64 e),(10,(f6 0 (List.map (d7 .i64) out))),(19,.int .i64 t19),(20,.int .i64 t20)],[some ⟨1,false,(List.map (d7 .i64) out)⟩]⟩
 | .s2 next e out=>⟨[.code (ao8 [1,1,1,1])],[(8,.int .i64 next),(9,.int .i64 e),(10,(f6 0 (List.map (d7 .i64) out)))],[some ⟨1,false,(List.map (d7 .i64) out)⟩]⟩
abbrev by1:=SOk E (Cx.of Tryz.f118 false 0) cd8 cd3
noncomputable def ba2 (b:List Int) (at_:Int):Option (ay2⊕((List Int)×Int×Int)):=((J3 b at_ 64).bind fun y1=>(some (.inl (.s1 b y1.2.1 y1.2.2 y1.1 0 ([])))))
noncomputable def an9 (b:List Int) (next e:Int) (t19 t20:Int) (out:List Int):Option (ay2⊕((List Int)×Int×Int)):=(bif (decide ((t20:Int)<t19)) then ((bE8 b next).bind fun y2=>(bif ((y2.2.2:Int) !=0) then (some (.inl (.s2 y2.2.1 y2.2.2 out))) else (bif (decide (((List.map (d7 .i64) out).length+1)*8≤i7)) then (some (.inl (.s1 b y2.2.1 y2.2.2 t19 (IntKind.i64.wrap (t20+1)) (out++ [y2.1])))) else none))) else (some (.inl (.s2 next e out))))
noncomputable def ax9 (next e:Int) (out:List Int):Option (ay2⊕((List Int)×Int×Int)):=(bif ((e:Int) !=0) then (some (.inr ([],0,e))) else (some (.inr (out,next,0))))
noncomputable def H4:ay2→Option (ay2⊕((List Int)×Int×Int))
 | .s0 b at_=>ba2 b at_
 | .s1 b next e t19 t20 out=>an9 b next e t19 t20 out
 | .s2 next e out=>ax9 next e out
theorem cy3 {b at_}:by1 (.s0 b at_) (ba2 b at_):=by
 intro r x h ha;unfold ba2 at h
 refine zc 11 [] h (fun _=>bM3) fun y1 h=> ?_
 refine l5 hm 21 _ ?_
 obtain rfl:=Option.some.inj h
 refine ap9 1574657 [.mat 10 1] (m' :=⟨[.lpc (ao8 [1,1,1,0,1,0,0]) 1574657,.blk 0,.code (ao8 [1,1,1,1])],[(0,.sl false 1 (List.map (d7 .u8) b)),(8,.int .i64 y1.2.1),(9,.int .i64 y1.2.2),(10,.msl 0 0 0 0 false),(19,.int .i64 y1.1),(20,.int .i64 0)],[some ⟨1,false,[]⟩]⟩) (by kernel_rfl) ?_
 refine ae9 (n1:=0) (n2:=(List.map (d7 .i64) ([])).length) (fun n_len=> .go ⟨[.lpc (ao8 [1,1,1,0,1,0,0]) 1574657,.blk 0,.code (ao8 [1,1,1,1])],[(0,.sl false 1 (List.map (d7 .u8) b)),(8,.int .i64 y1.2.1),(9,.int .i64 y1.2.2),(10,.msl 0 0 n_len n_len false),(19,.int .i64 y1.1),(20,.int .i64 0)],[some ⟨1,false,[]⟩]⟩) (by simp) ?_
 exact ha
theorem cv0 {b next e t19 t20 out}:by1 (.s1 b next e t19 t20 out) (an9 b next e t19 t20 out):=by
 intro r x h ha;unfold an9 at h
 refine zs 7 h (fun h=> ?_) fun h=> ?_
 ·
  refine zc 13 [] h (fun _=>ce3) fun y2 h=> ?_
  refine zs 14 h (fun h=> ?_) fun h=> ?_
  ·
   exact zk 1 h ha
  refine zn 7 h fun h=> ?_
  refine za 0 (d7 .i64) out ([y2.1]) ?_
  exact zj 8 h ha
 exact zk 1 h ha
theorem cx4 {next e out}:by1 (.s2 next e out) (ax9 next e out):=by
 intro r x h ha;unfold ax9 at h
 refine zs 7 h (fun h=> ?_) fun h=> ?_
 ·
  exact zt 8 h ha [.slot 0 [some 1]]
 refine zm 10 (b:=(Nat.ble (0+(List.map (d7 .i64) out).length) ((List.map (d7 .i64) out).length))) (u7 _) ?_
 obtain rfl:=Option.some.inj h
 have hv:=ha
 simp only [aP6] at hv
 subst hv
 exact ar9 [] (d1:= .tup [.sl false 1 (List.take ((List.map (d7 .i64) out).length) (List.drop 0 (List.map (d7 .i64) out))),.int .i64 next,.int .i64 0]) (d:= .tup [.sl false 1 (List.map (d7 .i64) out),.int .i64 next,.int .i64 0]) (s1:= []) (s:= []) (by kernel_rfl) ⟨by simp [d8.enc,d8.l,i5.enc,i5.l,n5.enc,n5.l,q0.enc,q0.l,e9.enc,e9.l,Op.enc,Op.l,Plan.enc,Plan.l,C6.enc,C6.l,i6.enc,i6.l,n7.enc,n7.l,l8.enc,l8.l,d9.enc,d9.l,List.take_of_length_le,List.map_take,List.map_drop],rfl⟩ ⟨rfl,rfl⟩ Cx.fin_of
noncomputable def aO4 (b:List Int) (at_:Int):Option ((List Int)×Int×Int):=U9 H4 (.s0 b at_)
theorem bS1 {b:List Int}{at_:Int}{r:(List Int)×Int×Int} (h:aO4 b at_=some r):i0 E 118 [.sl false 1 (List.map (d7 .u8) b),.int .i64 at_] [] (Rs cd8 r):=sc (fn:=Tryz.f118) (k:=false) (m:=0) (stM:=cd3) h fun s=>by
 cases s with
 | s0=>exact cy3
 | s1=>exact cv0
 | s2=>exact cx4
end Go.RX.L

namespace Go.RX.L
open Go Go.RX
abbrev F6:Nat:=140737488351232
/-! ### the program's writer -/
theorem dt5:∀(u:Nat),u<18446744073709551616→EvL Y7 (.s1 u) (ay8 u):=by
 intro u
 induction u using Nat.strongRecOn with
 | ind u ih=>
  intro hu
  by_cases h:u<128
  ·rw [by6 h]
   refine .done ?_
   have h1:decide ((u:Int)>127)=false:=by simp;omega
   simp [Y7,am4,h1,cZ9 (show u<256 by omega)]
  ·rw [bE0 (by omega)]
   have h1:decide ((u:Int)>127)=true:=by simp;omega
   refine EvL.next (l:= [((u%128+128:Nat):Int)]) (s' := .s1 ((u/128:Nat):Int)) ?_ (ih (u/128) (by omega) (by omega))
   simp only [Y7,am4,h1,cond_true,ea4,au8,dX6 (show u%256<256 by omega)]
   simp
theorem cH8 {n:Int} (h:n4 .i64 n):ak6 n=some (ae7 n):=by
 refine bC6 ?_
 have:=dt5 (zz n) (dk2 h)
 rw [←dS8 h] at this
 exact EvL.next (l:= []) rfl this
theorem cU1 {t:Int}:∀(Y b:List Int),b.length+Y.length≤F6→Ev ab6 (.s2 t b Y) (b++Y)
 | [],b,_=> .done (by simp [ab6,bl8,ba6])
 | y::Y,b,h=>by
  simp only [List.length_cons,F6] at h
  have hl:decide (((List.map (d7 .u8) b).length+1)*1≤i7)=true:=D3 (by simp;omega)
  have ih:=cU1 (t:=t) Y (b++ [y]) (by simp only [List.length_append,List.length_cons,List.length_nil,F6];omega)
  rw [List.append_assoc] at ih
  exact .next (s' := .s2 t (b++ [y]) Y) (by simp only [ab6,bl8,ba5,hl,cond_true]) ih
theorem dP0 {n:Int} (h:n4 .i64 n):ck4 n=some (ae7 n):=by
 have hl:=aO1 h
 refine u0 (.next (s' := .s1 n []) (by simp [ab6,bk8,ax7]) (.next (s' := .s2 n [] (ae7 n)) (by simp [ab6,bk5,cH8 h]) ?_))
 exact cU1 (ae7 n) [] (by simp [F6];omega)
theorem cH1 {n:Int} (h:n4 .i64 n):ay3 n=some (ae7 n):=by simp [ay3,dP0 h]
theorem cE5 {t:Int}:∀(Y b:List Int),b.length+Y.length≤F6→Ev R1 (.s2 t b Y) (b++Y)
 | [],b,_=> .done (by simp [R1,aL9,aF5])
 | y::Y,b,h=>by
  simp only [List.length_cons,F6] at h
  have hl:decide (((List.map (d7 .u8) b).length+1)*1≤i7)=true:=D3 (by simp;omega)
  have ih:=cE5 (t:=t) Y (b++ [y]) (by simp only [List.length_append,List.length_cons,List.length_nil,F6];omega)
  rw [List.append_assoc] at ih
  exact .next (s' := .s2 t (b++ [y]) Y) (by simp only [R1,aL9,aF4,hl,cond_true]) ih
theorem cB9 {n:Int} (h:n4 .i64 n) {b:List Int} (hb:b.length≤1000000):ba4 n b=some (b++ae7 n):=by
 have hl:=aO1 h
 refine u0 (.next (s' := .s1 n b) (by simp [R1,aM3,ax7]) (.next (s' := .s2 n b (ae7 n)) (by simp [R1,aM2,cH8 h]) ?_))
 exact cE5 (ae7 n) b (by simp [F6];omega)
theorem do2 (xs:List Int) (x:Int):ab2 (xs++ [x])=ab2 xs++ae7 x:=by simp [ab2]
theorem bV2 {l:List Int}{k:Nat} (h:k<l.length):l.take (k+1)=l.take k++ [l[k]]:=by rw [List.take_add_one,List.getE h];rfl
theorem cS0 {l:List Int} (hl:as7 l) (h64:l.length≤64) (p:List Int) (hp:p.length≤10):∀(j k:Nat),k+j=l.length→Ev ad1 (.s1 l l.length k (p++ab2 (l.take k))) (0,p++ab2 l):=by
 intro j
 induction j with
 | zero=>
  intro k hk
  refine .done ?_
  rw [List.take_of_length_le (by omega)]
  simp [ad1,ar4,show ¬((k:Int)<l.length) by omega]
 | succ j ih=>
  intro k hk
  have hlt:k<l.length:=by omega
  have hx:=hl l[k] (List.getElem_mem hlt)
  have hs:=ck3 (xs:=l.take k) fun y hy=>hl y (List.mem_of_mem_take hy)
  rw [List.length_take] at hs
  refine .next (s' := .s1 l l.length ((k+1:Nat):Int) (p++ab2 (l.take (k+1)))) ?_ (ih (k+1) (by omega))
  have e:cB9 hx (b:=p++ab2 (l.take k)) (by simp;omega)=cB9 hx (b:=p++ab2 (l.take k)) (by simp;omega):=rfl
  have e2:ba4 l[k] (p++ab2 (l.take k))=some (p++ab2 (l.take (k+1))):=by
   rw [cB9 hx (by simp only [List.length_append];omega),bV2 hlt,do2,List.append_assoc]
  simp only [ad1,ar4,List.length_map,K0 hlt,ixB hlt,S5,Bool.and_self,cond_true,Int.toNat_natCast,List.getE hlt,Option.bind_some,e2,wS (show k<9223372036854775807 by omega)]
theorem aQ6 {l:List Int} (hl:as7 l) (h64:l.length≤64):aE9 l=some (0,encL l):=by
 have hn:=bX3 (n:=l.length) (by omega)
 refine u0 (.next (s' := .s1 l l.length 0 (ae7 l.length)) ?_ ?_)
 ·have h1:decide ((l.length:Int)>64)=false:=by simp;omega
  simp only [ad1,aH7,List.length_map,h1,cond_false,cH1 hn,Option.bind_some]
 ·have:=cS0 hl h64 (ae7 l.length) (aO1 hn) l.length 0 (by omega)
  simpa [ab2,encL] using this
/-! ### the document's writer -/
/-! ### the program's reader -/
def rI (at_:Nat) (x:Int⊕(Int×Nat)):Int×Int×Int:=match x with
 | .inl e=>(0,0,e)
 | .inr (n,k)=>(n,((at_+k:Nat):Int),0)
def rV (at_ i:Nat) (u:Nat) (x:Int⊕(Nat×Nat)):Int×Int×Int:=match x with
 | .inl e=>(0,0,e)
 | .inr (v,k)=>(bx0 (u+v*2^(7*i)),((at_+i+k:Nat):Int),0)
theorem dV1 (i:Nat):2^(7*(i+1))=2^(7*i)*128:=by rw [Nat.mul_succ,Nat.pow_add]
theorem dF3 {i:Nat} (h:i≤8):2^(7*i)≤72057594037927936:=by
 have:2^(7*i)≤2^(7*8):=Nat.pow_le_pow_right (by decide) (by omega)
 simpa using this
theorem dJ3 (at_ i u c:Nat) (r:Int⊕(Nat×Nat)) (h1:128≤c) (h2:c<256):rV at_ (i+1) (u+c%128*2^(7*i)) r=rV at_ i u (vS c r):=by
 cases r with
 | inl e=>rfl
 | inr p=>
  obtain ⟨v,k⟩:=p
  have e:c-128=c%128:=by omega
  simp only [rV,vS,e]
  have key:∀X:Nat,u+c%128*X+v*(X*128)=u+(c%128+128*v)*X:=fun X=>by
   have h3:v*(X*128)=128*v*X:=by rw [Nat.mul_comm X 128,←Nat.mul_assoc,Nat.mul_comm v 128]
   rw [Nat.add_mul];omega
  rw [dV1,key]
  refine Prod.ext rfl (Prod.ext ?_ rfl)
  show ((at_+(i+1)+k:Nat):Int)=((at_+i+(k+1):Nat):Int)
  omega
theorem dT5 {u i c:Nat} (hu:u<2^(7*i)) (hi:i≤9) (hc:c<256) (h9:i=9→c≤1):orI .u64 u (E6 .u64 (IntKind.u64.wrap (i9 .u8 c 127)) ((7*i:Nat):Int))=((u+c%128*2^(7*i):Nat):Int)∧u+c%128*2^(7*i)<18446744073709551616∧(i≤8→u+c%128*2^(7*i)<2^(7*(i+1))):=by
 have hb:u+c%128*2^(7*i)<18446744073709551616:=by
  rcases Nat.lt_or_ge i 9 with h | h
  ·have:=dF3 (show i≤8 by omega)
   have:c%128*2^(7*i)≤127*2^(7*i):=Nat.mul_le_mul_right _ (by omega)
   omega
  ·have e:i=9:=by omega
   subst e
   have:=h9 rfl
   have h2:c%128≤1:=by omega
   have h3:c%128*2^(7*9)≤1*2^(7*9):=Nat.mul_le_mul_right _ h2
   simp at hu h3 ⊢
   omega
 refine ⟨?_,hb,fun _=> ?_⟩
 ·rw [dT9 hc,aH5 (by omega)]
  exact dV9 hu hb (by omega)
 ·rw [dV1]
  have:c%128*2^(7*i)≤127*2^(7*i):=Nat.mul_le_mul_right _ (by omega)
  omega
theorem dF8 {L:List Int} (hb:r6 L) (at_:Nat) (hm:at_+L.length≤F6):∀(j i u:Nat),i+j=L.length→i≤9→u<2^(7*i)→Ev D4 (.s2 at_ u ((7*i:Nat):Int) L L.length i) (rV at_ i u (vd i (L.drop i))):=by
 intro j
 induction j with
 | zero=>
  intro i u hi h9 hu
  rw [List.drop_eq_nil_of_le (by omega)]
  refine .done ?_
  simp [D4,aQ9,vd,rV,show ¬((i:Int)<L.length) by omega]
 | succ j ih=>
  intro i u hi h9 hu
  have hlt:i<L.length:=by omega
  have hcb:=hb L[i] (List.getElem_mem hlt)
  obtain ⟨c,hc⟩:=Int.eq_ofNat_of_zero_le hcb.1
  rw [List.drop_eq_getElem_cons hlt,dM2]
  simp only [F6] at hm
  have e1:decide ((0:Int)≤i)=true:=by simp
  --the first step
  have s1:∀U,U=orI .u64 u (E6 .u64 (IntKind.u64.wrap (i9 .u8 L[i] 127)) ((7*i:Nat):Int))→D4 (.s2 at_ u ((7*i:Nat):Int) L L.length i)=some (.inl (.s4 at_ U ((7*i:Nat):Int) i L[i] L L.length i (decide (i=9∧1<L[i])))):=fun U hU=>by
   simp only [D4,aQ9,List.length_map,K0 hlt,ixB hlt,S5,Bool.and_self,cond_true,Int.toNat_natCast,List.getE hlt,Option.bind_some,nn0,←hU]
   by_cases h:i=9
   ·subst h
    simp
   ·have:(((7*i:Nat):Int)==63)=false:=by simp;omega
    rw [this]
    simp [h]
  by_cases hlong:(i=9∧1<L[i])∨(L[i]=0∧0<i)
  ·rw [if_pos hlong]
   obtain ⟨U,hU⟩:∃U,U=orI .u64 u (E6 .u64 (IntKind.u64.wrap (i9 .u8 L[i] 127)) ((7*i:Nat):Int)):=⟨_,rfl⟩
   refine .next (s1 U hU) (.next (s' := .s3 at_ U ((7*i:Nat):Int) i L[i] L L.length i true) ?_ (.done (by simp [D4,aG3,rV])))
   by_cases h9:i=9∧1<L[i]
   ·simp only [D4,av7,decide_eq_true h9,cond_true]
   ·have h0:=hlong.resolve_left h9
    simp only [D4,av7,decide_eq_false h9,cond_false,h0.1]
    simp
    omega
  ·rw [if_neg hlong]
   have hn9:¬(i=9∧1<L[i]):=fun h=>hlong (.inl h)
   have hn0:¬(L[i]=0∧0<i):=fun h=>hlong (.inr h)
   have hc256:c<256:=by omega
   obtain ⟨a1,a2,a3⟩:=dT5 hu h9 hc256 (fun h=>by omega)
   rw [←hc] at a1
   refine .next (s1 _ a1.symm) (.next (s' := .s3 at_ ((u+c%128*2^(7*i):Nat):Int) ((7*i:Nat):Int) i L[i] L L.length i false) ?_ ?_)
   ·have:decide (i=9∧1<L[i])=false:=by simpa using fun h=>by omega
    rw [this]
    by_cases h0:L[i]=0
    ·have:¬0<i:=fun h=>hn0 ⟨h0,h⟩
     simp [D4,av7,h0]
     omega
    ·simp [D4,av7,h0,beq_eq_false_iff_ne.2 h0]
   ·by_cases hlt128:L[i]<128
    ·rw [if_pos hlt128]
     refine .done ?_
     have hmod:c%128=c:=by omega
     simp only [D4,aG3,cond_false,decide_eq_true hlt128,cond_true,dC9 a2,rV]
     rw [u4 (n:=(at_:Int)+i) (by omega) (by omega),u4 (by omega) (by omega),hmod,hc]
     simp
    ·rw [if_neg hlt128]
     have hi8:i≤8:=by
      rcases Nat.lt_or_ge i 9 with h | h
      ·omega
      ·exact absurd ⟨show i=9 by omega,by omega⟩ hn9
     have:=ih (i+1) (u+c%128*2^(7*i)) (by omega) (by omega) (a3 hi8)
     have hres:=dJ3 at_ i u c (vd (i+1) (L.drop (i+1))) (by omega) (by omega)
     rw [show L[i].toNat=c by omega]
     rw [←hres]
     refine .next (s' := .s2 at_ ((u+c%128*2^(7*i):Nat):Int) ((7*(i+1):Nat):Int) L L.length ((i+1:Nat):Int)) ?_ this
     have e7:IntKind.i64.wrap (((7*i:Nat):Int)+7)=((7*(i+1):Nat):Int):=by rw [u4 (by omega) (by omega)];omega
     simp only [D4,aG3,cond_false,decide_eq_false hlt128,e7,wS (show i<9223372036854775807 by omega)]
theorem dX7 (at_:Nat) (L:List Int):rV at_ 0 0 (vd 0 L)=rI at_ (pI L):=by
 unfold pI rI rV
 cases vd 0 L with
 | inl e=>rfl
 | inr p=>obtain ⟨v,k⟩:=p;simp
theorem bD7 {b:List Int} (hb:r6 b) (hm:b.length≤F6) {at_:Nat} (h:at_≤b.length):bE8 b at_=some (rI at_ (pI (b.drop at_))):=by
 refine u0 (.next (s' := .s1 b at_ false) ?_ (.next (s' := .s2 at_ 0 0 (b.drop at_) (b.drop at_).length 0) ?_ ?_))
 ·have h1:decide ((at_:Int)<0)=false:=by simp
  have h2:decide ((at_:Int)>b.length)=false:=by simp;omega
  simp [D4,bm0,h1,h2]
  exact h
 ·have h1:(decide (((0:Nat):Int)≤at_)&&decide ((at_:Int)≤((b.length:Nat):Int)))=true:=by simp;omega
  simp only [D4,bl1,cond_false,List.length_map,h1,cond_true,Int.toNat_natCast,List.take_length]
 ·have:=dF8 (L:=b.drop at_) (fun c hc=>hb c (List.mem_of_mem_drop hc)) at_ (by simp only [List.length_drop];omega) (b.drop at_).length 0 0 (by omega) (by omega) (by simp)
  rw [List.drop_zero,dX7] at this
  exact this
/-! ### the document's reader -/
/-! ### lists, read -/
def rL (at_:Nat) (x:Int⊕(List Int×Nat)):List Int×Int×Int:=match x with
 | .inl e=>([],0,e)
 | .inr (xs,k)=>(xs,((at_+k:Nat):Int),0)
def rN (out:List Int) (at_:Nat) (x:Int⊕(List Int×Nat)):List Int×Int×Int:=match x with
 | .inl e=>([],0,e)
 | .inr (xs,k)=>(out++xs,((at_+k:Nat):Int),0)
theorem dG5 {l:List Int}{n:Int}{k:Nat} (hb:r6 l) (h:pI l= .inr (n,k)):k≤l.length:=(bR4 hb h).2.1
theorem bo5 {l:List Int}{e:Int} (h:pI l= .inl e):(e !=0)=true:=by rcases dt6 h with rfl | rfl<;>rfl
theorem dP2 (out:List Int) (x:Int) (b:List Int) (j at_ k:Nat):rN (out++ [x]) (at_+k) (pN j (b.drop (at_+k)))=rN out at_ (pS x k (pN j ((b.drop at_).drop k))):=by
 rw [List.drop_drop]
 cases pN j (b.drop (at_+k)) with
 | inl e=>rfl
 | inr p=>obtain ⟨xs,m⟩:=p;simp [rN,pS,Nat.add_assoc]
theorem dL8 (b:List Int) (t at_ k:Nat):rN [] (at_+k) (pN t (b.drop (at_+k)))=rL at_ (pK k (pN t ((b.drop at_).drop k))):=by
 rw [List.drop_drop]
 cases pN t (b.drop (at_+k)) with
 | inl e=>rfl
 | inr p=>obtain ⟨xs,m⟩:=p;simp [rN,rL,pK,Nat.add_assoc]
theorem ds9 {b:List Int} (hb:r6 b) (hm:b.length≤F6) (t:Nat) (ht:t≤64):∀(j i at_:Nat) (out:List Int),i+j=t→at_≤b.length→out.length=i→Ev H4 (.s1 b at_ 0 t i out) (rN out at_ (pN j (b.drop at_))):=by
 intro j
 induction j with
 | zero=>
  intro i at_ out hi hat ho
  refine .next (s' := .s2 at_ 0 out) ?_ (.done (by simp [H4,ax9,pN,rN]))
  simp [H4,an9,show ¬((i:Int)<t) by omega]
 | succ j ih=>
  intro i at_ out hi hat ho
  have hlt:i<t:=by omega
  cases hp:pI (b.drop at_) with
  | inl e=>
   rw [dU6 hp]
   refine .next (s' := .s2 0 e out) ?_ (.done ?_)
   ·simp only [H4,an9,K0 hlt,cond_true,bD7 hb hm hat,hp,rI,Option.bind_some,bo5 hp]
   ·simp only [H4,ax9,bo5 hp,cond_true,rN]
  | inr p=>
   obtain ⟨x,k⟩:=p
   have hk:=dG5 (fun c hc=>hb c (List.mem_of_mem_drop hc)) hp
   rw [List.length_drop] at hk
   have:=ih (i+1) (at_+k) (out++ [x]) (by omega) (by omega) (by simp [ho])
   rw [dR3 hp,←dP2]
   refine .next (s' := .s1 b ((at_+k:Nat):Int) 0 t ((i+1:Nat):Int) (out++ [x])) ?_ this
   have hl:decide (((List.map (d7 .i64) out).length+1)*8≤i7)=true:=D3 (by simp;omega)
   simp only [H4,an9,K0 hlt,cond_true,bD7 hb hm hat,hp,rI,Option.bind_some,hl,wS (show i<9223372036854775807 by omega)]
   simp
theorem bY1 {b:List Int} (hb:r6 b) (hm:b.length≤F6) {at_:Nat} (h:at_≤b.length):aO4 b at_=some (rL at_ (pL (b.drop at_))):=by
 have hsz:∀x:Int×Int×Int,J3 b at_ 64=some x→H4 (.s0 b at_)=some (.inl (.s1 b x.2.1 x.2.2 x.1 0 [])):=fun x hx=>by
  simp only [H4,ba2,hx,Option.bind_some]
 have bad:∀e:Int,(e !=0)=true→J3 b at_ 64=some (0,0,e)→aO4 b at_=some ([],0,e):=fun e he hx=>
  u0 (.next (hsz _ hx) (.next (s' := .s2 0 e []) (by simp [H4,an9]) (.done (by simp only [H4,ax9,he,cond_true]))))
 cases hp:pI (b.drop at_) with
 | inl e=>rw [dS0 hp];exact bad e (bo5 hp) (by simp only [J3,bD7 hb hm h,hp,rI,Option.bind_some,bo5 hp,cond_true])
 | inr p=>
  obtain ⟨n,k⟩:=p
  have hk:=dG5 (fun c hc=>hb c (List.mem_of_mem_drop hc)) hp
  rw [List.length_drop] at hk
  by_cases hbig:n<0∨n>64
  ·rw [dU9 hp hbig]
   refine bad 2 rfl ?_
   simp only [J3,bD7 hb hm h,hp,rI,Option.bind_some]
   by_cases h0:n<0
   ·simp [h0,L7]
   ·have:n>64:=by omega
    simp [h0,this,L7]
  ·have hs:J3 b at_ 64=some (n,((at_+k:Nat):Int),0):=by
    simp only [J3,bD7 hb hm h,hp,rI,Option.bind_some]
    simp [show ¬n<0 by omega,show ¬64<n by omega,L7]
   rw [dS5 hp hbig,←dL8]
   obtain ⟨t,rfl⟩:=Int.eq_ofNat_of_zero_le (show 0≤n by omega)
   exact u0 (.next (hsz _ hs) (ds9 hb hm t (by omega) t 0 (at_+k) [] (by omega) (by omega) rfl))
end Go.RX.L

namespace Go.RX.L
open Go Go.RX Go.Proofs
attribute [local irreducible] f5
noncomputable def cA5 (y:Int×Int×Int×Int×Int×Int×Int×Int×Int×Int):D×f3:=(.agg [.int .i64 y.1,.int .i64 y.2.1,.int .i64 y.2.2.1,.int .i64 y.2.2.2.1,.int .i64 y.2.2.2.2.1,.int .i64 y.2.2.2.2.2.1,.int .i64 y.2.2.2.2.2.2.1,.int .i64 y.2.2.2.2.2.2.2.1,.int .i64 y.2.2.2.2.2.2.2.2.1,.int .i64 y.2.2.2.2.2.2.2.2.2],[])
noncomputable def ah3 (p_:Plan):Option (Int×Int×Int×Int×Int×Int×Int×Int×Int×Int):=(some (p_.Epoch,p_.Target,p_.Prev,p_.Spill,p_.Percent,p_.Stamp,p_.Since,p_.Ramped,(IntKind.i64.wrap (p_.Up)),(IntKind.i64.wrap (p_.Sup))))
theorem aS7 {p_:Plan}{r:Int×Int×Int×Int×Int×Int×Int×Int×Int×Int} (h:ah3 p_=some r):i0 E 131 [.agg (Plan.enc p_)] [] (Rs cA5 r):=so (fn:=Tryz.f131) (k:=false) (m:=0) h<| by
 intro r h;unfold ah3 at h
 exact zu 47 h
end Go.RX.L
